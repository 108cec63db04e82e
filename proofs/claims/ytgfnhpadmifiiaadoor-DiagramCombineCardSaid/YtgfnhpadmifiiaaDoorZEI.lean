/- Merged and trimmed by a program: D17 D18 D19 D20 D21 D22 D23 D24 D25 D26 D27 D28 D29. -/
import Derived.Test.YtgfnhpadmifiiaaDoorZEH
set_option linter.unusedVariables false
set_option linter.unusedSimpArgs false
set_option linter.defProp false
namespace Go.Proofs.YtgfnhpadmifiiaaDoor
namespace Abs
noncomputable section
theorem iY(ns:List DS1)(f:Nat){r:Int}(h:r<0)(fs:List Int):vlF ns f r fs=-1-r:=by
 cases f with
 |zero=>rfl
 |succ f=>simp only[vlF];rw[if_pos h]
theorem nL(ns:List DS1)(f:Nat){r:Int}(h:0<=r)(fs:List Int):vlF ns (f+1) r fs=vlF ns f ((kids ns r.toNat).getD (brK (ns.getD r.toNat zN).2.1 (fs.getD (ns.getD r.toNat zN).1.toNat 0)) 0) fs:=by
 simp only[vlF];rw[if_neg (by omega)]
section
variable{dm:List DS3}{ns:List DS1}
theorem vT(hs:iC dm ns){r:Nat}(hr:r<ns.length)(v:Int):brK (ns.getD r zN).2.1 v<(kids ns r).length:=by
 have:=sZ (ns.getD r zN).2.1 v
 have h4:=(hs r hr).2.2.2.1
 have:(kids ns r).length=(ns.getD r zN).2.1.length+1:=h4
 omega
theorem lZ(hs:iC dm ns){r:Nat}(hr:r<ns.length){k:Nat}(hk:k<(kids ns r).length):jm ns.length ((kids ns r).getD k 0):=((hs r hr).2.2.2.2.2 k hk).1
theorem Dv(hd:gX dm)(hs:iC dm ns){r:Nat}(hr:r<ns.length){k:Nat}(hk:k<(kids ns r).length):rkI (rkA ns) ((kids ns r).getD k 0)<=rkA ns r:=by
 have hk2:=((lY hd hs).1 r hr).2 _ (aJ hk)
 rw[getD_eq _ _ _ hk]
 unfold rkI
 split
 .omega
 .exact hk2.2 (by omega)
theorem PD(hd:gX dm)(hs:iC dm ns):∀(m f f':Nat) (r:Int) (fs:List Int),rkI (rkA ns) r<=m->m<=f->m<=f'->r<(ns.length:Int)->vlF ns f r fs=vlF ns f' r fs:=by
 intro m
 induction m with
 |zero =>
  intro f f' r fs h _ _ _
  have:r<0:=by unfold rkI at h;split at h;assumption;omega
  rw[iY ns f this,iY ns f' this]
 |succ m ih =>
  intro f f' r fs h h1 h2 hr
  rcases eZ r 0 with q|q
  .rw[iY ns f q,iY ns f' q]
  obtain⟨g,rfl⟩:∃g,f=g+1:=⟨f-1,by omega⟩
  obtain⟨g',rfl⟩:∃g',f'=g'+1:=⟨f'-1,by omega⟩
  rw[nL ns g q,nL ns g' q]
  have hrt:r.toNat<ns.length:=by omega
  have hk:=vT hs hrt (fs.getD (ns.getD r.toNat zN).1.toNat 0)
  unfold rkI at h
  rw[if_neg (by omega)]at h
  exact ih g g' _ fs (cZ (Dv hd hs hrt hk) (by omega)) (by omega) (by omega) (lZ hs hrt hk).2
theorem Xx(hd:gX dm)(hs:iC dm ns)(root:Int)(hr:jm ns.length root)(hn:ns.length<=1000)(fs:List Int)(hf:fs.length=dm.length):m25 (ns,root,()) fs=some (vlF ns 9 root fs,()):=by
 refine T.eq ?_
 unfold m25
 have hN:=aR ns
 have hF:=aR fs
 refine T.loop (λq=>∃(f:Nat) (r:Int),jm ns.length r/\rkI (rkA ns) r<=f/\vlF ns 9 root fs=vlF ns f r fs/\q=(fs,r,ns,root,())) (λq=>rkI (rkA ns) q.2.1) ⟨9,root,hr,?_,rfl,rfl⟩ ?_
 .unfold rkI
  split
  .omega
  .have:=(lY hd hs).2 root.toNat (by have:=hr.2;omega);omega
 rintro _ ⟨f,r,hr,hfr,hv,rfl⟩
 dsimp only
 rw[hN]
 refine T.cnd (λhc=>?_) (λhc=>?_)<;>simp only[fU,gq]at hc
 .have hr2:=hr.2
  have hrt:r.toNat<ns.length:=by omega
  have hsr:=hs r.toNat hrt
  have h1:=hsr.1
  have h2:=hsr.2.1
  have h4:=hsr.2.2.2.1
  have hle:=hsr.len hd
  have eN:atI ns r (0,[],[],())=ns.getD r.toNat zN:=rfl
  have eK:(ns.getD r.toNat zN).2.2.1=kids ns r.toNat:=rfl
  have hC:=aR (ns.getD r.toNat zN).2.1
  have hK:=aR (kids ns r.toNat)
  have hkl:(kids ns r.toNat).length=(ns.getD r.toNat zN).2.1.length+1:=h4
  have eA:atI fs (ns.getD r.toNat zN).1 0=fs.getD (ns.getD r.toNat zN).1.toNat 0:=rfl
  obtain⟨f',rfl⟩:∃f',f=f'+1:=⟨f-1,by unfold rkI at hfr;rw[if_neg (by omega)]at hfr;omega⟩
  rw[nL ns f' hc]at hv
  rw[eN,eK]
  refine T.grd (by rw[bf];omega) ?_
  refine T.loop (λq=>∃k:Nat,k<=(ns.getD r.toNat zN).2.1.length/\(∀j,j<k->(ns.getD r.toNat zN).2.1.getD j 0<=fs.getD (ns.getD r.toNat zN).1.toNat 0)/\q=(fs,(k:Int),ns,root,(ns.getD r.toNat zN).1,(ns.getD r.toNat zN).2.1,kids ns r.toNat,())) (λq=>(ns.getD r.toNat zN).2.1.length-q.2.1.toNat) ⟨0,by omega,λj hj=>by omega,rfl⟩ ?_
  rintro _ ⟨k,hk,hj,rfl⟩
  dsimp only
  rw[hC,hF,hK,eA,dF,dF]
  refine T.grd (by rw[eY,bf];left;omega) (T.grd ?_ (T.cnd (λhc2=>?_) (λhc2=>?_)))
  .rw[eY,bf,dO,fC,bq];omega
  .rw[dM,bD,fU]at hc2
   refine T.go ⟨k+1,by omega,λj hj2=>?_,by rw[aY (by omega) (by omega)];rfl⟩ (by dsimp only;rw[aY (by omega) (by omega)];omega)
   rcases aM j k with q|q
   .exact hj j q
   .obtain rfl:j=k:=by omega
    exact hc2.2
  .rw[dS,bq,gq]at hc2
   have hb:brK (ns.getD r.toNat zN).2.1 (fs.getD (ns.getD r.toNat zN).1.toNat 0)=k:=BH _ _ k hk hj (by rcases hc2 with q|q;left;omega;right;exact q)
   have hkk:k<(kids ns r.toNat).length:=by omega
   have hrk:=Dv hd hs hrt hkk
   have hfr2:=hfr
   unfold rkI at hfr2
   rw[if_neg (by omega)]at hfr2
   refine T.lT (T.grd (by rw[bf];omega) (T.ret (show LQ _ _ _ _ (Sum.inl _) from⟨⟨f',_,lZ hs hrt hkk,by omega,by rw[hv,hb],rfl⟩,?_⟩)))
   show rkI (rkA ns) ((kids ns r.toNat).getD k 0)<rkI (rkA ns) r
   have:rkI (rkA ns) r=rkA ns r.toNat+1:=by unfold rkI;rw[if_neg (by omega)]
   omega
 .have hr1:=hr.1
  refine T.out ?_
  rw[hv,iY ns f hc,eF (by omega) (by omega)]
end
theorem FH(r:List Int)(g:List (List Int))(k:Nat):atS (r::g) k=r.getD ((k/bS g)%r.length) 0::atS g k:=by
 unfold atS
 rw[bI,List.range_succ_eq_map,dn,iO]
 congr 1
theorem Ug:∀(g:List (List Int)),(∀r∈g,1<=r.length)->∀c k,atS g (c*bS g+k)=atS g k:=by
 intro g
 induction g with
 |nil=>intro _ c k;rfl
 |cons r g ih =>
  intro h c k
  have hr:=h r (by simp)
  have hp:1<=bS g:=by
   have:∀g':List (List Int),(∀r∈g',1<=r.length)->1<=bS g':=by
    intro g'
    induction g' with
    |nil=>intro _;simp[bS]
    |cons r g' ih=>intro h;simp only[bS];exact gH (h r (by simp)) (ih λx hx=>h x (by simp[hx]))
   exact this g λx hx=>h x (by simp[hx])
  rw[FH,FH]
  simp only[bS]
  have e:c*(r.length*bS g)+k=(c*r.length)*bS g+k:=by rw[yC]
  rw[e,ih (λx hx=>h x (by simp[hx])),zQ,Nat.add_mul_div_right _ _ (by omega),zQ,wh c,Ak]
theorem digit{c k P n:Nat}(hk:k<P)(hc:c<n):(c*P+k)/P%n=c:=by
 rw[zQ,Nat.add_mul_div_right _ _ (by omega),Nat.div_eq_of_lt hk,dJ,zO hc]
theorem uD{dm:List DS3}{ns:List DS1}{x:DS1}(h:mX dm ns x):x.2.1.Pairwise (·<·):=by
 rw[j5]
 have key:∀d i,i+d+1<x.2.1.length->x.2.1.getD i 0<x.2.1.getD (i+d+1) 0:=by
  intro d
  induction d with
  |zero=>intro i hi;have:=(h.2.2.2.2.1 (i+1) (by omega)).2.2 (by omega);rwa [jd]at this
  |succ d ih =>
   intro i hi
   have h1:=ih i (by omega)
   have h2:=(h.2.2.2.2.1 (i+d+1+1) (by omega)).2.2 (by omega)
   rw[jd]at h2
   have:i+(d+1)+1=i+d+1+1:=by omega
   rw[this];omega
 intro i j hi hj hij
 have:=key (j-i-1) i (by omega)
 rw[show i+(j-i-1)+1=j by omega,getD_eq _ _ _ hi,getD_eq _ _ _ hj]at this
 exact this
theorem a1H{g:List (List Int)}(hl:g.length<=6)(hp:∀r∈g,1<=r.length/\r.length<=2000000001)(hc:bS g<=8192):m47 g=some ((bS g:Int),()):=OW g hl (λr hr=>(hp r hr).1) hc
theorem U8:∀(cs:List Int) (v:Int) (j:Nat),j<cs.length->v<cs.getD j 0->brK cs v<=j:=by
 intro cs
 induction cs with
 |nil=>intro v j h;cases h
 |cons c cs ih =>
  intro v j hj hv
  simp only[brK]
  split
  .cases j with
   |zero=>simp at hv;omega
   |succ j=>have:=ih v j (by simpa using hj) (by simpa using hv);omega
  .omega
theorem GD:∀(cs:List Int) (v:Int) (j:Nat),j<brK cs v->cs.getD j 0<=v:=by
 intro cs
 induction cs with
 |nil=>intro v j h;cases h
 |cons c cs ih =>
  intro v j h
  simp only[brK]at h
  split at h
  .cases j with
   |zero=>simpa
   |succ j=>have:=ih v j (by omega);simpa using this
  .omega
section
variable{dm:List DS3}{ns:List DS1}{leaf:Int}
end
theorem KR(ns:List DS1)(O:List Nat){j:Nat}(h:j<O.length):(lF ns O)[j]'(by rw[mV];exact h)=imN ns O O[j]:=by simp[lF]
def FOk(dm:List DS3)(fs:List Int):Prop:=fs.length=dm.length/\∀i,i<dm.length->(dm.getD i zS).1<=fs.getD i 0/\fs.getD i 0<=(dm.getD i zS).2.1
def Red(dm:List DS3)(ns:List DS1):Prop:=iC dm ns/\∀i,i<ns.length->∀k,k<i->ns.getD k zN≠ns.getD i zN
theorem FOk.set{dm:List DS3}{fs:List Int}(h:FOk dm fs){i:Nat}(hi:i<dm.length){v:Int}(h1:(dm.getD i zS).1<=v)(h2:v<=(dm.getD i zS).2.1):FOk dm (fs.set i v):=by
 refine⟨by rw[bK];exact h.1,λj hj=>?_⟩
 rw[nN fs i j _ _ (by rw[h.1];exact hi)]
 split
 .rename_i e;subst e;exact⟨h1,h2⟩
 .exact h.2 j hj
theorem FOk.low{dm:List DS3}(hd:gX dm):FOk dm (dm.map λd=>d.1):=by
 refine⟨by simp,λi hi=>?_⟩
 have e:(dm.map λd=>d.1).getD i 0=(dm.getD i zS).1:=by rw[getD_eq _ _ _ (by simpa using hi),jY,getD_eq _ _ _ hi]
 have:=hd.at hi
 omega
theorem Xb(cs:List Int)(c:Int)(h:c∉cs):brK cs c=brK cs (c-1):=by
 induction cs with
 |nil=>rfl
 |cons a cs ih =>
  simp only[bT,not_or]at h
  simp only[brK]
  rw[ih h.2]
  by_cases q:a<=c
  .rw[if_pos q,if_pos (by omega)]
  .rw[if_neg q,if_neg (by omega)]
theorem CG{cs:List Int}(h:cs.Pairwise (·<·)){k:Nat}(hk:k<cs.length):brK cs (cs.getD k 0)=k+1/\brK cs (cs.getD k 0-1)=k:=by
 have hp:=j5.1 h
 have e:=getD_eq cs k 0 hk
 constructor
 .refine BH _ _ _ (by omega) (λj hj=>?_) ?_
  .rw[getD_eq cs j 0 (by omega),e]
   rcases aM j k with q|q
   .exact zX (hp j k (by omega) hk q)
   .obtain rfl:j=k:=by omega
    exact nV _
  .rcases aM (k+1) cs.length with q|q
   .right;rw[getD_eq cs (k+1) 0 q,e];exact hp k (k+1) hk q (by omega)
   .left;omega
 .refine BH _ _ _ (by omega) (λj hj=>?_) (.inr (by omega))
  rw[getD_eq cs j 0 (by omega),e]
  have:=hp j k (by omega) hk hj
  omega
theorem PN:∀{a b:List Int},a.Pairwise (·<·)->b.Pairwise (·<·)->(∀x,x∈a↔x∈b)->a=b:=by
 intro a
 induction a with
 |nil =>
  intro b _ _ h
  cases b with
  |nil=>rfl
  |cons y b=>exact absurd ((h y).2 (by simp)) (by simp)
 |cons x a ih =>
  intro b ha hb h
  cases b with
  |nil=>exact absurd ((h x).1 (by simp)) (by simp)
  |cons y b =>
   have ha':=iN.1 ha
   have hb':=iN.1 hb
   have hxy:x=y:=by
    rcases bT.1 ((h x).1 (by simp)) with q|q
    .exact q
    .rcases bT.1 ((h y).2 (by simp)) with r|r
     .exact r.symm
     .have:=ha'.1 y r;have:=hb'.1 x q;omega
   subst hxy
   rw[ih ha'.2 hb'.2 λz=>⟨λhz=>?_,λhz=>?_⟩]
   .rcases bT.1 ((h z).1 (by simp[hz])) with r|r
    .have:=ha'.1 z hz;omega
    .exact r
   .rcases bT.1 ((h z).2 (by simp[hz])) with r|r
    .have:=hb'.1 z hz;omega
    .exact r
section
variable{dm:List DS3}
theorem vZ{ns:List DS1}(hd:gX dm)(hs:iC dm ns){r:Int}(h0:0<=r)(hr:r<(ns.length:Int))(fs:List Int):vlF ns 9 r fs=vlF ns 9 ((kids ns r.toNat).getD (brK (ns.getD r.toNat zN).2.1 (fs.getD (ns.getD r.toNat zN).1.toNat 0)) 0) fs:=by
 have hrt:r.toNat<ns.length:=by omega
 rw[nL ns 8 h0]
 have hk2:=vT hs hrt (fs.getD (ns.getD r.toNat zN).1.toNat 0)
 have hrk:=Dv hd hs hrt hk2
 have:=(lY hd hs).2 r.toNat hrt
 exact PD hd hs 8 8 9 _ _ (by omega) (by omega) (by omega) (lZ hs hrt hk2).2
theorem Aj{ns:List DS1}(hd:gX dm)(hs:iC dm ns)(i:Nat)(v:Int)(fs:List Int):∀(f:Nat) (r:Int),r<(ns.length:Int)->i<lvl dm ns r->vlF ns f r (fs.set i v)=vlF ns f r fs:=by
 intro f
 induction f with
 |zero=>intro r _ _;rfl
 |succ f ih =>
  intro r hr hl
  rcases eZ r 0 with q|q
  .rw[iY _ _ q,iY _ _ q]
  have hrt:r.toNat<ns.length:=by omega
  unfold lvl at hl
  rw[if_neg (by omega)]at hl
  rw[nL _ _ q,nL _ _ q]
  have e:(fs.set i v).getD (ns.getD r.toNat zN).1.toNat 0=fs.getD (ns.getD r.toNat zN).1.toNat 0:=by
   rw[aQ,aB (by omega),<- aQ]
  rw[e]
  have hk:=vT hs hrt (fs.getD (ns.getD r.toNat zN).1.toNat 0)
  have:=qj hd hs hrt hk
  exact ih _ (lZ hs hrt hk).2 (by omega)
def nD(dm:List DS3)(ns ns':List DS1)(r r':Int):Prop:=r<(ns.length:Int)/\r'<(ns'.length:Int)/\∀fs,FOk dm fs->vlF ns 9 r fs=vlF ns' 9 r' fs
theorem nD.symm{ns ns':List DS1}{r r':Int}(h:nD dm ns ns' r r'):nD dm ns' ns r' r:=⟨h.2.1,h.1,λfs q=>(h.2.2 fs q).symm⟩
theorem nD.trans{ns ns' a3D:List DS1}{r r' r'':Int}(h:nD dm ns ns' r r')(k:nD dm ns' a3D r' r''):nD dm ns a3D r r'':=⟨h.1,k.2.1,λfs q=>(h.2.2 fs q).trans (k.2.2 fs q)⟩
def Aq(dm:List DS3)(ns:List DS1)(i:Nat):Prop:=∀r r',i<=lvl dm ns r->i<=lvl dm ns r'->nD dm ns ns r r'->r=r'
theorem MH {ns:List DS1} (hd:gX dm) (hs:iC dm ns) {r:Int} (h0:0<=r) (hr:r < (ns.length:Int)) (hI:Aq dm ns ((ns.getD r.toNat zN).1.toNat + 1)) {k:Nat} (hk:k < (ns.getD r.toNat zN).2.1.length) :
  ∃fs,FOk dm fs/\FOk dm (fs.set (ns.getD r.toNat zN).1.toNat ((ns.getD r.toNat zN).2.1.getD k 0))/\FOk dm (fs.set (ns.getD r.toNat zN).1.toNat ((ns.getD r.toNat zN).2.1.getD k 0-1))/\vlF ns 9 r (fs.set (ns.getD r.toNat zN).1.toNat ((ns.getD r.toNat zN).2.1.getD k 0))≠vlF ns 9 r (fs.set (ns.getD r.toNat zN).1.toNat ((ns.getD r.toNat zN).2.1.getD k 0-1)):=by
 have hrt:r.toNat<ns.length:=by omega
 have hsr:=hs _ hrt
 have hkl:(kids ns r.toNat).length=(ns.getD r.toNat zN).2.1.length+1:=hsr.2.2.2.1
 have h1:=qj hd hs hrt (k:=k) (by omega)
 have h2:=qj hd hs hrt (k:=k+1) (by omega)
 have hne:(kids ns r.toNat).getD (k+1) 0≠(kids ns r.toNat).getD k 0:=by
  have:=(hsr.2.2.2.2.2 (k+1) (by show k+1<(kids ns r.toNat).length;omega)).2.1 (by omega)
  exact this
 have hx:¬nD dm ns ns ((kids ns r.toNat).getD (k+1) 0) ((kids ns r.toNat).getD k 0):=λq=>hne (hI _ _ h2 h1 q)
 have r1:=lZ hs hrt (k:=k) (by omega)
 have r2:=lZ hs hrt (k:=k+1) (by omega)
 have hx2:¬∀fs,FOk dm fs->vlF ns 9 ((kids ns r.toNat).getD (k+1) 0) fs=vlF ns 9 ((kids ns r.toNat).getD k 0) fs:=λq=>hx ⟨r2.2,r1.2,q⟩
 obtain⟨fs,hfs⟩:=Classical.not_forall.1 hx2
 obtain⟨hf,hv⟩:=Classical.not_imp.1 hfs
 obtain⟨c1,c2,_⟩:=hsr.2.2.2.2.1 k hk
 have ha:(ns.getD r.toNat zN).1.toNat<dm.length:=by have:=hsr.1;have:=hsr.2.1;omega
 refine⟨fs,hf,hf.set ha (by omega) c2,hf.set ha (by omega) (by omega),?_⟩
 rw[vZ hd hs h0 hr,vZ hd hs h0 hr]
 have e1:∀v,(fs.set (ns.getD r.toNat zN).1.toNat v).getD (ns.getD r.toNat zN).1.toNat 0=v:=λv=>by
  rw[nN _ _ _ _ _ (by rw[hf.1];exact ha),if_pos rfl]
 have hso:=uD hsr
 rw[e1,e1,(CG hso hk).1,(CG hso hk).2,Aj hd hs _ _ _ _ _ r2.2 (by omega),Aj hd hs _ _ _ _ _ r1.2 (by omega)]
 exact hv
theorem Oe {ns ns':List DS1} (hd:gX dm) (hs:iC dm ns) (hs':iC dm ns') {i:Nat} (hI:Aq dm ns (i + 1)) (hI':Aq dm ns' (i + 1)) {r r':Int} (hl:i<=lvl dm ns r) (hl':i<=lvl dm ns' r') (h:nD dm ns ns' r r') :
  (r<0/\r'=r)\/(0<=r/\0<=r'/\(ns.getD r.toNat zN).1=(ns'.getD r'.toNat zN).1/\(ns.getD r.toNat zN).2.1=(ns'.getD r'.toNat zN).2.1/\(kids ns r.toNat).length=(kids ns' r'.toNat).length/\∀k,k<(kids ns r.toNat).length->nD dm ns ns' ((kids ns r.toNat).getD k 0) ((kids ns' r'.toNat).getD k 0)):=by
 have mI:∀{ns:List DS1} {a b:Nat},Aq dm ns a->a<=b->Aq dm ns b:=λq hab r r' h1 h2 h3=>q r r' (by omega) (by omega) h3
 have key:∀{ns ns':List DS1} {r r':Int},iC dm ns->iC dm ns'->Aq dm ns (i+1)->i<=lvl dm ns r->nD dm ns ns' r r'->0<=r->lvl dm ns' r'<=lvl dm ns r:=by
  intro ns ns' r r' hs hs' hI hl h h0
  have hrt:r.toNat<ns.length:=by have:=h.1;omega
  have e:lvl dm ns r=(ns.getD r.toNat zN).1.toNat:=by unfold lvl;rw[if_neg (by omega)]
  rcases aM (lvl dm ns r) (lvl dm ns' r') with q|q
  .exfalso
   obtain⟨fs,f1,f2,f3,f4⟩:=MH hd hs h0 h.1 (mI hI (by omega)) (k:=0) (hs _ hrt).2.2.1
   refine f4 ?_
   rw[h.2.2 _ f2,h.2.2 _ f3,Aj hd hs' _ _ _ _ _ h.2.1 (by omega),Aj hd hs' _ _ _ _ _ h.2.1 (by omega)]
  .exact q
 have TV:∀{ns ns':List DS1} {r r':Int},iC dm ns->iC dm ns'->Aq dm ns (i+1)->i<=lvl dm ns r->nD dm ns ns' r r'->0<=r->0<=r'->(ns.getD r.toNat zN).1=(ns'.getD r'.toNat zN).1->∀c∈(ns.getD r.toNat zN).2.1,c∈(ns'.getD r'.toNat zN).2.1:=by
  intro ns ns' r r' hs hs' hI hl h h0 h0' ha c hc
  have hrt:r.toNat<ns.length:=by have:=h.1;omega
  have vU:r'.toNat<ns'.length:=by have:=h.2.1;omega
  have e:lvl dm ns r=(ns.getD r.toNat zN).1.toNat:=by unfold lvl;rw[if_neg (by omega)]
  refine kL λhn=>?_
  obtain⟨k,hk,rfl⟩:=fD hc
  obtain⟨fs,f1,f2,f3,f4⟩:=MH hd hs h0 h.1 (mI hI (by omega)) hk
  rw[<- getD_eq _ _ 0 hk]at hn
  refine f4 ?_
  have hal:(ns.getD r.toNat zN).1.toNat<dm.length:=by have:=(hs _ hrt).1;have:=(hs _ hrt).2.1;omega
  have e1:∀v,(fs.set (ns.getD r.toNat zN).1.toNat v).getD (ns.getD r.toNat zN).1.toNat 0=v:=λv=>by
   rw[nN _ _ _ _ _ (by rw[f1.1];exact hal),if_pos rfl]
  rw[h.2.2 _ f2,h.2.2 _ f3,vZ hd hs' h0' h.2.1,vZ hd hs' h0' h.2.1,<- ha,e1,e1,Xb _ _ hn]
  have hk':=vT hs' vU ((ns.getD r.toNat zN).2.1.getD k 0-1)
  have hlk:=qj hd hs' vU hk'
  rw[<- ha]at hlk
  have hrf:=(lZ hs' vU hk').2
  rw[Aj hd hs' _ _ _ _ _ hrf (by omega),Aj hd hs' _ _ _ _ _ hrf (by omega)]
 rcases eZ r 0 with q|q
 .rcases eZ r' 0 with q'|q'
  .left
   refine⟨q,?_⟩
   have:=h.2.2 _ (FOk.low hd)
   rw[iY _ _ q,iY _ _ q']at this
   omega
  .exfalso
   have:=key hs' hs hI' hl' h.symm q'
   have e:lvl dm ns r=dm.length:=by unfold lvl;rw[if_pos q]
   have e':lvl dm ns' r'=(ns'.getD r'.toNat zN).1.toNat:=by unfold lvl;rw[if_neg (by omega)]
   have:=hs' r'.toNat (by have:=h.2.1;omega)
   have:=this.1
   have:=(hs' r'.toNat (by have:=h.2.1;omega)).2.1
   omega
 .have k1:=key hs hs' hI hl h q
  have hrt:r.toNat<ns.length:=by have:=h.1;omega
  have e:lvl dm ns r=(ns.getD r.toNat zN).1.toNat:=by unfold lvl;rw[if_neg (by omega)]
  have a1:=(hs _ hrt).1
  have a2:=(hs _ hrt).2.1
  rcases eZ r' 0 with q'|q'
  .exfalso
   have e':lvl dm ns' r'=dm.length:=by unfold lvl;rw[if_pos q']
   omega
  .right
   have k2:=key hs' hs hI' hl' h.symm q'
   have e':lvl dm ns' r'=(ns'.getD r'.toNat zN).1.toNat:=by unfold lvl;rw[if_neg (by omega)]
   have vU:r'.toNat<ns'.length:=by have:=h.2.1;omega
   have b1:=(hs' _ vU).1
   have b2:=(hs' _ vU).2.1
   have ha:(ns.getD r.toNat zN).1=(ns'.getD r'.toNat zN).1:=by omega
   have hcs:(ns.getD r.toNat zN).2.1=(ns'.getD r'.toNat zN).2.1:=PN (uD (hs _ hrt)) (uD (hs' _ vU)) λx=>⟨TV hs hs' hI hl h q q' ha x,TV hs' hs hI' hl' h.symm q' q ha.symm x⟩
   have hkl:(kids ns r.toNat).length=(ns.getD r.toNat zN).2.1.length+1:=(hs _ hrt).2.2.2.1
   have hkl':(kids ns' r'.toNat).length=(ns'.getD r'.toNat zN).2.1.length+1:=(hs' _ vU).2.2.2.1
   refine⟨q,q',ha,hcs,by rw[hkl,hkl',hcs],λk hk=>?_⟩
   have hk':k<(kids ns' r'.toNat).length:=by rw[hkl',<- hcs,<- hkl];exact hk
   refine⟨(lZ hs hrt hk).2,(lZ hs' vU hk').2,λfs hf=>?_⟩
   have hal:(ns.getD r.toNat zN).1.toNat<dm.length:=by omega
   obtain⟨v,v1,v2,v3⟩:∃v,(dm.getD (ns.getD r.toNat zN).1.toNat zS).1<=v/\v<=(dm.getD (ns.getD r.toNat zN).1.toNat zS).2.1/\brK (ns.getD r.toNat zN).2.1 v=k:=by
    cases k with
    |zero =>
     have hb:=hd.at hal
     have c0:=(hs _ hrt).2.2.2.2.1 0 (hs _ hrt).2.2.1
     exact⟨_,nV _,hb.1,BH _ _ 0 (by omega) (λj hj=>by omega) (.inr c0.1)⟩
    |succ k =>
     have ck:=(hs _ hrt).2.2.2.2.1 k (by omega)
     exact⟨_,zX ck.1,ck.2.1,(CG (uD (hs _ hrt)) (by omega)).1⟩
   have e1:(fs.set (ns.getD r.toNat zN).1.toNat v).getD (ns.getD r.toNat zN).1.toNat 0=v:=by
    rw[nN _ _ _ _ _ (by rw[hf.1];exact hal),if_pos rfl]
   have hv:=h.2.2 _ (hf.set hal v1 v2)
   rw[vZ hd hs q h.1,vZ hd hs' q' h.2.1,<- ha,<- hcs,e1,v3]at hv
   have l1:=qj hd hs hrt hk
   have l2:=qj hd hs' vU hk'
   rw[Aj hd hs _ _ _ _ _ (lZ hs hrt hk).2 (by omega),Aj hd hs' _ _ _ _ _ (lZ hs' vU hk').2 (by omega)]at hv
   exact hv
theorem QC{ns:List DS1}(hd:gX dm)(hR:Red dm ns):∀(n i:Nat),dm.length<=i+n->Aq dm ns i:=by
 obtain⟨hs,hdi⟩:=hR
 intro n
 induction n with
 |zero =>
  intro i hi r r' hl hl' h
  have neg:∀r,r<(ns.length:Int)->i<=lvl dm ns r->r<0:=λr hr hl=>by
   rcases eZ r 0 with q|q
   .exact q
   .unfold lvl at hl
    rw[if_neg (by omega)]at hl
    have:=(hs r.toNat (by omega)).1
    have:=(hs r.toNat (by omega)).2.1
    omega
  have h1:=neg r h.1 hl
  have h2:=neg r' h.2.1 hl'
  have:=h.2.2 _ (FOk.low hd)
  rw[iY _ _ h1,iY _ _ h2]at this
  omega
 |succ n ih =>
  intro i hi r r' hl hl' h
  have hI:=ih (i+1) (by omega)
  rcases Oe hd hs hs hI hI hl hl' h with⟨q1,q2⟩|⟨q,q',a1,a2,a3,a4⟩
  .exact q2.symm
  .have hrt:r.toNat<ns.length:=by have:=h.1;omega
   have vU:r'.toNat<ns.length:=by have:=h.2.1;omega
   have e:lvl dm ns r=(ns.getD r.toNat zN).1.toNat:=by unfold lvl;rw[if_neg (by omega)]
   have e':lvl dm ns r'=(ns.getD r'.toNat zN).1.toNat:=by unfold lvl;rw[if_neg (by omega)]
   have hk:kids ns r.toNat=kids ns r'.toNat:=by
    apply gB a3
    intro k h1 h2
    have l1:=qj hd hs hrt h1
    have l2:=qj hd hs vU h2
    have:=hI _ _ (by omega) (by omega) (a4 k h1)
    rwa [getD_eq _ _ _ h1,getD_eq _ _ _ h2]at this
   have e5:ns.getD r.toNat zN=ns.getD r'.toNat zN:=lV a1 (lV a2 (lV hk rfl))
   rcases oJ r.toNat r'.toNat with z|z|z
   .exact absurd e5 (hdi _ vU _ z)
   .omega
   .exact absurd e5.symm (hdi _ hrt _ z)
theorem Red.inj{ns:List DS1}(hd:gX dm)(hR:Red dm ns){r r':Int}(h:nD dm ns ns r r'):r=r':=QC hd hR dm.length 0 (by omega) r r' (by omega) (by omega) h
theorem Red.step {ns ns':List DS1} (hd:gX dm) (hR:Red dm ns) (hR':Red dm ns') {r r':Int} (h:nD dm ns ns' r r') :
  (r<0/\r'=r)\/(0<=r/\0<=r'/\(ns.getD r.toNat zN).1=(ns'.getD r'.toNat zN).1/\(ns.getD r.toNat zN).2.1=(ns'.getD r'.toNat zN).2.1/\(kids ns r.toNat).length=(kids ns' r'.toNat).length/\∀k,k<(kids ns r.toNat).length->nD dm ns ns' ((kids ns r.toNat).getD k 0) ((kids ns' r'.toNat).getD k 0)) :=
 Oe hd hR.1 hR'.1 (i:=0) (QC hd hR dm.length 1 (by omega)) (QC hd hR' dm.length 1 (by omega)) (by omega) (by omega) h
def PwS(dm:List DS3)(ns ns':List DS1)(O O':List Nat):Prop:=O.length=O'.length/\∀j,j<O.length->nD dm ns ns' ((O.getD j 0:Nat):Int) ((O'.getD j 0:Nat):Int)
theorem PwS.snoc{ns ns':List DS1}{O O':List Nat}(h:PwS dm ns ns' O O'){a b:Nat}(q:nD dm ns ns' (a:Int) (b:Int)):PwS dm ns ns' (O++[a]) (O'++[b]):=by
 refine⟨by simp[h.1],λj hj=>?_⟩
 rw[ak,aF]at hj
 rcases aM j O.length with z|z
 .rw[iK _ _ _ z,iK _ _ _ (by have:=h.1;omega)];exact h.2 j z
 .obtain rfl:j=O.length:=by omega
  rw[mg,h.1,mg];exact q
theorem PwS.symm{ns ns':List DS1}{O O':List Nat}(h:PwS dm ns ns' O O'):PwS dm ns' ns O' O:=⟨h.1.symm,λj hj=>(h.2 j (by rw[h.1];exact hj)).symm⟩
theorem PwS.mem{ns ns':List DS1}(hd:gX dm)(hR':Red dm ns'){O O':List Nat}(h:PwS dm ns ns' O O'){a b:Nat}(q:nD dm ns ns' (a:Int) (b:Int))(hm:a∈O):b∈O':=by
 obtain⟨j,hj,rfl⟩:=fD hm
 have h1:=h.2 j hj
 rw[getD_eq _ _ _ hj]at h1
 have:=hR'.inj hd (q.symm.trans h1)
 have hj':j<O'.length:=by rw[<- h.1];exact hj
 rw[getD_eq _ _ _ hj']at this
 have:b=O'[j]:=by omega
 rw[this];exact aJ hj'
theorem PwS.idx{ns ns':List DS1}(hd:gX dm)(hR':Red dm ns'){O O':List Nat}(hO:O.Nodup)(hO':O'.Nodup)(h:PwS dm ns ns' O O'){a b:Nat}(q:nD dm ns ns' (a:Int) (b:Int))(hm:a∈O):O.idxOf a=O'.idxOf b:=by
 obtain⟨j,hj,rfl⟩:=fD hm
 have h1:=h.2 j hj
 rw[getD_eq _ _ _ hj]at h1
 have:=hR'.inj hd (q.symm.trans h1)
 have hj':j<O'.length:=by rw[<- h.1];exact hj
 rw[getD_eq _ _ _ hj']at this
 have:b=O'[j]:=by omega
 rw[this,hO.idxOf_getElem,hO'.idxOf_getElem]
theorem VZ{ns ns':List DS1}(hd:gX dm)(hR:Red dm ns)(hR':Red dm ns'):∀(f:Nat) (r r':Int) (O O':List Nat),nD dm ns ns' r r'->PwS dm ns ns' O O'->PwS dm ns ns' (cK ns f O r) (cK ns' f O' r'):=by
 intro f
 induction f with
 |zero=>intro r r' O O' _ h;exact h
 |succ f ih =>
  intro r r' O O' h hP
  rcases hR.step hd hR' h with⟨q1,rfl⟩|⟨q,q',a1,a2,a3,a4⟩
  .rw[lS _ _ q1,lS _ _ q1];exact hP
  have er:((r.toNat:Nat):Int)=r:=by omega
  have er':((r'.toNat:Nat):Int)=r':=by omega
  have hS:nD dm ns ns' (r.toNat:Int) (r'.toNat:Int):=by rw[er,er'];exact h
  by_cases hm:r.toNat∈O
  .rw[rW _ _ hm,rW _ _ (hP.mem hd hR' hS hm)];exact hP
  have hm':r'.toNat∉O':=λz=>hm (hP.symm.mem hd hR hS.symm z)
  have e1:cK ns (f+1) O r=(kids ns r.toNat).foldl (cK ns f) (O++[r.toNat]):=by
   simp only[cK];rw[if_neg (by rintro(z|z);omega;exact hm z)]
  have e2:cK ns' (f+1) O' r'=(kids ns' r'.toNat).foldl (cK ns' f) (O'++[r'.toNat]):=by
   simp only[cK];rw[if_neg (by rintro(z|z);omega;exact hm' z)]
  rw[e1,e2]
  have key:∀(cs cs':List Int) (P P':List Nat),cs.length=cs'.length->(∀k,k<cs.length->nD dm ns ns' (cs.getD k 0) (cs'.getD k 0))->PwS dm ns ns' P P'->PwS dm ns ns' (cs.foldl (cK ns f) P) (cs'.foldl (cK ns' f) P'):=by
   intro cs
   induction cs with
   |nil=>intro cs' P P' hl _ hp;cases cs' with
    |nil=>exact hp
    |cons y ys=>cases hl
   |cons x cs ih2 =>
    intro cs' P P' hl hk hp
    cases cs' with
    |nil=>cases hl
    |cons y cs' =>
     rw[d9,d9]
     refine ih2 cs' _ _ (by simpa using hl) (λk hk1=>?_) (ih x y P P' (hk 0 (by simp)) hp)
     have:=hk (k+1) (by simpa using hk1)
     simpa using this
  exact key _ _ _ _ a3 a4 (hP.snoc hS)
theorem canon {ns ns':List DS1} (hd:gX dm) (hR:Red dm ns) (hR':Red dm ns') {root root':Int} (h:nD dm ns ns' root root') :
  (cK ns 8 [] root).length=(cK ns' 8 [] root').length/\lF ns (cK ns 8 [] root)=lF ns' (cK ns' 8 [] root')/\dR (cK ns 8 [] root) root=dR (cK ns' 8 [] root') root':=by
 have hP:=VZ hd hR hR' 8 root root' [] [] h ⟨rfl,λj hj=>by cases hj⟩
 have h0:∀n,jQ n []:=λn=>⟨kC,λx hx=>by cases hx⟩
 obtain⟨hRk,hF⟩:=lY hd hR.1
 obtain⟨a4u,hF'⟩:=lY hd hR'.1
 have hO:=(pq hRk 8 root [] h.1 (h0 _)).1
 have hO':=(pq a4u 8 root' [] h.2.1 (h0 _)).1
 have r8:∀(ns:List DS1),(∀r,r<ns.length->rkA ns r+1<=8)->∀r:Int,r<(ns.length:Int)->rkI (rkA ns) r<=8:=λns hF r hr=>by
  unfold rkI
  split
  .omega
  .exact hF _ (by omega)
 obtain⟨hc1,hc2⟩:=uo hRk 8 8 root [] (r8 _ hF _ h.1) (bF _) h.1 (h0 _)
 obtain⟨hc1',hc2'⟩:=uo a4u 8 8 root' [] (r8 _ hF' _ h.2.1) (bF _) h.2.1 (h0 _)
 generalize cK ns 8 [] root=O at *
 generalize cK ns' 8 [] root'=O' at *
 have a4b:∀c c',nD dm ns ns' c c'->(0<=c->c.toNat∈O)->dR O c=dR O' c':=λc c' hS hm=>by
  rcases hR.step hd hR' hS with⟨q1,rfl⟩|⟨q,q',_⟩
  .unfold dR;rw[if_pos q1,if_pos q1]
  .unfold dR
   rw[if_neg (by omega),if_neg (by omega)]
   have hS2:nD dm ns ns' (c.toNat:Int) (c'.toNat:Int):=by
    rw[show((c.toNat:Nat):Int)=c by omega,show((c'.toNat:Nat):Int)=c' by omega];exact hS
   rw[hP.idx hd hR' hO.1 hO'.1 hS2 (hm q)]
 refine⟨hP.1,?_,a4b _ _ h hc1⟩
 apply gB (by rw[mV,mV,hP.1])
 intro j h1 h2
 rw[mV]at h1 h2
 have hj:=hP.2 j h1
 rw[getD_eq _ _ _ h1,getD_eq _ _ _ h2]at hj
 rw[KR ns O h1,KR ns' O' h2]
 have hmj:=aJ h1
 generalize O[j]=a at hj hmj ⊢
 generalize O'[j]=b at hj ⊢
 rcases hR.step hd hR' hj with⟨q1,_⟩|⟨q,q',a1,a2,a3,a4⟩
 .omega
 .rw[aZ,aZ]at a1 a2 a3 a4
  unfold imN
  have hk:(kids ns a).map (dR O)=(kids ns' b).map (dR O'):=by
   apply gB (by simpa using a3)
   intro k k1 k2
   rw[bR]at k1 k2
   rw[jY,jY]
   have:=a4 k k1
   rw[getD_eq _ _ _ k1,getD_eq _ _ _ k2]at this
   exact a4b _ _ this (λq0=>hc2 a hmj (λz=>by cases z) _ (aJ k1) q0)
  rw[a1,a2,hk]
end
def cmpL:Int->List Int->List Int->List Int×List Int
 |x,c::cs,n::ns=>if n=x then cmpL x cs ns else(c::(cmpL n cs ns).1,n::(cmpL n cs ns).2)
 |_,_,_=>([],[])
theorem cmp_eq(x c:Int)(cs ns:List Int):cmpL x (c::cs) (x::ns)=cmpL x cs ns:=by simp[cmpL]
theorem xO{x n:Int}(h:n≠x)(c:Int)(cs ns:List Int):cmpL x (c::cs) (n::ns)=(c::(cmpL n cs ns).1,n::(cmpL n cs ns).2):=by simp only[cmpL];rw[if_neg h]
theorem rY(x:Int)(ns:List Int):cmpL x [] ns=([],[]):=by cases ns<;>rfl
theorem Ic:∀(cs ns:List Int) (x:Int),(cmpL x cs ns).2.length=(cmpL x cs ns).1.length:=by
 intro cs
 induction cs with
 |nil=>intro ns x;rw[rY]
 |cons c cs ih =>
  intro ns x
  cases ns with
  |nil=>rfl
  |cons n ns =>
   by_cases h:n=x
   .subst h;rw[cmp_eq];exact ih ns n
   .rw[xO h];simp[ih ns n]
theorem Ey:∀(cs ns:List Int) (x:Int),(cmpL x cs ns).1.Sublist cs/\(cmpL x cs ns).2.Sublist ns:=by
 intro cs
 induction cs with
 |nil=>intro ns x;rw[rY];exact⟨List.Sublist.slnil,zR _⟩
 |cons c cs ih =>
  intro ns x
  cases ns with
  |nil=>exact⟨zR _,zR _⟩
  |cons n ns =>
   by_cases h:n=x
   .subst h;rw[cmp_eq];exact⟨(ih ns n).1.cons _,(ih ns n).2.cons _⟩
   .rw[xO h];exact⟨(ih ns n).1.cons_cons _,(ih ns n).2.cons_cons _⟩
theorem OI:∀(cs ns:List Int) (x:Int) (j:Nat),j<(cmpL x cs ns).2.length->(x::(cmpL x cs ns).2).getD (j+1) 0≠(x::(cmpL x cs ns).2).getD j 0:=by
 intro cs
 induction cs with
 |nil=>intro ns x j h;rw[rY]at h;cases h
 |cons c cs ih =>
  intro ns x j h
  cases ns with
  |nil=>cases h
  |cons n ns =>
   by_cases q:n=x
   .subst q;rw[cmp_eq]at h ⊢;exact ih ns n j h
   .rw[xO q]at h ⊢
    cases j with
    |zero=>simpa using q
    |succ j=>exact ih ns n j (by simpa using h)
theorem EC{cs:List Int}{v:Int}(h:∀c∈cs,v<c):brK cs v=0:=by
 cases cs with
 |nil=>rfl
 |cons c cs=>simp only[brK];rw[if_neg (by have:=h c (by simp);omega)]
theorem a1C:∀(cs ns:List Int) (x v:Int),cs.Pairwise (·<·)->ns.length=cs.length->(x::(cmpL x cs ns).2).getD (brK (cmpL x cs ns).1 v) 0=(x::ns).getD (brK cs v) 0:=by
 intro cs
 induction cs with
 |nil=>intro ns x v _ hl;rw[rY];rfl
 |cons c cs ih =>
  intro ns x v hp hl
  cases ns with
  |nil=>cases hl
  |cons n ns =>
   have hp':=iN.1 hp
   have hl':ns.length=cs.length:=by simpa using hl
   have i:=ih ns n v hp'.2 hl'
   by_cases hv:c<=v
   .have e:brK (c::cs) v=brK cs v+1:=by simp only[brK];rw[if_pos hv]
    rw[e]
    by_cases q:n=x
    .subst q;rw[cmp_eq,i];simp
    .rw[xO q]
     have e2:brK (c::(cmpL n cs ns).1) v=brK (cmpL n cs ns).1 v+1:=by simp only[brK];rw[if_pos hv]
     show(x::n::(cmpL n cs ns).2).getD (brK (c::(cmpL n cs ns).1) v) 0=_
     rw[e2,kF,kF];exact i
   ·have all:∀ y ∈ c :: cs,v < y:=fun y hy=>by
     rcases bT.1 hy with rfl|hy
     .omega
     .have:=hp'.1 y hy;omega
    rw[EC all,EC λy hy=>all y ((Ey (c::cs) (n::ns) x).1.mem hy)]
    rfl
theorem a1D:∀(cs ns:List Int) (x:Int),ns.length=cs.length->∀y∈ns,y∈x::(cmpL x cs ns).2:=by
 intro cs
 induction cs with
 |nil=>intro ns x hl y hy;rw[dQ hl]at hy;cases hy
 |cons c cs ih =>
  intro ns x hl y hy
  cases ns with
  |nil=>cases hy
  |cons n ns =>
   have hl':ns.length=cs.length:=by simpa using hl
   by_cases q:n=x
   .subst q
    rw[cmp_eq]
    rcases bT.1 hy with rfl|hy
    .simp
    .exact ih ns n hl' y hy
   .rw[xO q]
    refine j6 _ ?_
    rcases bT.1 hy with rfl|hy
    .simp
    .exact ih ns n hl' y hy
theorem MK:∀(cs ns:List Int) (x c n:Int),ns.length=cs.length->cmpL x (cs++[c]) (ns++[n])=if n=(x::(cmpL x cs ns).2).getD (cmpL x cs ns).2.length 0 then cmpL x cs ns else((cmpL x cs ns).1++[c],(cmpL x cs ns).2++[n]):=by
 intro cs
 induction cs with
 |nil =>
  intro ns x c n hl
  rw[dQ hl]
  simp only[rY,fq,bV,nK]
  by_cases q:n=x
  .subst q;rw[cmp_eq,if_pos rfl,rY]
  .rw[xO q,if_neg q,rY]
 |cons c0 cs ih =>
  intro ns x c n hl
  cases ns with
  |nil=>cases hl
  |cons n0 ns =>
   have hl':ns.length=cs.length:=by simpa using hl
   rw[lW,lW]
   by_cases q:n0=x
   .subst q;simp only[cmp_eq];exact ih ns n0 c n hl'
   .rw[xO q,xO q,ih ns n0 c n hl']
    show _=if n=(n0::(cmpL n0 cs ns).2).getD (cmpL n0 cs ns).2.length 0 then _ else _
    by_cases z:n=(n0::(cmpL n0 cs ns).2).getD (cmpL n0 cs ns).2.length 0
    .rw[if_pos z,if_pos z]
    .rw[if_neg z,if_neg z];rfl
def Ef(ns:List DS1)(a x:Int)(c n:List Int):Int×List DS1 :=
 if c=[] then(x,ns) else if(a,c,x::n,())∈ns then((ns.idxOf (a,c,x::n,()):Nat),ns) else((ns.length:Int),ns++[(a,c,x::n,())])
def nE(ns:List DS1)(a:Int)(cs nx:List Int):Int×List DS1:=Ef ns a (nx.headD 0) (cmpL (nx.headD 0) cs nx.tail).1 (cmpL (nx.headD 0) cs nx.tail).2
theorem LX(ns t:List DS1){x:Nat}(h:x<ns.length):kids (ns++t) x=kids ns x:=by unfold kids;rw[iK _ _ _ h]
def qD(lo hi:Int)(cs:List Int):Prop:=cs.Pairwise (·<·)/\∀c∈cs,lo<c/\c<=hi
theorem qD.sub{lo hi:Int}{cs ds:List Int}(h:qD lo hi cs)(q:ds.Sublist cs):qD lo hi ds:=⟨h.1.sublist q,λc hc=>h.2 c (q.mem hc)⟩
theorem qD.at{lo hi:Int}{cs:List Int}(h:qD lo hi cs)(k:Nat)(hk:k<cs.length):lo<cs.getD k 0/\cs.getD k 0<=hi/\(0<k->cs.getD (k-1) 0<cs.getD k 0):=by
 rw[getD_eq _ _ _ hk]
 have:=h.2 _ (aJ hk)
 refine⟨this.1,this.2,λq=>?_⟩
 rw[getD_eq _ _ _ (by omega)]
 exact j5.1 h.1 _ _ (by omega) hk (by omega)
theorem Lv {dm:List DS3} {lo:Int} (hd:gX dm) (hlo:-256<=lo) {i:Nat} (hi:i < dm.length) {cs nx:List Int} {ns:List DS1} (hc:qD (dm.getD i zS).1 (dm.getD i zS).2.1 cs) (hl:nx.length=cs.length + 1) (hnx:∀ c ∈ nx,Rf ns lo (i + 1) c) (hN:kM dm lo ns) (hlo0:lo<=0) :
  ∃t,(nE ns (i:Int) cs nx).2=ns++t/\kM dm lo (ns++t)/\Rf (ns++t) lo i (nE ns (i:Int) cs nx).1/\t.length<=1/\(cs=[]->t=[])/\
   (∀fs,vlF (ns++t) 9 (nE ns (i:Int) cs nx).1 fs=vlF (ns++t) 9 (nx.getD (brK cs (fs.getD i 0)) 0) fs)/\(∀j,ns.length<=j->j<(ns++t).length->(nE ns (i:Int) cs nx).1=(j:Int))/\(∀y∈t,∀c∈y.2.2.1,c<(ns.length:Int)):=by
 obtain⟨x,nx,rfl⟩:∃x t,nx=x::t:=by
  cases nx with
  |nil=>simp at hl
  |cons x t=>exact⟨x,t,rfl⟩
 have hl':nx.length=cs.length:=by simpa using hl
 have hv:=λv=>a1C cs nx x v hc.1 hl'
 have hm:=a1D cs nx x hl'
 have hln:=Ic cs nx x
 have hsub:=Ey cs nx x
 have WL:=OI cs nx x
 unfold nE
 simp only[Am,List.tail_cons]
 have hcn:cs=[]->(cmpL x cs nx).1=[]:=λe=>by rw[e,rY]
 generalize cmpL x cs nx=p at *
 obtain⟨c,n⟩:=p
 dsimp only at *
 unfold Ef
 by_cases hcz:c=[]
 .subst hcz
  rw[if_pos rfl]
  have hn:n=[]:=dQ (by simpa using hln)
  subst hn
  have hxr:=hnx x (by simp)
  refine⟨[],by simp,by simpa using hN,by simpa using hxr.weak (by omega),by simp,λ_=>rfl,λfs=>?_,λj h1 h2=>(by simp at h2;omega),λy hy=>(by cases hy)⟩
  rw[<- hv];rfl
 rw[if_neg hcz]
 have hci:¬cs=[]:=λe=>hcz (hcn e)
 have hnd:∀c'∈x::n,Rf ns lo (i+1) c':=λc' h=>by
  rcases bT.1 h with rfl|h
  .exact hnx _ (by simp)
  .exact hnx _ (j6 _ (hsub.2.mem h))
 have val:∀(t:List DS1) (r:Nat),iC dm (ns++t)->r<(ns++t).length->(ns++t).getD r zN=((i:Int),c,x::n,())->∀fs,vlF (ns++t) 9 (r:Int) fs=vlF (ns++t) 9 ((x::nx).getD (brK cs (fs.getD i 0)) 0) fs:=λt r hs hr e fs=>by
  rw[vZ hd hs (by omega) (by omega),aZ]
  have ek:kids (ns++t) r=x::n:=by unfold kids;rw[e]
  rw[ek,e]
  show vlF (ns++t) 9 ((x::n).getD (brK c (fs.getD (i:Int).toNat 0)) 0) fs=_
  rw[aZ,hv]
 by_cases hin:((i:Int),c,x::n,())∈ns
 .rw[if_pos hin]
  have hid:=iP hin
  have eg:ns.getD (ns.idxOf ((i:Int),c,x::n,())) zN=((i:Int),c,x::n,()):=by rw[getD_eq _ _ _ hid,og]
  generalize ns.idxOf ((i:Int),c,x::n,())=k at hid eg
  refine⟨[],by simp,by simpa using hN,?_,by simp,λ_=>rfl,λfs=>?_,λj h1 h2=>(by simp at h2;omega),λy hy=>(by cases hy)⟩
  .rw[bL]
   refine⟨by show lo<=(k:Int);omega,by show(k:Int)<_;omega,λ_=>?_⟩
   show(i:Int)<=(ns.getD (k:Int).toNat zN).1
   rw[aZ,eg];exact nV _
  .exact val [] k (by simpa using hN.1) (by simpa using hid) (by simpa using eg) fs
 .rw[if_neg hin]
  have hnew:∀k,k<ns.length->ns.getD k zN≠((i:Int),c,x::n,()):=λk hk e=>hin (by rw[<- e,getD_eq _ _ _ hk];exact aJ hk)
  have hcp:0<c.length:=List.length_pos_iff.2 hcz
  have hso:mX dm (ns++[((i:Int),c,x::n,())]) ((i:Int),c,x::n,()):=by
   refine⟨by show(0:Int)<=i;omega,by show(i:Int)<_;omega,hcp,by show(x::n).length=_;rw[bI,hln],λk hk=>?_,λk hk=>?_⟩
   .show(dm.getD (i:Int).toNat zS).1<_/\_<=(dm.getD (i:Int).toNat zS).2.1/\_
    rw[aZ]
    exact(hc.sub hsub.1).at k hk
   .have hk':k<(x::n).length:=hk
    have hmk:=hnd ((x::n).getD k 0) (by rw[getD_eq _ _ _ hk'];exact aJ hk')
    refine⟨⟨by show -256<=(x::n).getD k 0;have:=hmk.1;omega,(hmk.app _).2.1⟩,λq=>?_,λq=>?_⟩
    .obtain⟨j,rfl⟩:∃j,k=j+1:=⟨k-1,by omega⟩
     exact WL j (by simpa using hk')
    .have:=(hmk.app [((i:Int),c,x::n,())]).2.2 q
     show(i:Int)<((ns++[((i:Int),c,x::n,())]).getD ((x::n).getD k 0).toNat zN).1
     omega
  have hN2:=hN.snoc hso (λy hy=>(hnd y hy).1) hnew
  have eg:=mg ns ((i:Int),c,x::n,()) zN
  have ek:kids (ns++[((i:Int),c,x::n,())]) ns.length=x::n:=by unfold kids;rw[eg]
  have hlt:ns.length<(ns++[((i:Int),c,x::n,())]).length:=by simp
  refine⟨[((i:Int),c,x::n,())],rfl,hN2,?_,by simp,λe=>absurd e hci,λfs=>?_,λj h1 h2=>(by simp at h2;omega),λy hy c' hc'=>(by obtain rfl:=bG.1 hy;exact(hnd c' hc').2.1)⟩
  .refine⟨by show lo<=(ns.length:Int);omega,by show(ns.length:Int)<_;omega,λ_=>?_⟩
   show(i:Int)<=((ns++[((i:Int),c,x::n,())]).getD (ns.length:Int).toNat zN).1
   rw[aZ,eg];exact nV _
  .exact val _ ns.length hN2.1 hlt eg fs
theorem DY{dm:List DS3}{ns:List DS1}(hs:iC dm ns)(t:List DS1)(fs:List Int):∀(f:Nat) (r:Int),r<(ns.length:Int)->vlF (ns++t) f r fs=vlF ns f r fs:=by
 intro f
 induction f with
 |zero=>intro r _;rfl
 |succ f ih =>
  intro r hr
  rcases eZ r 0 with q|q
  .rw[iY _ _ q,iY _ _ q]
  have hrt:r.toNat<ns.length:=by omega
  rw[nL _ _ q,nL _ _ q,LX _ _ hrt,iK _ _ _ hrt]
  exact ih _ (lZ hs hrt (vT hs hrt _)).2
def qU(dm:List DS3)(pre:List Int):Prop:=pre.length<=dm.length/\∀i,i<pre.length->(dm.getD i zS).1<=pre.getD i 0/\pre.getD i 0<=(dm.getD i zS).2.1
theorem qU.nil(dm:List DS3):qU dm []:=⟨by simp,λi hi=>by cases hi⟩
theorem qU.snoc{dm:List DS3}{pre:List Int}(h:qU dm pre)(hl:pre.length<dm.length){v:Int}(h1:(dm.getD pre.length zS).1<=v)(h2:v<=(dm.getD pre.length zS).2.1):qU dm (pre++[v]):=by
 refine⟨by simp;omega,λi hi=>?_⟩
 rw[ak,aF]at hi
 rcases aM i pre.length with q|q
 .rw[iK _ _ _ q];exact h.2 i q
 .obtain rfl:i=pre.length:=by omega
  rw[mg];exact⟨h1,h2⟩
theorem Je(fs:List Int)(i j:Nat):(fs.drop i).getD j 0=fs.getD (i+j) 0:=by
 rw[aQ,dX,<- aQ]
theorem F7{pre fs:List Int}{j:Nat}:(pre++fs.drop pre.length).getD j 0=if j<pre.length then pre.getD j 0 else fs.getD j 0:=by
 split
 .rename_i h;rw[iK _ _ _ h]
 .rename_i h
  rw[aQ,aK (by omega),dX,<- aQ,show pre.length+(j-pre.length)=j by omega]
theorem qU.fill{dm:List DS3}{pre:List Int}(h:qU dm pre){fs:List Int}(hf:FOk dm fs):FOk dm (pre++fs.drop pre.length):=by
 refine⟨by rw[ak,cu,hf.1];have:=h.1;omega,λi hi=>?_⟩
 rw[F7]
 split
 .rename_i q;exact h.2 i q
 .exact hf.2 i hi
section
variable{dm:List DS3}
theorem OZ{ns:List DS1}(hd:gX dm)(hs:iC dm ns){fs fs':List Int}:∀(f:Nat) (r:Int),r<(ns.length:Int)->(∀j,lvl dm ns r<=j->fs.getD j 0=fs'.getD j 0)->vlF ns f r fs=vlF ns f r fs':=by
 intro f
 induction f with
 |zero=>intro r _ _;rfl
 |succ f ih =>
  intro r hr h
  rcases eZ r 0 with q|q
  .rw[iY _ _ q,iY _ _ q]
  have hrt:r.toNat<ns.length:=by omega
  have e:lvl dm ns r=(ns.getD r.toNat zN).1.toNat:=by unfold lvl;rw[if_neg (by omega)]
  rw[nL _ _ q,nL _ _ q,h (ns.getD r.toNat zN).1.toNat (by omega)]
  have hk:=vT hs hrt (fs'.getD (ns.getD r.toNat zN).1.toNat 0)
  have:=qj hd hs hrt hk
  exact ih _ (lZ hs hrt hk).2 λj hj=>h j (by omega)
theorem follow{ns:List DS1}(hd:gX dm)(hs:iC dm ns){pre:List Int}(hp:qU dm pre):∀(m:Nat) (r:Int),jm ns.length r->rkI (rkA ns) r<=m->∃r',jm ns.length r'/\pre.length<=lvl dm ns r'/\∀fs,vlF ns 9 r' fs=vlF ns 9 r (pre++fs.drop pre.length):=by
 intro m
 induction m with
 |zero =>
  intro r hr hm
  have q:r<0:=by unfold rkI at hm;split at hm;assumption;omega
  refine⟨r,hr,by unfold lvl;rw[if_pos q];exact hp.1,λfs=>by rw[iY _ _ q,iY _ _ q]⟩
 |succ m ih =>
  intro r hr hm
  by_cases hl:pre.length<=lvl dm ns r
  .refine⟨r,hr,hl,λfs=>OZ hd hs _ _ hr.2 λj hj=>?_⟩
   rw[F7,if_neg (by omega)]
  ·have q:0<=r:=by
    rcases eZ r 0 with q|q
    .exfalso;apply hl;unfold lvl;rw[if_pos q];exact hp.1
    .exact q
   have hrt:r.toNat<ns.length:=by have:=hr.2;omega
   have e:lvl dm ns r=(ns.getD r.toNat zN).1.toNat:=by unfold lvl;rw[if_neg (by omega)]
   have hk:=vT hs hrt (pre.getD (ns.getD r.toNat zN).1.toNat 0)
   have hrk:=Dv hd hs hrt hk
   unfold rkI at hm
   rw[if_neg (by omega)]at hm
   obtain⟨r',h1,h2,h3⟩:=ih _ (lZ hs hrt hk) (by omega)
   refine⟨r',h1,h2,λfs=>?_⟩
   rw[h3,vZ hd hs q hr.2 (pre++fs.drop pre.length),F7,if_pos (by omega)]
def uW(dm:List DS3)(F:List Int->Int)(ns:List DS1)(r:Int):Prop:=∃pre,qU dm pre/\∀fs,FOk dm fs->vlF ns 9 r fs=F (pre++fs.drop pre.length)
theorem uW.app{F:List Int->Int}{ns:List DS1}(hs:iC dm ns){r:Int}(hr:r<(ns.length:Int))(h:uW dm F ns r)(t:List DS1):uW dm F (ns++t) r:=by
 obtain⟨pre,h1,h2⟩:=h
 exact⟨pre,h1,λfs hf=>by rw[DY hs t fs 9 r hr];exact h2 fs hf⟩
theorem F3{ns:List DS1}(hd:gX dm)(hs:iC dm ns){root:Int}(hr:root<(ns.length:Int)):rkI (rkA ns) root<=8:=by
 unfold rkI
 split
 .omega
 .exact(lY hd hs).2 _ (by omega)
theorem size_le{F:List Int->Int}{ts ns:List DS1}(hd:gX dm)(hT:Red dm ts)(hN:Red dm ns){root:Int}(hroot:jm ns.length root)(hv:∀fs,FOk dm fs->vlF ns 9 root fs=F fs)(hS:∀j,j<ts.length->uW dm F ts (j:Int)):ts.length<=ns.length:=by
 have key:∀j:Nat,∃k:Nat,j<ts.length->k<ns.length/\nD dm ts ns (j:Int) (k:Int):=λj=>by
  rcases aM j ts.length with q|q
  .obtain⟨pre,p1,p2⟩:=hS j q
   obtain⟨r',a1,a2,a3⟩:=follow hd hN.1 p1 8 root hroot (F3 hd hN.1 hroot.2)
   have hE:nD dm ts ns (j:Int) r':=⟨by omega,a1.2,λfs hf=>by rw[p2 fs hf,a3 fs,hv _ (p1.fill hf)]⟩
   rcases hT.step hd hN hE with⟨z,_⟩|⟨_,z,_⟩
   .omega
   .have h2:=a1.2
    exact⟨r'.toNat,λ_=>⟨by omega,by rw[show((r'.toNat:Nat):Int)=r' by omega];exact hE⟩⟩
  .exact⟨0,λz=>by omega⟩
 obtain⟨φ,hφ⟩:=Classical.axiomOfChoice key
 have hnd:((List.range ts.length).map φ).Nodup:=by
  refine List.pairwise_map.2 ?_
  refine List.Pairwise.imp_of_mem ?_ (List.nodup_range (n:=ts.length))
  intro a b ha hb hne e
  have ha:=bO.1 ha
  have hb:=bO.1 hb
  have h1:=(hφ a ha).2
  have h2:=(hφ b hb).2
  have e:φ a=φ b:=e
  rw[e]at h1
  have:=hT.inj hd (h1.trans h2.symm)
  exact hne (by omega)
 have:=IX ns.length _ hnd λx hx=>by
  obtain⟨j,hj,rfl⟩:=dW.1 hx
  exact(hφ j (bO.1 hj)).1
 rwa [bR,oK]at this
end
theorem J7{x:DS1}:∀(ns:List DS1) (j:Nat),j<ns.length->ns.getD j zN=x->(∀j',j'<j->ns.getD j' zN≠x)->ns.idxOf x=j/\x∈ns:=by
 intro ns
 induction ns with
 |nil=>intro j h;cases h
 |cons y ns ih =>
  intro j hj he hf
  cases j with
  |zero =>
   have he:y=x:=he
   subst he
   exact⟨by simp,by simp⟩
  |succ j =>
   have h0:y≠x:=hf 0 (by omega)
   obtain⟨a,b⟩:=ih j (by simpa using hj) (by simpa using he) (λj' hj'=>by have:=hf (j'+1) (by omega);simpa using this)
   refine⟨?_,j6 _ b⟩
   rw[List.idxOf_cons,a]
   have:(y==x)=false:=by simpa using h0
   rw[this];rfl
theorem M4{x:DS1}{ns:List DS1}(h:∀j,j<ns.length->ns.getD j zN≠x):x∉ns:=λhm=>by
 obtain⟨j,hj,e⟩:=fD hm
 exact h j hj (by rw[getD_eq _ _ _ hj];exact e)
theorem QS(x:Int)(nx:List Int)(k:Nat):(x::nx).getD (Int.toNat ((k+1:Nat):Int)) 0=nx.getD k 0:=by rw[aZ];rfl
theorem a3E (i:Int) {c0 x:Int} {cs nx:List Int} {ns:List DS1} (hl:nx.length=cs.length) (hcl:cs.length<=1000000) (hsz:∀ y ∈ ns,y.2.1.length<=9223372036854775807/\y.2.2.1.length<=9223372036854775807) (hn:ns.length<=1000000) (gg:List (List Int)) (vv:List Int) :
  yL i (c0::cs) gg vv (x::nx) ns=some ((nE ns i cs (x::nx)).1,gg,vv,x::nx,(nE ns i cs (x::nx)).2,()):=by
 refine T.eq ?_
 unfold yL
 have hX:=aR (x::nx)
 have hC:=aR (c0::cs)
 have hXl:(x::nx).length=nx.length+1:=rfl
 have hCl:(c0::cs).length=cs.length+1:=rfl
 refine T.grd (by rw[bf];omega) (T.grd (by rw[dU];simp) ?_)
 refine T.loop (λq=>∃k:Nat,k<=nx.length/\q=(i,c0::cs,((k+1:Nat):Int),gg,vv,x::nx,ns,(cmpL x (cs.take k) (nx.take k)).1,x::(cmpL x (cs.take k) (nx.take k)).2,())) (λq=>nx.length+1-q.2.2.1.toNat) ⟨0,by omega,by rw[ku,ku,rY];rfl⟩ ?_
 rintro _ ⟨k,hk,rfl⟩
 dsimp only
 have hln:=Ic (cs.take k) (nx.take k) x
 have hle:=(Ey (cs.take k) (nx.take k) x).1.length_le
 rw[bH]at hle
 have hsn:∀h:k<nx.length,cmpL x (cs.take (k+1)) (nx.take (k+1))=if nx[k]=(x::(cmpL x (cs.take k) (nx.take k)).2).getD (cmpL x (cs.take k) (nx.take k)).2.length 0 then cmpL x (cs.take k) (nx.take k) else((cmpL x (cs.take k) (nx.take k)).1++[cs[k]'(by omega)],(cmpL x (cs.take k) (nx.take k)).2++[nx[k]]):=λh=>by
  rw[bU h,bU (show k<cs.length by omega),MK _ _ _ _ _ (by simp;omega)]
 have hfin:k=nx.length->cmpL x (cs.take k) (nx.take k)=cmpL x cs nx:=λh=>by rw[h,dV,hl,dV]
 generalize cmpL x (cs.take k) (nx.take k)=p at *
 obtain⟨c,n⟩:=p
 dsimp only at *
 have hN:=aR (x::n)
 have hNl:(x::n).length=n.length+1:=rfl
 rw[hX]
 refine T.cnd (λhc1=>?_) (λhc1=>?_)<;>simp only[bD,bq]at hc1
 .have hkl:k<nx.length:=by omega
  have en1:fV .i64 (ay (x::n)) 1=(n.length:Int):=by rw[hN,eF (by omega) (by omega)];omega
  have h1:=hsn hkl
  rw[en1,hN,hC,QS,getD_eq nx k 0 hkl,dF,kF,getD_eq cs k 0 (by omega)]
  simp only[aZ]
  refine T.grd (by rw[bf];omega) (T.grd (by rw[dU];omega) (T.grd (by rw[bf];omega) (T.grd (by rw[dU];omega) (T.cnd (λhc2=>?_) (λhc2=>?_)))))<;>simp only[fZ,gT]at hc2
  .rw[if_neg hc2]at h1
   refine T.grd (by rw[bf];omega) (T.grd (by rw[dN,aF];omega) (T.grd (by rw[bf];omega) (T.grd (by rw[dU];omega) (T.grd (by rw[dN,aF];omega) ?_))))
   refine T.go ⟨k+1,by omega,?_⟩ (by dsimp only;rw[aY (by omega) (by omega)];omega)
   rw[h1,aY (by omega) (by omega)];rfl
  .rw[if_pos hc2]at h1
   refine T.go ⟨k+1,by omega,?_⟩ (by dsimp only;rw[aY (by omega) (by omega)];omega)
   rw[h1,aY (by omega) (by omega)];rfl
 .obtain rfl:k=nx.length:=by omega
  have hf:=hfin rfl
  have hS:nE ns i cs (x::nx)=Ef ns i x c n:=by unfold nE;rw[Am,List.tail_cons,<- hf]
  rw[hS]
  unfold Ef
  rw[hN]
  refine T.lT (T.cnd (λhc2=>?_) (λhc2=>?_))<;>simp only[dD,dG]at hc2
  .have hcz:c=[]:=dQ (by omega)
   rw[if_pos hcz]
   exact T.grd (by rw[bf];omega) (T.grd (by rw[dU];simp) (T.ret rfl))
  have hcz:c≠[]:=λe=>by
   have:n.length=0:=by rw[hln,e];rfl
   omega
  rw[if_neg hcz]
  have hNs:=aR ns
  refine T.loop (λq=>∃j:Nat,j<=ns.length/\(∀j',j'<j->ns.getD j' zN≠(i,c,x::n,()))/\q=(i,(j:Int),gg,vv,x::nx,ns,c,x::n,())) (λq=>ns.length-q.2.1.toNat) ⟨0,by omega,λj hj=>by omega,rfl⟩ ?_
  rintro _ ⟨j,hj,hjn,rfl⟩
  dsimp only
  rw[hNs,aZ]
  refine T.cnd (λhc3=>?_) (λhc3=>?_)<;>simp only[bD,bq]at hc3
  .have hjl:j<ns.length:=by omega
   have hsj:=hsz (ns.getD j zN) (by rw[getD_eq _ _ _ hjl];exact aJ hjl)
   have ez:ns.getD j (0,[],[],())=ns.getD j zN:=rfl
   rw[ez]
   have Ce:ns.getD j zN≠(i,c,x::n,())->∀Q,T (some (Sum.inl (β:=Int×(List (List Int))×(List Int)×(List Int)×(List DS1)×Unit) (i,bX .i64 (j:Int) 1,gg,vv,x::nx,ns,c,x::n,()))) (LQ (λq=>∃j:Nat,j<=ns.length/\(∀j',j'<j->ns.getD j' zN≠(i,c,x::n,()))/\q=(i,(j:Int),gg,vv,x::nx,ns,c,x::n,())) (λq=>ns.length-q.2.1.toNat) (ns.length-(j:Int).toNat) Q):=λhx Q=>by
    refine T.go ⟨j+1,by omega,λj' hj'=>?_,by rw[aY (by omega) (by omega)];rfl⟩ (by dsimp only;rw[aY (by omega) (by omega)];omega)
    rcases aM j' j with q|q
    .exact hjn j' q
    .obtain rfl:j'=j:=by omega
     exact hx
   refine T.grd (by rw[bf];omega) (T.grd (by rw[dU];omega) (T.cnd (λhc4=>?_) (λhc4=>?_)))<;>simp only[dD,dG]at hc4
   .refine T.dh (xG _ _ hsj.1) ?_
    dsimp only
    refine T.cnd (λhc5=>?_) (λhc5=>?_)<;>simp only[dH,fJ]at hc5
    .refine T.dh (xG _ _ hsj.2) ?_
     dsimp only
     refine T.cnd (λhc6=>?_) (λhc6=>?_)<;>simp only[dH,fJ]at hc6
     .have e:ns.getD j zN=(i,c,x::n,()):=lV hc4 (lV hc5 (lV hc6 rfl))
      obtain⟨a,b⟩:=J7 ns j hjl e hjn
      rw[if_pos b,a]
      exact T.out rfl
     .exact Ce (λe=>hc6 (by rw[e])) _
    .exact Ce (λe=>hc5 (by rw[e])) _
   .exact Ce (λe=>hc4 (by rw[e])) _
  .obtain rfl:j=ns.length:=by omega
   rw[if_neg (M4 hjn)]
   refine T.lT (T.grd (by rw[dN,aF];omega) (T.ret ?_))
   have e1:fV .i64 (ay (ns++[(i,c,x::n,())])) 1=(ns.length:Int):=by rw[aR,ak,aF,eF (by omega) (by omega)];omega
   rw[e1]
def ixS(ns:List DS1):List DS7:=(List.range ns.length).map λj=>(uS (ns.getD j zN),(j:Int),())
theorem Wx(ns:List DS1)(x:DS1):ixS (ns++[x])=ixS ns++[(uS x,(ns.length:Int),())]:=by
 unfold ixS
 rw[ak,aF,qA,dP,List.map_singleton,mg]
 congr 1
 refine nJ λj hj=>?_
 rw[iK _ _ _ (bO.1 hj)]
theorem Wq(k:DS1)(ns:List DS1):∀(m j:Nat),j+m=ns.length->(∀j',j'<j->ns.getD j' zN≠k)->nA sEq (uS k) ((List.range' j m).map λj=>(uS (ns.getD j zN),(j:Int),()))=if k∈ns then some (ns.idxOf k:Int) else none:=by
 intro m
 induction m with
 |zero =>
  intro j hj hf
  rw[if_neg (M4 λi hi=>hf i (by omega))];rfl
 |succ m ih =>
  intro j hj hf
  rw[pF,dn]
  simp only[nA]
  cases q:sEq (uS k) (uS (ns.getD j zN)) with
  |true =>
   rw[FZ]at q
   obtain⟨a,b⟩:=J7 ns j (by omega) (Fp q).symm hf
   rw[if_pos b,a];rfl
  |false =>
   rw[G5]at q
   exact ih (j+1) (by omega) λj' hj'=>by
    rcases aM j' j with r|r
    .exact hf j' r
    .obtain rfl:j'=j:=by omega
     exact λe=>q (by rw[e])
theorem a1a(k:DS1)(ns:List DS1):nA sEq (uS k) (ixS ns)=if k∈ns then some (ns.idxOf k:Int) else none:=by
 unfold ixS
 rw[rP]
 exact Wq k ns ns.length 0 (by omega) λj hj=>by omega
theorem a09(k:DS1)(ns:List DS1)(h:k∉ns):pV sEq (uS k) (ns.length:Int) (ixS ns)=ixS (ns++[k]):=by
 rw[Wx]
 refine LA _ _ _ λe he=>?_
 unfold ixS at he
 obtain⟨j,hj,rfl⟩:=dW.1 he
 rw[G5]
 intro q
 refine h ?_
 rw[Fp q,getD_eq _ _ _ (bO.1 hj)]
 exact aJ _
theorem SQ {dm:List DS3} {lo:Int} (hd:gX dm) (hlo:-256<=lo) (hlo0:lo<=0) {i:Nat} (hi:i < dm.length) {x:Int} {cs nx:List Int} {ns:List DS1} (hc:qD (dm.getD i zS).1 (dm.getD i zS).2.1 cs) (hl:nx.length=cs.length) (hnx:∀ c ∈ x :: nx,Rf ns lo (i + 1) c) (hN:kM dm lo ns) (hn:ns.length<=1000) (hcl:cs.length<=2000000001) (a b:List DS1) (op:Int) (me:List DS6) :
  Eh (i:Int) a b op cs (x::nx) me ns (ixS ns)=some ((nE ns (i:Int) cs (x::nx)).1,a,b,op,cs,x::nx,me,(nE ns (i:Int) cs (x::nx)).2,ixS (nE ns (i:Int) cs (x::nx)).2,()):=by
 obtain⟨t,s1,s2,s3,s4,s5,s6,s7,_⟩:=Lv hd hlo hi hc (by simpa using hl) hnx hN hlo0
 refine T.eq ?_
 unfold Eh
 have hX:=aR (x::nx)
 have hC:=aR cs
 have hXl:(x::nx).length=nx.length+1:=rfl
 have e0:(List.replicate (Int.toNat 1) 0:List Int)=[0]:=rfl
 have e2:List.take (Int.toNat (((List.length (x::nx):Nat):Int)-1)) (List.drop (Int.toNat 1) (x::nx))=nx:=by
  show List.take _ nx=nx
  rw[iH (by omega)]
 have e3:Int.toNat (((List.length (x::nx):Nat):Int)-1)=nx.length:=by omega
 rw[e2,e3,hX,hC,e0]
 refine T.grd (by rw[iB,iB,fU,fU,gM];omega) (T.grd (by rw[iB,iB,fU,fU,gM];omega) (T.grd (by rw[bf];omega) (T.grd (by rw[dU];simp) (T.grd (by rw[bf,aR];simp) (T.grd (by rw[dU];simp) (T.grd (by rw[iJ];omega) ?_))))))
 refine T.loop (λq=>∃k:Nat,k<=nx.length/\q=((i:Int),nx,(nx.length:Int),(k:Int),a,b,op,cs,x::nx,me,ns,ixS ns,(cmpL x (cs.take k) (nx.take k)).1,x::(cmpL x (cs.take k) (nx.take k)).2,())) (λq=>nx.length-q.2.2.2.1.toNat) ⟨0,by omega,by rw[ku,ku,rY];rfl⟩ ?_
 rintro _ ⟨k,hk,rfl⟩
 dsimp only
 have hln:=Ic (cs.take k) (nx.take k) x
 have hsb:=Ey (cs.take k) (nx.take k) x
 have hle:=hsb.1.length_le
 rw[bH]at hle
 have hsn:∀h:k<nx.length,cmpL x (cs.take (k+1)) (nx.take (k+1))=if nx[k]=(x::(cmpL x (cs.take k) (nx.take k)).2).getD (cmpL x (cs.take k) (nx.take k)).2.length 0 then cmpL x (cs.take k) (nx.take k) else((cmpL x (cs.take k) (nx.take k)).1++[cs[k]'(by omega)],(cmpL x (cs.take k) (nx.take k)).2++[nx[k]]):=λh=>by
  rw[bU h,bU (show k<cs.length by omega),MK _ _ _ _ _ (by simp;omega)]
 have hfin:k=nx.length->cmpL x (cs.take k) (nx.take k)=cmpL x cs nx:=λh=>by rw[h,dV,hl,dV]
 have WL:=OI (cs.take k) (nx.take k) x
 generalize cmpL x (cs.take k) (nx.take k)=p at *
 obtain⟨c,n⟩:=p
 dsimp only at *
 have hNn:=aR (x::n)
 have hNl:(x::n).length=n.length+1:=rfl
 have hNx:=aR nx
 rw[hNx]
 refine T.cnd (λhc1=>?_) (λhc1=>?_)<;>simp only[bD,bq]at hc1
 .have hkl:k<nx.length:=by omega
  have en1:fV .i64 (ay (x::n)) 1=(n.length:Int):=by rw[hNn,eF (by omega) (by omega)];omega
  have h1:=hsn hkl
  rw[en1,hNn,hC,dF]
  simp only[aZ]
  rw[getD_eq nx k 0 hkl,getD_eq cs k 0 (by omega)]
  refine T.grd (by rw[bf];omega) (T.grd (by rw[bf];omega) (T.grd (by rw[dU];omega) (T.cnd (λhc2=>?_) (λhc2=>?_))))<;>simp only[fZ,gT]at hc2
  .rw[if_neg hc2]at h1
   refine T.grd (by rw[bf];omega) (T.grd (by rw[dU];omega) (T.grd (by rw[dN,aF];omega) (T.grd (by rw[dN,aF];omega) ?_)))
   refine T.go ⟨k+1,by omega,?_⟩ (by dsimp only;rw[aY (by omega) (by omega)];omega)
   rw[h1,aY (by omega) (by omega)];rfl
  .rw[if_pos hc2]at h1
   refine T.go ⟨k+1,by omega,?_⟩ (by dsimp only;rw[aY (by omega) (by omega)];omega)
   rw[h1,aY (by omega) (by omega)];rfl
 .obtain rfl:k=nx.length:=by omega
  have hf:=hfin rfl
  have hS:nE ns (i:Int) cs (x::nx)=Ef ns (i:Int) x c n:=by unfold nE;rw[Am,List.tail_cons,<- hf]
  rw[hS]at s1 s3 ⊢
  unfold Ef at s1 s3 ⊢
  rw[hNn]
  have hCc:=aR c
  rw[hCc]
  refine T.lT (T.cnd (λhc2=>?_) (λhc2=>?_))<;>simp only[dD,dG]at hc2
  .have hcz:c=[]:=dQ (by omega)
   rw[if_pos hcz]
   exact T.grd (by rw[bf];omega) (T.grd (by rw[dU];simp) (T.ret rfl))
  have hcz:c≠[]:=λe=>by subst e;simp at hc2
  rw[if_neg hcz]
  have hNs:=aR ns
  rw[dV]at hsb
  rw[show List.take nx.length cs=cs by rw[hl,dV]]at hsb
  have hmem:∀y∈x::n,Rf ns lo (i+1) y:=λy hy=>by
   rcases bT.1 hy with rfl|hy
   .exact hnx _ (by simp)
   .exact hnx _ (j6 _ (hsb.2.mem hy))
  have hso:mX dm ns ((i:Int),c,x::n,()):=by
   refine⟨by show(0:Int)<=i;omega,by show(i:Int)<_;omega,by show 0<c.length;omega,by show(x::n).length=_;rw[bI,hln],λk hk=>?_,λk hk=>?_⟩
   .show(dm.getD (i:Int).toNat zS).1<_/\_<=(dm.getD (i:Int).toNat zS).2.1/\_
    rw[aZ]
    exact(hc.sub hsb.1).at k hk
   .have hk':k<(x::n).length:=hk
    have hmk:=hmem ((x::n).getD k 0) (by rw[getD_eq _ _ _ hk'];exact aJ hk')
    refine⟨⟨by show -256<=(x::n).getD k 0;have:=hmk.1;omega,hmk.2.1⟩,λq=>?_,λq=>?_⟩
    .obtain⟨j,rfl⟩:∃j,k=j+1:=⟨k-1,by omega⟩
     exact WL j (by simpa using hk')
    .have:=hmk.2.2 q
     show(i:Int)<(ns.getD ((x::n).getD k 0).toNat zN).1
     omega
  have hkey:=Yg hd hn hso
  refine T.dh hkey ?_
  dsimp only
  have hmF:=a1a ((i:Int),c,x::n,()) ns
  unfold yh oO
  rw[hmF]
  by_cases hin:((i:Int),c,x::n,())∈ns
  .rw[if_pos hin,if_pos hin]
   exact T.cf rfl (T.ret rfl)
  .rw[if_neg hin,if_neg hin]
   refine T.ct rfl (T.grd (by rw[dN,aF];omega) (T.ret ?_))
   rw[hNs,a09 _ _ hin]
theorem NM{lo hi:Int}{r:List Int}(h:tL lo hi r):r=lo::r.tail/\qD lo hi r.tail:=by
 cases r with
 |nil=>cases h.1
 |cons x xs =>
  have e:x=lo:=aI h.1
  subst e
  have hp:=iN.1 h.2.1
  exact⟨rfl,hp.2,λc hc=>⟨hp.1 c hc,h.2.2 c (j6 _ hc)⟩⟩
def GF(dm:List DS3)(g:List (List Int))(F:List Int->Int):Prop:=∀(pre:List Int) (w:Int) (rest:List Int),pre.length<dm.length->(dm.getD pre.length zS).1<=w->F (pre++w::rest)=F (pre++(g.getD pre.length []).getD (brK (g.getD pre.length []).tail w) 0::rest)
def zM(dm:List DS3)(F:List Int->Int)(ns:List DS1)(pre:List Int)(r:Int):Prop:=∀fs,FOk dm fs->vlF ns 9 r fs=F (pre++fs.drop pre.length)
theorem zM.app{dm:List DS3}{F:List Int->Int}{ns:List DS1}{pre:List Int}{r:Int}(h:zM dm F ns pre r)(hs:iC dm ns)(hr:r<(ns.length:Int))(t:List DS1):zM dm F (ns++t) pre r:=λfs hf=>by rw[DY hs t fs 9 r hr];exact h fs hf
theorem drop_cons{fs:List Int}{i:Nat}(h:i<fs.length):fs.drop i=fs.getD i 0::fs.drop (i+1):=by rw[getD_eq _ _ _ h];exact jc h
theorem Lc{pre:List Int}{r:List Int}{g:List (List Int)}{F:List Int->Int}(hg:∀r∈g,1<=r.length){c k:Nat}(hk:k<bS g)(hc:c<r.length):F (pre++atS (r::g) (c*bS g+k))=F ((pre++[r.getD c 0])++atS g k):=by
 rw[FH,Ug g hg,digit hk hc,aX];rfl
theorem SL {dm:List DS3} {lo:Int} (hd:gX dm) (hlo:-256<=lo) (hlo0:lo<=0) {g:List (List Int)} (hg:GOk dm g) {F:List Int->Int} (hF:GF dm g F) {pre:List Int} (hp:qU dm pre) {i:Nat} (hpl:pre.length=i) (hi:i < dm.length) {r:List Int} (hgr:g.getD i []=r) {nx:List Int} {ns:List DS1} (hl:nx.length=r.length) (hrl:r.length<=1000000) (hnx:∀ c ∈ nx,Rf ns lo (i + 1) c) (hN:kM dm lo ns) (hn:ns.length<=1000000)
  (hS:∀k,k<r.length->zM dm F ns (pre++[r.getD k 0]) (nx.getD k 0)) (gg:List (List Int)) (vv:List Int) :
  T (yL (i:Int) r gg vv nx ns) (λy=>∃t,y=(y.1,gg,vv,nx,ns++t,())/\kM dm lo (ns++t)/\Rf (ns++t) lo i y.1/\t.length<=1/\(nx.length=1->t=[])/\zM dm F (ns++t) pre y.1/\∀j:Nat,ns.length<=j->j<(ns++t).length->uW dm F (ns++t) (j:Int)):=by
 have hrow:tL (dm.getD i zS).1 (dm.getD i zS).2.1 r:=by
  have hgl:i<g.length:=by rw[hg.1];exact hi
  have:=hg.row hgl
  rw[getD_eq _ _ _ hgl]at hgr
  rwa [hgr]at this
 obtain⟨hr0,hcut⟩:=NM hrow
 generalize hcs:r.tail=cs at hr0 hcut
 have hrl2:r.length=cs.length+1:=by rw[hr0];rfl
 obtain⟨x,nx',rfl⟩:∃x t,nx=x::t:=by
  cases nx with
  |nil=>simp at hl;omega
  |cons x t=>exact⟨x,t,rfl⟩
 have hl':nx'.length=cs.length:=by simp at hl;omega
 obtain⟨t,s1,s2,s3,s4,s5,s6,s7,_⟩:=Lv hd hlo hi hcut (nx:=x::nx') (by simpa using hl') hnx hN hlo0
 have hE:=a3E (i:Int) (c0:=(dm.getD i zS).1) (x:=x) hl' (by omega) (ns:=ns) (λy hy=>by
  obtain⟨j,hj,rfl⟩:=fD hy
  have:=(hN.1 j hj).len hd
  rw[getD_eq _ _ _ hj]at this;omega) hn gg vv
 rw[<- hr0]at hE
 have Dx:zM dm F (ns++t) pre (nE ns (i:Int) cs (x::nx')).1:=λfs hf=>by
  rw[s6 fs]
  have hlow:=(hf.2 i hi).1
  have hk:brK cs (fs.getD i 0)<r.length:=by have:=sZ cs (fs.getD i 0);omega
  have hm:(x::nx').getD (brK cs (fs.getD i 0)) 0∈x::nx':=by rw[getD_eq _ _ _ (by rw[hl];exact hk)];exact aJ _
  have h1:=(hS _ hk).app hN.1 (hnx _ hm).2.1 t fs hf
  rw[h1,hpl,drop_cons (show i<fs.length by rw[hf.1];exact hi)]
  have h2:=hF pre (fs.getD i 0) (fs.drop (i+1)) (by omega) (by rw[hpl];exact hlow)
  rw[hpl,hgr,hcs]at h2
  rw[h2,aX]
  have:(pre++[r.getD (brK cs (fs.getD i 0)) 0]).length=i+1:=by simp;omega
  rw[this];rfl
 refine T.of hE ⟨t,?_,s2,s3,s4,λe=>s5 (dQ (by have e:nx'.length+1=1:=e;omega)),Dx,λj h1 h2=>?_⟩
 .rw[s1]
 .rw[<- s7 j h1 h2];exact⟨pre,hp,Dx⟩
theorem a1K {dm:List DS3} {lo:Int} (hd:gX dm) (hlo:-256<=lo) (hlo0:lo<=0) {g:List (List Int)} (hg:GOk dm g) (hgl:∀ r ∈ g,r.length<=1000000) (hP:bS g<=1000000) {v:List Int} (hv:∀ x ∈ v,0<=x/\lo<=-1 - x) (hvl:v.length<=1000000) {F:List Int->Int} (hF:GF dm g F) (i at_:Nat) (ns:List DS1) (pre:List Int) (hpl:pre.length=i) (hp:qU dm pre) (hcell:∀ k,k < bS (g.drop i)->v.getD (at_ + k) 0=F (pre ++ atS (g.drop i) k)) (hi:i<=g.length) (hat:at_ + bS (g.drop i)<=v.length) (hN:kM dm lo ns) (hns:ns.length + bS (g.drop i)<=1000000) :
  T (m80 (i:Int) (at_:Int) (bS (g.drop i):Int) g v ns) (λy=>∃t,y=(y.1,g,v,ns++t,())/\kM dm lo (ns++t)/\Rf (ns++t) lo i y.1/\t.length+1<=bS (g.drop i)/\zM dm F (ns++t) pre y.1/\∀j:Nat,ns.length<=j->j<(ns++t).length->uW dm F (ns++t) (j:Int)):=by
 unfold m80
 refine Cu (ι:=Nat×Nat×List DS1×List Int) Od (λq=>((q.1:Int),(q.2.1:Int),(bS (g.drop q.1):Int),g,v,q.2.2.1,())) (λq=>q.1<=g.length/\q.2.1+bS (g.drop q.1)<=v.length/\kM dm lo q.2.2.1/\q.2.2.1.length+bS (g.drop q.1)<=1000000/\q.2.2.2.length=q.1/\qU dm q.2.2.2/\∀k,k<bS (g.drop q.1)->v.getD (q.2.1+k) 0=F (q.2.2.2++atS (g.drop q.1) k))
  (λq y=>∃t,y=(y.1,g,v,q.2.2.1++t,())/\kM dm lo (q.2.2.1++t)/\Rf (q.2.2.1++t) lo q.1 y.1/\t.length+1<=bS (g.drop q.1)/\zM dm F (q.2.2.1++t) q.2.2.2 y.1/\∀j:Nat,q.2.2.1.length<=j->j<(q.2.2.1++t).length->uW dm F (q.2.2.1++t) (j:Int)) (λq=>g.length-q.1) ?_ (i,at_,ns,pre) ⟨hi,hat,hN,hns,hpl,hp,hcell⟩
 rintro⟨i,at_,ns,pre⟩ ⟨hi,hat,hN,hns,hpl,hp,hcell⟩ s ih
 dsimp only at hi hat hN hns hpl hp hcell ih ⊢
 unfold Fb
 have hG:=aR g
 have hV:=aR v
 have hd2:=hd.2.1
 have hgd:=hg.1
 rw[hG,hV]
 refine T.cnd (λhc=>?_) (λhc=>?_)<;>simp only[dD,dG]at hc
 .obtain rfl:i=g.length:=by omega
  rw[nR]at hat hcell ⊢
  simp only[bS]at hat hcell ⊢
  have hal:at_<v.length:=by omega
  rw[dF,getD_eq _ _ _ hal]
  have hx:=hv _ (aJ hal)
  refine T.grd (by rw[bf];omega) (T.ret ⟨[],by rw[bL],by rw[bL];exact hN,?_,by simp,λfs hf=>?_,λj h1 h2=>by rw[bL]at h2;omega⟩)
  rotate_left
  .show vlF _ 9 (fV .i64 (-1) v[at_]) fs=_
   rw[eF (by omega) (by omega),iY _ _ (by omega)]
   have h0:=hcell 0 (by omega)
   rw[jO,getD_eq _ _ _ hal]at h0
   rw[hpl,List.drop_of_length_le (by have:=hf.1;omega),show -1-(-1-v[at_])=v[at_]by omega,h0]
   rfl
  rw[bL,eF (by omega) (by omega)]
  exact⟨hx.2,by show -1-v[at_]<_;omega,λq=>absurd q (by show ¬0<=-1-v[at_];omega)⟩
 have hil:i<g.length:=by omega
 have hrow:=hg.row hil
 have hrp:=hrow.pos
 have hpd:=sS g i hil
 have Cw:rM .i64 (bS (g.drop i):Int) (g[i].length:Int)=(bS (g.drop (i+1)):Int):=by
  unfold rM
  rw[hpd,jy (by omega)]
  have:((g[i].length*bS (g.drop (i+1)):Nat):Int)/(g[i].length:Int)=(bS (g.drop (i+1)):Int):=by
   rw[<- rQ,qd _ (by omega)]
  rw[this]
  have h1:bS (g.drop (i+1))<=bS (g.drop i):=by
   rw[hpd]
   have:1*bS (g.drop (i+1))<=g[i].length*bS (g.drop (i+1)):=gH hrp (bF _)
   omega
  rw[wrap64]<;>omega
 have hgi:=hgl _ (aJ hil)
 have QH:∀r∈g.drop (i+1),1<=r.length:=λr hr=>(hg.len hd r (l6 hr)).1
 have hkv:∀k,k<g[i].length->(dm.getD i zS).1<=g[i].getD k 0/\g[i].getD k 0<=(dm.getD i zS).2.1:=λk hk=>⟨(KM hrow).2 k hk,by rw[getD_eq _ _ _ hk];exact hrow.2.2 _ (aJ hk)⟩
 have hR:=aR g[i]
 rw[dF,getD_eq _ _ _ hil,hR,Cw]
 generalize hpt:bS (g.drop (i+1))=part at hpd
 refine T.grd (by rw[bf];omega) (T.grd (by rw[fZ];omega) ?_)
 refine T.loop (λq=>∃(k:Nat) (t:List DS1) (nx:List Int),k<=g[i].length/\nx.length=k/\kM dm lo (ns++t)/\(∀c∈nx,Rf (ns++t) lo (i+1) c)/\t.length+k<=k*part/\(∀k',k'<k->zM dm F (ns++t) (pre++[g[i].getD k' 0]) (nx.getD k' 0))/\(∀j:Nat,ns.length<=j->j<(ns++t).length->uW dm F (ns++t) (j:Int))/\q=((i:Int),(at_:Int),(part:Int),(k:Int),g,v,ns++t,nx,())) (λq=>g[i].length-q.2.2.2.1.toNat) ⟨0,[],[],by omega,rfl,by rw[bL];exact hN,λc hc=>(by cases hc),by simp,λk' h=>by omega,λj h1 h2=>by rw[bL]at h2;omega,by rw[bL];rfl⟩ ?_
 rintro _ ⟨k,t,nx,hk,hnx,hNt,hrf,htl,hsm,hsb,rfl⟩
 dsimp only
 rw[hG,dF,getD_eq _ _ _ hil,hR]
 refine T.grd (by rw[bf];omega) (T.cnd (λhc2=>?_) (λhc2=>?_))<;>simp only[bD,bq]at hc2
 .have hkl:k<g[i].length:=by omega
  have hkp:(k+1)*part<=g[i].length*part:=gH hkl (bF _)
  rw[bY,fH]at hkp
  have e1:bX .i64 (i:Int) 1=((i+1:Nat):Int):=by rw[aY (by omega) (by omega)];omega
  have ekp:(k:Int)*(part:Int)=((k*part:Nat):Int):=by push_cast;rfl
  have e2:bX .i64 (at_:Int) (AQ .i64 (k:Int) (part:Int))=((at_+k*part:Nat):Int):=by
   rw[jC (by omega) (by omega),ekp,aY (by omega) (by omega)];omega
  rw[e1,e2]
  have hcall:=ih (i+1,at_+k*part,ns++t,pre++[g[i].getD k 0]) ⟨by omega,by dsimp only;rw[hpt];omega,hNt,by dsimp only;rw[hpt,ak];omega,by simp[hpl],by dsimp only;exact hp.snoc (by omega) (by rw[hpl];exact(hkv k hkl).1) (by rw[hpl];exact(hkv k hkl).2),λk2 hk2=>by
   dsimp only at hk2 ⊢
   rw[hpt]at hk2
   have h1:=hcell (k*part+k2) (by rw[hpd];omega)
   rw[show g.drop i=g[i]::g.drop (i+1) from jc hil,<- hpt,Lc (pre:=pre) (F:=F) QH (by rw[hpt];exact hk2) hkl,hpt]at h1
   rw[<- h1,kr]⟩ (by dsimp only;omega)
  dsimp only at hcall
  rw[hpt]at hcall
  refine T.call hcall ?_
  rintro⟨r,q1,q2,q3,⟨⟩⟩ ⟨t2,heq,hN2,hr2,ht2,zy,zB⟩
  obtain⟨rfl,rfl,rfl⟩:g=q1/\v=q2/\ns++t++t2=q3:=by
   simp only[jw]at heq
   exact⟨heq.2.1.symm,heq.2.2.1.symm,heq.2.2.2.1.symm⟩
  dsimp only at hr2 zy zB ⊢
  rw[aX]at hN2 hr2 zy zB
  rw[aX]
  refine T.grd (by rw[dN,aF];omega) (T.go ⟨k+1,t++t2,nx++[r],by omega,by rw[ak,aF,hnx],hN2,λc hc=>?_,?_,λk' hk'=>?_,λj h1 h2=>?_,by rw[aY (by omega) (by omega)];rfl⟩ (by dsimp only;rw[aY (by omega) (by omega)];omega))
  .rcases aV.1 hc with q|q
   .have:=(hrf c q).app t2
    rwa [aX]at this
   .obtain rfl:=bG.1 q;exact hr2
  .rw[ak,bY,fH];omega
  .rcases aM k' k with q|q
   .rw[iK _ _ _ (by omega)]
    have hm:nx.getD k' 0∈nx:=by rw[getD_eq _ _ _ (by omega)];exact aJ _
    have:=(hsm k' q).app hNt.1 (hrf _ hm).2.1 t2
    rwa [aX]at this
   .obtain rfl:k'=k:=by omega
    rw[<- hnx,mg,hnx];exact zy
  .rcases aM j (ns++t).length with q|q
   .have:=(hsb j h1 q).app hNt.1 (by omega) t2
    rwa [aX]at this
   .exact zB j q h2
 .obtain rfl:k=g[i].length:=by omega
  refine T.lT (T.grd (by rw[bf];omega) (T.call (SL hd hlo hlo0 hg hF hp hpl (by omega) (getD_eq _ _ _ hil) (nx:=nx) (ns:=ns++t) (by omega) hgi hrf hNt (by rw[ak];omega) hsm g v) ?_))
  rintro⟨r,q1,q2,q3,q4,⟨⟩⟩ ⟨t2,heq,hN2,hr2,ht2,ht3,zy,zB⟩
  obtain⟨rfl,rfl,rfl,rfl⟩:g=q1/\v=q2/\nx=q3/\ns++t++t2=q4:=by
   simp only[jw]at heq
   exact⟨heq.2.1.symm,heq.2.2.1.symm,heq.2.2.2.1.symm,heq.2.2.2.2.1.symm⟩
  dsimp only at hr2 zy zB ⊢
  rw[aX]at hN2 hr2 zy zB
  rw[aX]
  refine T.grd (by rw[iB];exact⟨iX _,rfl⟩) (T.ret ⟨t++t2,rfl,hN2,hr2,?_,zy,λj h1 h2=>?_⟩)
  rotate_left
  .rcases aM j (ns++t).length with q|q
   .have:=(hsb j h1 q).app hNt.1 (by omega) t2
    rwa [aX]at this
   .exact zB j q h2
  rw[ak,hpd]
  have hlx:g[i].length=nx.length:=hnx.symm
  rw[hlx]at htl ⊢
  rw[hlx]at hrp
  by_cases h1:nx.length=1
  .rw[ht3 h1,bV];omega
  .omega
theorem Xa {dm:List DS3} {lo:Int} (hd:gX dm) (hlo:-256<=lo) (hlo0:lo<=0) {g:List (List Int)} (hg:GOk dm g) (hgl:∀ r ∈ g,r.length<=1000000) (hP:bS g<=500000) {v:List Int} (hv:∀ x ∈ v,0<=x/\lo<=-1 - x) (hvl:v.length=bS g) {F:List Int->Int} (hF:GF dm g F) (hcell:∀ k,k < bS g->v.getD k 0=F (atS g k)) :
  T (Ch 0 0 (ay v) g v) (λy=>∃t,y=(y.1,g,v,t,())/\kM dm lo t/\Rf t lo 0 y.1/\t.length+1<=bS g/\zM dm F t [] y.1/\∀j:Nat,j<t.length->uW dm F t (j:Int)):=by
 unfold Ch
 have hG:=aR g
 have hV:=aR v
 have hd1:=hd.1
 have hd2:=hd.2.1
 have hgd:=hg.1
 have hil:0<g.length:=by omega
 have hrow:=hg.row hil
 have hrp:=hrow.pos
 have hpd:=sS g 0 hil
 rw[jg,dJ]at hpd
 have Cw:rM .i64 (ay v) (g[0].length:Int)=(bS (g.drop 1):Int):=by
  unfold rM
  rw[hV,hvl,hpd,jy (by omega)]
  have:((g[0].length*bS (g.drop 1):Nat):Int)/(g[0].length:Int)=(bS (g.drop 1):Int):=by
   rw[<- rQ,qd _ (by omega)]
  rw[this]
  have h1:bS (g.drop 1)<=bS g:=by
   rw[hpd]
   have:1*bS (g.drop 1)<=g[0].length*bS (g.drop 1):=gH hrp (bF _)
   omega
  rw[wrap64]<;>omega
 have hgi:=hgl _ (aJ hil)
 have QH:∀r∈g.drop 1,1<=r.length:=λr hr=>(hg.len hd r (l6 hr)).1
 have hkv:∀k,k<g[0].length->(dm.getD 0 zS).1<=g[0].getD k 0/\g[0].getD k 0<=(dm.getD 0 zS).2.1:=λk hk=>⟨(KM hrow).2 k hk,by rw[getD_eq _ _ _ hk];exact hrow.2.2 _ (aJ hk)⟩
 have hR:=aR g[0]
 have e00:atI g 0 []=g[0]:=getD_eq g 0 [] hil
 rw[e00,hR,Cw,hG]
 have a9O:bS (g.drop (0+1))=bS (g.drop 1):=rfl
 generalize hpt:bS (g.drop 1)=part at hpd
 refine T.cf (by rw[dG];omega) (T.grd (by rw[bf];omega) (T.grd (by rw[fZ];omega) ?_))
 refine T.loop (λq=>∃(k:Nat) (t:List DS1) (nx:List Int),k<=g[0].length/\nx.length=k/\kM dm lo t/\(∀c∈nx,Rf t lo 1 c)/\t.length+k<=k*part/\(∀k',k'<k->zM dm F t ([]++[g[0].getD k' 0]) (nx.getD k' 0))/\(∀j:Nat,j<t.length->uW dm F t (j:Int))/\q=(0,0,(part:Int),(k:Int),g,v,nx,t,())) (λq=>g[0].length-q.2.2.2.1.toNat) ⟨0,[],[],by omega,rfl,kM.nil dm lo,λc hc=>(by cases hc),by simp,λk' h=>(by omega),λj h=>(by cases h),rfl⟩ ?_
 rintro _ ⟨k,t,nx,hk,hnx,hNt,hrf,htl,hsm,hsb,rfl⟩
 dsimp only
 rw[hG,e00,hR]
 refine T.grd (by rw[bf];omega) (T.cnd (λhc2=>?_) (λhc2=>?_))<;>simp only[bD,bq]at hc2
 .have hkl:k<g[0].length:=by omega
  have hkp:(k+1)*part<=g[0].length*part:=gH hkl (bF _)
  rw[bY,fH]at hkp
  have e1:bX .i64 0 1=((0+1:Nat):Int):=by rw[aY (by omega) (by omega)];rfl
  have ekp:(k:Int)*(part:Int)=((k*part:Nat):Int):=by push_cast;rfl
  have e2:bX .i64 0 (AQ .i64 (k:Int) (part:Int))=((k*part:Nat):Int):=by
   rw[jC (by omega) (by omega),ekp,aY (by omega) (by omega)];omega
  rw[e1,e2]
  have hcall:=a1K hd hlo hlo0 hg hgl (by omega) hv (by omega) hF 1 (k*part) t ([]++[g[0].getD k 0]) rfl ((qU.nil dm).snoc (by simp;omega) (hkv k hkl).1 (hkv k hkl).2) (λk2 hk2=>by
   rw[hpt]at hk2
   have h1:=hcell (k*part+k2) (by rw[hpd];omega)
   have e:g=g[0]::g.drop 1:=by have:=jc hil;rwa [jg]at this
   have h2:=Lc (pre:=[]) (F:=F) (r:=g[0]) QH (c:=k) (k:=k2) (by rw[hpt];exact hk2) hkl
   rw[hpt,<- e]at h2
   rw[h1,<- h2];rfl) (by omega) (by rw[hpt];omega) hNt (by rw[hpt];omega)
  rw[hpt]at hcall
  refine T.call hcall ?_
  rintro⟨r,q1,q2,q3,⟨⟩⟩ ⟨t2,heq,hN2,hr2,ht2,zy,zB⟩
  obtain⟨rfl,rfl,rfl⟩:g=q1/\v=q2/\t++t2=q3:=by
   simp only[jw]at heq
   exact⟨heq.2.1.symm,heq.2.2.1.symm,heq.2.2.2.1.symm⟩
  dsimp only at hr2 ⊢
  refine T.grd (by rw[dN,aF];omega) (T.go ⟨k+1,t++t2,nx++[r],by omega,by rw[ak,aF,hnx],hN2,λc hc=>?_,?_,λk' hk'=>?_,λj h2=>?_,by rw[aY (by omega) (by omega)];rfl⟩ (by dsimp only;rw[aY (by omega) (by omega)];omega))
  .rcases aV.1 hc with q|q
   .exact(hrf c q).app t2
   .obtain rfl:=bG.1 q;exact hr2
  .rw[ak,bY,fH];omega
  .rcases aM k' k with q|q
   .rw[iK _ _ _ (by omega)]
    have hm:nx.getD k' 0∈nx:=by rw[getD_eq _ _ _ (by omega)];exact aJ _
    exact(hsm k' q).app hNt.1 (hrf _ hm).2.1 t2
   .obtain rfl:k'=k:=by omega
    rw[<- hnx,mg,hnx];exact zy
  .rcases aM j t.length with q|q
   .exact(hsb j q).app hNt.1 (by omega) t2
   .exact zB j q h2
 .obtain rfl:k=g[0].length:=by omega
  refine T.lT (T.grd (by rw[bf];omega) (T.call (SL (i:=0) hd hlo hlo0 hg hF (qU.nil dm) rfl (by omega) (getD_eq _ _ _ hil) (nx:=nx) (ns:=t) (by omega) hgi hrf hNt (by omega) hsm g v) ?_))
  rintro⟨r,q1,q2,q3,q4,⟨⟩⟩ ⟨t2,heq,hN2,hr2,ht2,ht3,zy,zB⟩
  obtain⟨rfl,rfl,rfl,rfl⟩:g=q1/\v=q2/\nx=q3/\t++t2=q4:=by
   simp only[jw]at heq
   exact⟨heq.2.1.symm,heq.2.2.1.symm,heq.2.2.2.1.symm,heq.2.2.2.2.1.symm⟩
  dsimp only at hr2 ⊢
  refine T.grd (by rw[iB];exact⟨iX _,rfl⟩) (T.ret ⟨t++t2,rfl,hN2,hr2,?_,zy,λj h2=>?_⟩)
  rotate_left
  .rcases aM j t.length with q|q
   .exact(hsb j q).app hNt.1 (by omega) t2
   .exact zB j q h2
  rw[ak,hpd]
  have hlx:g[0].length=nx.length:=hnx.symm
  rw[hlx]at htl ⊢
  rw[hlx]at hrp
  by_cases h1:nx.length=1
  .rw[ht3 h1,bV];omega
  .omega
theorem a13 {dm:List DS3} {lo:Int} (hd:gX dm) (hlo:-256<=lo) (hlo0:lo<=0) {g:List (List Int)} (hg:GOk dm g) (hgl:∀ r ∈ g,r.length<=1000000) (hP:bS g<=500000) {v:List Int} (hv:∀ x ∈ v,0<=x/\lo<=-1 - x) (hvl:v.length=bS g) {F:List Int->Int} (hF:GF dm g F) (hcell:∀ k,k < bS g->v.getD k 0=F (atS g k)) :
  T (m48 g v) (λy=>∃bn rt,kM dm lo bn/\Rf bn lo 0 rt/\(∀fs,FOk dm fs->vlF bn 9 rt fs=F fs)/\(∀j:Nat,j<bn.length->uW dm F bn (j:Int))/\y=(if bn.length<=1000 then((lF bn (cK bn 8 [] rt),dR (cK bn 8 [] rt) rt,()),0,()) else(([],0,()),4,()))):=by
 unfold m48
 refine T.call (Xa hd hlo hlo0 hg hgl (by omega) hv hvl hF hcell) ?_
 rintro⟨root,q1,q2,ns,⟨⟩⟩ ⟨t,heq,hN,hr,ht,hsm,hsb⟩
 obtain⟨rfl,rfl,rfl⟩:g=q1/\v=q2/\t=ns:=by
  simp only[jw]at heq
  exact⟨heq.2.1.symm,heq.2.2.1.symm,heq.2.2.2.1.symm⟩
 dsimp only at hr hsm ⊢
 have hsm:∀fs,FOk dm fs->vlF t 9 root fs=F fs:=λfs hf=>by have:=hsm fs hf;rwa [bV,jg,fq]at this
 have hN':=aR t
 have hs:=hN.1
 obtain⟨hR,hF⟩:=lY hd hs
 have h0:jQ t.length []:=⟨kC,λx hx=>by cases hx⟩
 have hO:=(pq hR 8 root [] hr.2.1 h0).1
 have hr8:rkI (rkA t) root<=8:=by
  unfold rkI
  split
  .omega
  .exact hF _ (by have:=hr.2.1;omega)
 obtain⟨hcr,hcl0⟩:=uo hR 8 8 root [] hr8 (bF _) hr.2.1 h0
 rw[hN']
 refine T.cnd (λhc0=>?_) (λhc0=>?_)<;>simp only[bD,bq]at hc0
 .exact T.ret ⟨t,root,hN,hr,hsm,hsb,by rw[if_neg (by omega)]⟩
 refine T.mono (Q:=λy=>y=((lF t (cK t 8 [] root),dR (cK t 8 [] root) root,()),0,())) ?_ (λy hy=>⟨t,root,hN,hr,hsm,hsb,by rw[if_pos (by omega)];exact hy⟩)
 refine T.grd (by rw[gM];omega) ?_
 rw[aZ]
 refine T.loop (λq=>∃(i:Nat) (p:List Int),i<=t.length/\p.length=t.length/\(∀j,j<i->p.getD j 0=-1)/\q=(root,(i:Int),0,g,v,p,t,())) (λq=>t.length-q.2.1.toNat) ⟨0,_,by omega,by simp,λj hj=>by omega,rfl⟩ ?_
 rintro _ ⟨i,p,hi,hp,hpg,rfl⟩
 dsimp only
 have hpI:=aR p
 rw[hpI,aZ]
 refine T.cnd (λhc2=>?_) (λhc2=>?_)<;>simp only[bD,bq]at hc2
 .refine T.grd (by rw[bf];omega) (T.grd (by rw[dU];omega) (T.go ⟨i+1,p.set i (-1),by omega,by rw[bK];exact hp,λj hj=>?_,by rw[aY (by omega) (by omega)];rfl⟩ (by dsimp only;rw[aY (by omega) (by omega)];omega)))
  rw[nN p i j _ _ (by omega)]
  split
  .rfl
  .exact hpg j (by omega)
 obtain rfl:i=t.length:=by omega
 obtain rfl:p=eP t.length []:=by
  rw[C9]
  apply gB (by simp[hp])
  intro j h1 h2
  have:=hpg j (by omega)
  rw[getD_eq _ _ _ h1]at this
  rw[this];simp
 refine T.lT (T.call (SK hR (by omega) hF g v root hr.2.1) ?_)
 rintro _ rfl
 dsimp only
 generalize hOe:cK t 8 [] root=O at hO hcr hcl0
 have hcl:∀r∈O,∀k∈kids t r,0<=k->k.toNat∈O:=λr hr=>hcl0 r hr (λq=>by cases q)
 have hOl:=hO.len
 have hPl:=iw t.length O
 have hPI:=aR (eP t.length O)
 refine T.grd (by rw[iB];exact⟨by rw[iw,iw];exact iX _,rfl⟩) ?_
 refine T.loop (λq=>∃(i:Nat) (o:List DS1),i<=O.length/\o.length=O.length/\(∀j (hj:j<O.length),o.getD j zN=if j<i then imN t O O[j] else t.getD O[j] zN)/\q=(root,(i:Int),0,eP t.length O,o,())) (λq=>O.length-q.2.1.toNat) ⟨0,mW t O,by omega,wP t O,λj hj=>?_,rfl⟩ ?_
 .rw[if_neg (by omega),getD_eq _ _ _ (by rw[wP];exact hj)];simp[mW]
 rintro _ ⟨i,o,hi,hol,hog,rfl⟩
 dsimp only
 have hoI:=aR o
 rw[hoI]
 refine T.cnd (λhc2=>?_) (λhc2=>?_)<;>simp only[bD,bq]at hc2
 .have hil:i<O.length:=by omega
  have hoi:=hog i hil
  rw[if_neg (by omega)]at hoi
  have hrm:=aJ hil
  have hrn:=hO.2 _ hrm
  obtain⟨hkl,hk⟩:=hR _ hrn
  have hK:=aR (kids t O[i])
  have eo:o.getD i (0,[],[],())=t.getD O[i] zN:=hoi
  have eK:(t.getD O[i] zN).2.2.1=kids t O[i]:=rfl
  have b1:bnd (i:Int) (o.length:Int)=true:=by rw[bf];omega
  have b2:inB i o=true:=by rw[dU];omega
  refine T.loop (λq=>∃k:Nat,k<=(kids t O[i]).length/\q=(root,(i:Int),(k:Int),0,eP t.length O,o,((kids t O[i]).take k).map (dR O),())) (λq=>(kids t O[i]).length-q.2.2.1.toNat) ⟨0,by omega,rfl⟩ ?_
  rintro _ ⟨k,hkk,rfl⟩
  dsimp only
  rw[hoI,aZ,eo,eK,hK,dF,hPI]
  refine T.grd b1 (T.grd b2 (T.cnd (λhc3=>?_) (λhc3=>?_)))<;>simp only[bD,bq]at hc3
  .have Dz:k<(kids t O[i]).length:=by omega
   rw[getD_eq _ _ _ Dz]
   have hkm:=aJ Dz
   obtain⟨k1,_⟩:=hk _ hkm
   have hcm:=hcl _ hrm _ hkm
   have etk:((kids t O[i]).take (k+1)).map (dR O)=((kids t O[i]).take k).map (dR O)++[dR O (kids t O[i])[k]]:=by
    rw[bU Dz,dP];rfl
   have nxt:T (cond (fits (List.length (((kids t O[i]).take k).map (dR O)) + List.length ([dR O (kids t O[i])[k]]:List Int)) 8) (some (Sum.inl (β:=(Int × Int × Int × (List Int) × (List DS1) × Unit) ⊕ (DS2 × Int × Unit)) (root,(i:Int),bX .i64 (k:Int) 1,(0:Int),eP t.length O,o,((kids t O[i]).take k).map (dR O) ++ ([dR O (kids t O[i])[k]]:List Int),()))) none)
     (LQ (λq=>∃k:Nat,k<=(kids t O[i]).length/\q=(root,(i:Int),(k:Int),0,eP t.length O,o,((kids t O[i]).take k).map (dR O),())) (λq=>(kids t O[i]).length-q.2.2.1.toNat) ((kids t O[i]).length-(k:Int).toNat)
      (LQ (λq=>∃(i:Nat) (o:List DS1),i<=O.length/\o.length=O.length/\(∀j (hj:j<O.length),o.getD j zN=if j<i then imN t O O[j] else t.getD O[j] zN)/\q=(root,(i:Int),0,eP t.length O,o,())) (λq=>O.length-q.2.1.toNat) (O.length-(i:Int).toNat) (λy=>y=((lF t O,dR O root,()),0,())))):=by
    refine T.grd (by rw[dN,bR,bH,aF];omega) (T.go ⟨k+1,by omega,?_⟩ (by dsimp only;rw[aY (by omega) (by omega)];omega))
    rw[etk,aY (by omega) (by omega)];rfl
   refine T.grd b1 (T.grd b2 (T.grd (by rw[bf];omega) (T.cnd (λhc4=>?_) (λhc4=>?_))))<;>simp only[fU,gq]at hc4
   .rw[Ac k1 hc4 (hcm hc4)]
    exact T.grd (by rw[bf];omega) (T.grd (by rw[dU];omega) nxt)
   .have er:dR O (kids t O[i])[k]=(kids t O[i])[k]:=by unfold dR;rw[if_pos hc4]
    rw[er]at nxt
    exact nxt
  .obtain rfl:k=(kids t O[i]).length:=by omega
   rw[dV]
   refine T.lT (T.grd b1 (T.grd b2 (T.grd b1 (T.grd b2 (T.grd b1 (T.grd b2 (T.ret (show LQ _ _ _ _ (Sum.inl _) from⟨⟨i+1,o.set i (imN t O O[i]),by omega,by rw[bK];exact hol,λj hj=>?_,by rw[aY (by omega) (by omega)];rfl⟩,by dsimp only;rw[aY (by omega) (by omega)];omega⟩))))))))
   rw[nN o i j _ _ (by omega)]
   by_cases e:i=j
   .subst e;rw[if_pos rfl,if_pos (by omega)]
   .rw[if_neg e,hog j hj]
    by_cases q:j<i
    .rw[if_pos q,if_pos (by omega)]
    .rw[if_neg q,if_neg (by omega)]
 .obtain rfl:i=O.length:=by omega
  obtain rfl:o=lF t O:=by
   apply gB (by rw[hol,mV])
   intro j h1 h2
   have hj:j<O.length:=by rw[<- hol];exact h1
   have:=hog j hj
   rw[if_pos hj,getD_eq _ _ _ h1]at this
   rw[this];simp[lF]
  rw[hPI]
  refine T.lT (T.cnd (λhc3=>?_) (λhc3=>?_))<;>simp only[fU,gq]at hc3
  .have hrl:=hr.2.1
   refine T.grd (by rw[bf];omega) (T.grd (by rw[dU];omega) (T.ret ?_))
   rw[Ac hrl hc3 (hcr hc3)]
  .refine T.ret ?_
   have er:dR O root=root:=by unfold dR;rw[if_pos hc3]
   rw[er]
def opS(op x y:Int):Int:=if op=1 then min x y else if op=2 then max x y else if op=3 then(if x=y then 0 else 1) else if x=0 then y else x
theorem a9A(x y op:Int):m37 x y op=some (opS op x y,()):=by
 refine T.eq ?_
 unfold m37 opS
 refine T.cnd (λh=>?_) (λh=>?_)<;>simp only[dD,dG]at h
 .rw[if_pos h];exact T.ret rfl
 rw[if_neg h]
 refine T.cnd (λh=>?_) (λh=>?_)<;>simp only[dD,dG]at h
 .rw[if_pos h];exact T.ret rfl
 rw[if_neg h]
 refine T.cnd (λh=>?_) (λh=>?_)<;>simp only[dD,dG]at h
 .rw[if_pos h]
  refine T.cnd (λh=>?_) (λh=>?_)<;>simp only[dD,dG]at h
  .rw[if_pos h];exact T.ret rfl
  .rw[if_neg h];exact T.ret rfl
 rw[if_neg h]
 refine T.cnd (λh=>?_) (λh=>?_)<;>simp only[dD,dG]at h
 .rw[if_pos h];exact T.ret rfl
 .rw[if_neg h];exact T.ret rfl
theorem a2X(x y op:Int):m84 x y op=some (opS op x y,()):=by
 refine T.eq ?_
 unfold m84 opS
 refine T.cnd (λh=>?_) (λh=>?_)<;>simp only[dD,dG]at h
 .rw[if_pos h];exact T.ret rfl
 rw[if_neg h]
 refine T.cnd (λh=>?_) (λh=>?_)<;>simp only[dD,dG]at h
 .rw[if_pos h];exact T.ret rfl
 rw[if_neg h]
 refine T.cnd (λh=>?_) (λh=>?_)<;>simp only[dD,dG]at h
 .rw[if_pos h]
  refine T.cnd (λh=>?_) (λh=>?_)<;>simp only[fZ,gT]at h
  .rw[if_neg h];exact T.ret rfl
  .rw[if_pos h];exact T.ret rfl
 rw[if_neg h]
 refine T.cnd (λh=>?_) (λh=>?_)<;>simp only[dD,dG]at h
 .rw[if_pos h];exact T.ret rfl
 .rw[if_neg h];exact T.ret rfl
theorem Ll{op x y:Int}(h1:0<=x/\x<=255)(h2:0<=y/\y<=255):0<=opS op x y/\opS op x y<=255:=by
 unfold opS
 split
 .omega
 .split
  .omega
  .split
   .split<;>omega
   .split<;>omega
theorem Ua{v v':Int}:∀(cs:List Int),(∀c∈cs,c<=v↔c<=v')->brK cs v=brK cs v':=by
 intro cs
 induction cs with
 |nil=>intro _;rfl
 |cons c cs ih =>
  intro h
  simp only[brK]
  rw[ih λx hx=>h x (by simp[hx])]
  by_cases q:c<=v
  .rw[if_pos q,if_pos ((h c (by simp)).1 q)]
  .rw[if_neg q,if_neg λz=>q ((h c (by simp)).2 z)]
theorem x9:∀(cs:List Int) (v:Int),brK cs v<cs.length->v<cs.getD (brK cs v) 0:=by
 intro cs
 induction cs with
 |nil=>intro v h;cases h
 |cons c cs ih =>
  intro v h
  simp only[brK]at h ⊢
  split at h
  .rename_i q
   rw[if_pos q,kF]
   exact ih v (by simpa using h)
  .rename_i q
   rw[if_neg q,nK];omega
theorem U9{lo:Int}{t cs:List Int}(ht:(lo::t).Pairwise (·<·))(hc:∀c∈cs,c∈t){w:Int}(hw:lo<=w):brK cs w=brK cs ((lo::t).getD (brK t w) 0):=by
 have hp:=iN.1 ht
 have hpi:=j5.1 hp.2
 have hle:=sZ t w
 have hfl:(lo::t).getD (brK t w) 0<=w:=by
  rcases eO (brK t w) with q|q
  .rw[q];exact hw
  .obtain⟨m,hm⟩:∃m,brK t w=m+1:=⟨brK t w-1,by omega⟩
   rw[hm,kF]
   exact GD t w m (by omega)
 refine Ua cs λc hcm=>⟨λh=>?_,λh=>by omega⟩
 obtain⟨j,hj,rfl⟩:=fD (hc c hcm)
 have hjm:j<brK t w:=by
  rcases aM j (brK t w) with q|q
  .exact q
  .exfalso
   have h1:=x9 t w (by omega)
   rw[getD_eq _ _ _ (by omega)]at h1
   rcases aM (brK t w) j with r|r
   .have:=hpi _ _ (by omega) hj r;omega
   .have e:brK t w=j:=by omega
    simp only[e]at h1;omega
 obtain⟨m,hm⟩:∃m,brK t w=m+1:=⟨brK t w-1,by omega⟩
 rw[hm,kF,getD_eq _ _ _ (by omega)]
 rcases aM j m with r|r
 .exact zX (hpi _ _ hj (by omega) r)
 .have e:j=m:=by omega
  subst e;exact nV _
section
variable{dm:List DS3}
theorem Dg(pre rest:List Int)(w:Int)(j:Nat):(pre++w::rest).getD j 0=if j<pre.length then pre.getD j 0 else if j=pre.length then w else rest.getD (j-pre.length-1) 0:=by
 split
 .rename_i h;rw[iK _ _ _ h]
 .rename_i h
  rw[aQ,aK (by omega)]
  split
  .rename_i e;subst e;simp
  .rename_i e
   obtain⟨k,hk⟩:∃k,j-pre.length=k+1:=⟨j-pre.length-1,by omega⟩
   rw[hk,l7,<- aQ,jd]
theorem Uk{ns:List DS1}(hs:iC dm ns){pre rest:List Int}{w w':Int}(h:∀r,r<ns.length->(ns.getD r zN).1.toNat=pre.length->brK (ns.getD r zN).2.1 w=brK (ns.getD r zN).2.1 w'):∀(f:Nat) (r:Int),r<(ns.length:Int)->vlF ns f r (pre++w::rest)=vlF ns f r (pre++w'::rest):=by
 intro f
 induction f with
 |zero=>intro r _;rfl
 |succ f ih =>
  intro r hr
  rcases eZ r 0 with q|q
  .rw[iY _ _ q,iY _ _ q]
  have hrt:r.toNat<ns.length:=by omega
  have e:brK (ns.getD r.toNat zN).2.1 ((pre++w::rest).getD (ns.getD r.toNat zN).1.toNat 0)=brK (ns.getD r.toNat zN).2.1 ((pre++w'::rest).getD (ns.getD r.toNat zN).1.toNat 0):=by
   rw[Dg,Dg]
   split
   .rfl
   .split
    .rename_i z;exact h _ hrt z
    .rfl
  rw[nL _ _ q,nL _ _ q,e]
  exact ih _ (lZ hs hrt (vT hs hrt _)).2
theorem Mc{ns:List DS1}(hs:iC dm ns){g:List (List Int)}(hg:GOk dm g)(hh:Has ns ns.length g){i:Nat}{w:Int}(hi:i<dm.length)(hw:(dm.getD i zS).1<=w):∀r,r<ns.length->(ns.getD r zN).1.toNat=i->brK (ns.getD r zN).2.1 w=brK (ns.getD r zN).2.1 ((g.getD i []).getD (brK (g.getD i []).tail w) 0):=by
 intro r hr ha
 have hrow:=hg.2 i hi
 obtain⟨hr0,hcut⟩:=NM hrow
 have hp:=hrow.2.1
 have hc:=hh r hr
 rw[ha]at hc
 have hlo:∀c∈(ns.getD r zN).2.1,(dm.getD i zS).1<c:=λc hc=>by
  obtain⟨k,hk,rfl⟩:=fD hc
  have:=((hs r hr).2.2.2.2.1 k hk).1
  rwa [getD_eq _ _ _ hk,ha]at this
 generalize g.getD i []=row at *
 generalize row.tail=t at *
 subst hr0
 exact U9 hp (λc hcm=>by
  rcases bT.1 (hc c hcm) with q|q
  .have:=hlo c hcm;omega
  .exact q) hw
def opF(op:Int)(na nb:List DS1)(ra rb:Int)(fs:List Int):Int:=opS op (vlF na 9 ra fs) (vlF nb 9 rb fs)
theorem a5C{na nb:List DS1}{ra rb:Int}{g:List (List Int)}(op:Int)(hs:iC dm na)(hs':iC dm nb)(hra:ra<(na.length:Int))(hrb:rb<(nb.length:Int))(hg:GOk dm g)(hh:Has na na.length g)(hh':Has nb nb.length g):GF dm g (opF op na nb ra rb):=λpre w rest hp hw=>by
 unfold opF
 rw[Uk hs (Mc hs hg hh hp hw) 9 ra hra,Uk hs' (Mc hs' hg hh' hp hw) 9 rb hrb]
theorem a98{ns:List DS1}(hd:gX dm)(hs:iC dm ns)(fs:List Int):∀(f:Nat) (r:Int),jm ns.length r->rkI (rkA ns) r<=f->0<=vlF ns f r fs/\vlF ns f r fs<=255:=by
 intro f
 induction f with
 |zero =>
  intro r hr h
  have q:r<0:=by unfold rkI at h;split at h;assumption;omega
  have:=hr.1
  rw[iY _ _ q];omega
 |succ f ih =>
  intro r hr h
  rcases eZ r 0 with q|q
  .have:=hr.1
   rw[iY _ _ q];omega
  have hrt:r.toNat<ns.length:=by have:=hr.2;omega
  have hk:=vT hs hrt (fs.getD (ns.getD r.toNat zN).1.toNat 0)
  have hrk:=Dv hd hs hrt hk
  unfold rkI at h
  rw[if_neg (by omega)]at h
  rw[nL _ _ q]
  exact ih _ (lZ hs hrt hk) (by omega)
theorem ZI{ns:List DS1}(hd:gX dm)(hs:iC dm ns)(fs:List Int){r:Int}(hr:jm ns.length r):0<=vlF ns 9 r fs/\vlF ns 9 r fs<=255:=a98 hd hs fs 9 r hr (cZ (F3 hd hs hr.2) (by omega))
end
theorem a4z(l:List DS0)(hv:jH l=0)(na nb:List DS1)(ra rb:Int)(hA:VD (doms l) na ra)(hB:VD (doms l) nb rb):∃g1 g,GOk (doms l) g/\Has na na.length g/\Has nb nb.length g/\m49 (l,()) ((doms l).map λd=>[d.1]) (na,ra,())=some (g1,())/\m49 (l,()) g1 (nb,rb,())=some (g,())/\T (m20 (l,()) (na,ra,()) (nb,rb,())) (λy=>y.1=true->bS g<=8192):=by
 have hd:=ql hv
 have hd2:=hd.2.1
 obtain⟨⟨g1,⟨⟩⟩,e1,a1,a2,a3⟩:=MG l hv _ (IB hd).1 na ra hA.yB hA.1
 obtain⟨⟨g2,⟨⟩⟩,e2,b1,b2,b3⟩:=MG l hv g1 a1 nb rb hB.yB hB.1
 dsimp only at a1 a2 a3 b1 b2 b3
 refine⟨g1,g2,b1,λr hr c hc=>(b2.2 _).1 c (a3 r hr c hc),b3,e1,e2,?_⟩
 unfold m20
 refine T.dh (EU l hv) (T.dh e1 (T.dh e2 (T.call (a1I g2 (by have:=b1.1;omega) (b1.len hd)) ?_)))
 rintro⟨y,⟨⟩⟩ ⟨c1,c2⟩
 refine T.ret (λh=>?_)
 dsimp only at h c1 c2
 rw[fU]at h
 have h1:=c1 h
 omega
theorem a4M (l:List DS0) (hv:jH l=0) (na nb:List DS1) (ra rb op:Int) (hA:VD (doms l) na ra) (hB:VD (doms l) nb rb) (hop:1<=op/\op<=4) {g1 g:List (List Int)} (hg:GOk (doms l) g) (hh:Has na na.length g) (hh':Has nb nb.length g) (e1:m49 (l,()) ((doms l).map fun d=>[d.1]) (na,ra,())=some (g1,())) (e2:m49 (l,()) g1 (nb,rb,())=some (g,())) (hc:bS g<=8192) :
  T (m34 (l,()) (na,ra,()) (nb,rb,()) op) (λy=>∃bn rt,kM (doms l) (-256) bn/\Rf bn (-256) 0 rt/\(∀fs,FOk (doms l) fs->vlF bn 9 rt fs=opF op na nb ra rb fs)/\(∀j:Nat,j<bn.length->uW (doms l) (opF op na nb ra rb) bn (j:Int))/\y=(if bn.length<=1000 then((lF bn (cK bn 8 [] rt),dR (cK bn 8 [] rt) rt,()),0,()) else(([],0,()),4,()))):=by
 have hd:=ql hv
 have hd2:=hd.2.1
 have hgd:=hg.1
 have hlen:=hg.len hd
 have hcm:=a1H (by omega) hlen hc
 unfold m34
 refine T.cf (by rw[fF,bq,bq];omega) (T.dh (EU l hv) (T.dh e1 (T.dh e2 (T.dh hcm ?_))))
 dsimp only
 refine T.grd (by rw[gM];omega) ?_
 rw[aZ]
 refine T.loop (λq=>∃(k:Nat) (v:List Int),k<=bS g/\v.length=bS g/\(∀j,j<k->v.getD j 0=opF op na nb ra rb (atS g j))/\q=(op,g,(k:Int),na,ra,nb,rb,0,v,())) (λq=>bS g-q.2.2.1.toNat) ⟨0,_,by omega,by simp,λj hj=>by omega,rfl⟩ ?_
 rintro _ ⟨k,v,hk,hvl,hvk,rfl⟩
 dsimp only
 have hvI:=aR v
 rw[hvI]
 refine T.cnd (λhc2=>?_) (λhc2=>?_)<;>simp only[bD,bq]at hc2
 .refine T.dh (a97 g (by omega) hlen k (by omega)) (T.dh (Xx hd hA.yB ra hA.2.1 hA.1 _ (by rw[ED];exact hgd)) (T.dh (Xx hd hB.yB rb hB.2.1 hB.1 _ (by rw[ED];exact hgd)) (T.dh (a9A _ _ _) ?_)))
  dsimp only
  rw[aZ]
  refine T.grd (by rw[bf];omega) (T.grd (by rw[dU];omega) (T.go ⟨k+1,v.set k (opF op na nb ra rb (atS g k)),by omega,by rw[bK];exact hvl,λj hj=>?_,by rw[aY (by omega) (by omega)];rfl⟩ (by dsimp only;rw[aY (by omega) (by omega)];omega)))
  rw[nN v k j _ _ (by omega)]
  split
  .rename_i e;rw[e]
  .exact hvk j (by omega)
 .obtain rfl:k=bS g:=by omega
  refine T.lT (T.call (a13 (lo:=-256) hd (by omega) (by omega) hg (λr hr=>?_) (by omega) (λx hx=>?_) hvl (a5C op hA.yB hB.yB hA.2.1.2 hB.2.1.2 hg hh hh') hvk) (λy hy=>T.ret hy))
  .obtain⟨j,hj,rfl⟩:=fD hr
   have:∀(g:List (List Int)),(∀r∈g,1<=r.length)->∀r∈g,r.length<=bS g:=by
    intro g
    induction g with
    |nil=>intro _ r hr;cases hr
    |cons r0 g ih =>
     intro hp r hr
     simp only[bS]
     have hpos:∀g:List (List Int),(∀r∈g,1<=r.length)->1<=bS g:=by
      intro g
      induction g with
      |nil=>intro _;exact bF _
      |cons a g ih2 =>
       intro hp
       simp only[bS]
       exact gH (hp a (by simp)) (ih2 λr hr=>hp r (by simp[hr]))
     rcases bT.1 hr with rfl|hr
     .have:=gH (bF r.length) (hpos g λr hr=>hp r (by simp[hr]));omega
     .have h1:=ih (λr hr=>hp r (by simp[hr])) r hr
      have:=gH (hp r0 (by simp)) (bF (bS g));omega
   have:=this g (λr hr=>(hlen r hr).1) _ (aJ hj)
   omega
  .obtain⟨j,hj,rfl⟩:=fD hx
   have:=hvk j (by omega)
   rw[getD_eq _ _ _ hj]at this
   rw[this]
   have:=Ll (op:=op) (ZI hd hA.yB (atS g j) hA.2.1) (ZI hd hB.yB (atS g j) hB.2.1)
   unfold opF
   omega
theorem Ji{cs:List Int}(h:cs.Pairwise (·<·)){v:Int}{k:Nat}(hk:k<cs.length)(hv:cs.getD k 0<=v):k+1<=brK cs v:=by
 rcases aM (brK cs v) (k+1) with q|q
 .exfalso
  have h1:=x9 cs v (by omega)
  have hp:=j5.1 h
  rw[getD_eq _ _ _ (by omega)]at h1
  rw[getD_eq _ _ _ hk]at hv
  rcases aM (brK cs v) k with r|r
  .have:=hp _ _ (by omega) hk r;omega
  .have e:brK cs v=k:=by omega
   simp only[e]at h1;omega
 .exact q
theorem Rk{cs:List Int}{c v:Int}(h:brK cs v<cs.length):brK (cs++[c]) v=brK cs v:=by
 induction cs with
 |nil=>cases h
 |cons x cs ih =>
  simp only[lW,brK]at h ⊢
  split
  .rename_i q
   rw[if_pos q]at h
   rw[ih (by simpa using h)]
  .rfl
theorem DK{cs:List Int}{c v:Int}(h:brK cs v=cs.length):brK (cs++[c]) v=if c<=v then cs.length+1 else cs.length:=by
 induction cs with
 |nil=>simp only[fq,brK];split<;>rfl
 |cons x cs ih =>
  simp only[lW,brK]at h ⊢
  by_cases q:x<=v
  .rw[if_pos q]at h ⊢
   rw[ih (by simpa using h)]
   split<;>simp
  .rw[if_neg q]at h;simp at h
structure Mrg (lo hi:Int) (aC bC cuts:List Int) (i j:Nat) (X:Nat->Nat->Nat->Prop):Prop where
 ij:i<=aC.length/\j<=bC.length
 cut:qD lo hi cuts
 up:∀c∈cuts,(i<aC.length->c<aC.getD i 0)/\(j<bC.length->c<bC.getD j 0)
 wit:∃v,lo<=v/\v<=hi/\brK aC v=i/\brK bC v=j
 hit:∀v,i<=brK aC v->j<=brK bC v->brK cuts v=cuts.length
 sem:∀v,¬(i<=brK aC v/\j<=brK bC v)->brK cuts v<cuts.length/\X (brK cuts v) (brK aC v) (brK bC v)
theorem Mrg.init{lo hi:Int}{aC bC:List Int}{X:Nat->Nat->Nat->Prop}(hb:lo<=hi)(ha:qD lo hi aC)(hb':qD lo hi bC):Mrg lo hi aC bC [] 0 0 X :=
 ⟨⟨p8 _,p8 _⟩,⟨List.Pairwise.nil,λc hc=>by cases hc⟩,λc hc=>(by cases hc),⟨lo,nV _,hb,EC λc hc=>(ha.2 c hc).1,EC λc hc=>(hb'.2 c hc).1⟩,λv _ _=>rfl,λv h=>absurd ⟨p8 _,p8 _⟩ h⟩
theorem MP{lo hi:Int}{cs:List Int}(hc:qD lo hi cs){v0 c:Int}{i:Nat}(h0:brK cs v0=i)(hlt:v0<c)(hle:i<cs.length->c<=cs.getD i 0):brK cs c=if i<cs.length/\cs.getD i 0=c then i+1 else i:=by
 have hp:=j5.1 hc.1
 have low:∀k,k<i->cs.getD k 0<=c:=λk hk=>by
  have:=GD cs v0 k (by omega)
  omega
 have hil:i<=cs.length:=by rw[<- h0];exact sZ cs v0
 split
 .rename_i h
  refine BH _ _ _ (by omega) (λk hk=>?_) ?_
  .rcases aM k i with q|q
   .exact low k q
   .obtain rfl:k=i:=by omega
    omega
  .rcases aM (i+1) cs.length with q|q
   .right
    have:=hp i (i+1) h.1 q (by omega)
    rw[getD_eq _ _ _ q]
    have h2:=h.2
    rw[getD_eq _ _ _ h.1]at h2
    omega
   .left;omega
 .rename_i h
  refine BH _ _ _ hil low ?_
  rcases aM i cs.length with q|q
  .right
   have:=hle q
   have:¬cs.getD i 0=c:=λe=>h ⟨q,e⟩
   omega
  .left;omega
theorem Mrg.step {lo hi:Int} {aC bC cuts:List Int} {i j:Nat} {X X':Nat->Nat->Nat->Prop} (h:Mrg lo hi aC bC cuts i j X) (ha:qD lo hi aC) (hb:qD lo hi bC) {c:Int} (h1:i < aC.length->c<=aC.getD i 0) (h2:j < bC.length->c<=bC.getD j 0) (h3:(i < aC.length/\aC.getD i 0=c)\/(j < bC.length/\bC.getD j 0=c)) {i' j':Nat} (hI:i'=if i < aC.length/\aC.getD i 0=c then i + 1 else i) (hJ:j'=if j < bC.length/\bC.getD j 0=c then j + 1 else j)
  (hX:∀k a b,k<cuts.length->X k a b->X' k a b) (hX2:X' cuts.length i j):Mrg lo hi aC bC (cuts++[c]) i' j' X':=by
 obtain⟨⟨q1,q2⟩,hcut,hup,⟨v0,w1,w2,w3,w4⟩,hhit,Dx⟩:=h
 have hcr:lo<c/\c<=hi:=by
  rcases h3 with⟨r1,r2⟩|⟨r1,r2⟩
  .have:=ha.2 _ (aJ r1);rw[<- getD_eq _ _ 0 r1]at this;omega
  .have:=hb.2 _ (aJ r1);rw[<- getD_eq _ _ 0 r1]at this;omega
 have hv0:v0<c:=by
  rcases h3 with⟨r1,r2⟩|⟨r1,r2⟩
  .have:=x9 aC v0 (by omega);rw[w3]at this;omega
  .have:=x9 bC v0 (by omega);rw[w4]at this;omega
 have ea:=MP ha w3 hv0 h1
 have eb:=MP hb w4 hv0 h2
 rw[<- hI]at ea
 rw[<- hJ]at eb
 have hi1:i<=i'/\i'<=i+1:=by rw[hI];split<;>omega
 have hj1:j<=j'/\j'<=j+1:=by rw[hJ];split<;>omega
 have hlt:∀x∈cuts,x<c:=λx hx=>by
  rcases h3 with⟨r1,r2⟩|⟨r1,r2⟩
  .have:=(hup x hx).1 r1;omega
  .have:=(hup x hx).2 r1;omega
 have pass:∀v,i<=brK aC v->j<=brK bC v->((i'<=brK aC v/\j'<=brK bC v)↔c<=v):=λv r1 r2=>by
  constructor
  .rintro⟨s1,s2⟩
   rcases h3 with⟨t1,t2⟩|⟨t1,t2⟩
   .rw[hI,if_pos ⟨t1,t2⟩]at s1
    have:=GD aC v i (by omega);omega
   .rw[hJ,if_pos ⟨t1,t2⟩]at s2
    have:=GD bC v j (by omega);omega
  .intro hc
   refine⟨?_,?_⟩
   .rw[hI];split
    .rename_i t
     exact Ji ha.1 t.1 (by omega)
    .exact r1
   .rw[hJ];split
    .rename_i t
     exact Ji hb.1 t.1 (by omega)
    .exact r2
 refine⟨⟨by rw[<- ea];exact sZ _ _,by rw[<- eb];exact sZ _ _⟩,⟨?_,λx hx=>?_⟩,λx hx=>?_,⟨c,by omega,hcr.2,ea,eb⟩,λv r1 r2=>?_,λv hn=>?_⟩
 .rw[wo]
  exact⟨hcut.1,by simp,λx hx y hy=>by obtain rfl:=bG.1 hy;exact hlt x hx⟩
 .rcases aV.1 hx with r|r
  .exact hcut.2 x r
  .obtain rfl:=bG.1 r;exact hcr
 ·have hxc:x<=c:=by
   rcases aV.1 hx with r|r
   .exact zX (hlt x r)
   .obtain rfl:=bG.1 r;exact nV _
  refine⟨λr=>?_,λr=>?_⟩
  .have:=x9 aC c (by omega);rw[ea]at this;omega
  .have:=x9 bC c (by omega);rw[eb]at this;omega
 .have hc:c<=v:=(pass v (by omega) (by omega)).1 ⟨r1,r2⟩
  rw[DK (hhit v (by omega) (by omega)),if_pos hc];simp
 .by_cases ho:i<=brK aC v/\j<=brK bC v
  .have hvc:¬c<=v:=λr=>hn ((pass v ho.1 ho.2).2 r)
   have ha2:brK aC v=i:=by
    have:brK aC v<=i:=by
     rcases aM i aC.length with r|r
     .exact U8 aC v i r (by have:=h1 r;omega)
     .have:=sZ aC v;omega
    omega
   have hb2:brK bC v=j:=by
    have:brK bC v<=j:=by
     rcases aM j bC.length with r|r
     .exact U8 bC v j r (by have:=h2 r;omega)
     .have:=sZ bC v;omega
    omega
   rw[DK (hhit v ho.1 ho.2),if_neg hvc,ha2,hb2]
   exact⟨by simp,hX2⟩
  .obtain⟨s1,s2⟩:=Dx v ho
   rw[Rk s1]
   exact⟨by simp;omega,hX _ _ _ s1 s2⟩
theorem Mrg.last{lo hi:Int}{aC bC cuts:List Int}{X:Nat->Nat->Nat->Prop}(h:Mrg lo hi aC bC cuts aC.length bC.length X)(hX:X cuts.length aC.length bC.length)(v:Int):brK cuts v<=cuts.length/\X (brK cuts v) (brK aC v) (brK bC v):=by
 by_cases ho:aC.length<=brK aC v/\bC.length<=brK bC v
 .have e1:brK aC v=aC.length:=by have:=sZ aC v;omega
  have e2:brK bC v=bC.length:=by have:=sZ bC v;omega
  rw[h.hit v ho.1 ho.2,e1,e2];exact⟨bF _,hX⟩
 .obtain⟨s1,s2⟩:=h.sem v ho
  exact⟨Nat.le_of_lt s1,s2⟩
theorem qD.len{lo hi:Int}{cs:List Int}(h:qD lo hi cs)(h1:-1000000000<=lo)(h2:hi<=1000000000):cs.length<=2000000000:=by
 rcases eO cs.length with q|q
 .omega
 .have:=KO (cs:=cs) (lo:=lo) (hi:=hi) (λk hk=>h.at k hk) (cs.length-1) (by omega)
  have h3:=(h.at (cs.length-1) (by omega)).2.1
  omega
section
variable{dm:List DS3}
def Br(dm:List DS3)(ns:List DS1)(p:Int)(m:Nat)(C N:List Int):Prop :=
 qD (dm.getD m zS).1 (dm.getD m zS).2.1 C/\N.length=C.length+1/\(∀k,k<N.length->jm ns.length (N.getD k 0)/\m+1<=lvl dm ns (N.getD k 0))/\∀fs,vlF ns 9 p fs=vlF ns 9 (N.getD (brK C (fs.getD m 0)) 0) fs
theorem Br.node{ns:List DS1}(hd:gX dm)(hs:iC dm ns){p:Int}(h0:0<=p)(hp:p<(ns.length:Int)):Br dm ns p (ns.getD p.toNat zN).1.toNat (ns.getD p.toNat zN).2.1 (kids ns p.toNat):=by
 have hpt:p.toNat<ns.length:=by omega
 have hsr:=hs _ hpt
 refine⟨⟨uD hsr,λc hc=>?_⟩,hsr.2.2.2.1,λk hk=>⟨lZ hs hpt hk,qj hd hs hpt hk⟩,λfs=>vZ hd hs h0 hp fs⟩
 obtain⟨k,hk,rfl⟩:=fD hc
 have:=hsr.2.2.2.2.1 k hk
 rw[getD_eq _ _ _ hk]at this
 exact⟨this.1,this.2.1⟩
theorem Br.none{ns:List DS1}{p:Int}(hp:jm ns.length p){m:Nat}(hm:m+1<=lvl dm ns p):Br dm ns p m [] [p] :=
 ⟨⟨List.Pairwise.nil,λc hc=>by cases hc⟩,rfl,λk hk=>by
  have:k=0:=by simp at hk;omega
  subst this;exact⟨hp,hm⟩,λfs=>rfl⟩
def uN(dm:List DS3)(na nb:List DS1)(ra rb p q:Int)(m:Nat):Prop:=∃pre,qU dm pre/\pre.length<=m/\∀fs,FOk dm fs->vlF na 9 p fs=vlF na 9 ra (pre++fs.drop pre.length)/\vlF nb 9 q fs=vlF nb 9 rb (pre++fs.drop pre.length)
theorem uN.step{na nb:List DS1}(hd:gX dm)(hs:iC dm na)(hs':iC dm nb){ra rb p q:Int}{m:Nat}(hm:m<dm.length)(h:uN dm na nb ra rb p q m){aC aN bC bN:List Int}(ha:Br dm na p m aC aN)(hb:Br dm nb q m bC bN){v:Int}(h1:(dm.getD m zS).1<=v)(h2:v<=(dm.getD m zS).2.1):uN dm na nb ra rb (aN.getD (brK aC v) 0) (bN.getD (brK bC v) 0) (m+1):=by
 obtain⟨pre,p1,p2,p3⟩:=h
 have hlo:=FOk.low hd
 have hll:((dm.map λd=>d.1).take m).length=m:=by rw[bH,hlo.1];omega
 have hpl:(pre++((dm.map λd=>d.1).take m).drop pre.length++[v]).length=m+1:=by
  rw[ak,ak,cu,hll,aF];omega
 have hat:∀j,j<m->(pre++((dm.map λd=>d.1).take m).drop pre.length).getD j 0=if j<pre.length then pre.getD j 0 else(dm.map λd=>d.1).getD j 0:=λj hj=>by
  split
  .rename_i r;rw[iK _ _ _ r]
  .rename_i r
   rw[aQ,aK (by omega),dX,bJ,if_pos (by omega),<- aQ,show pre.length+(j-pre.length)=j by omega]
 have hml:(pre++((dm.map λd=>d.1).take m).drop pre.length).length=m:=by rw[ak,cu,hll];omega
 refine⟨pre++((dm.map λd=>d.1).take m).drop pre.length++[v],⟨by omega,λj hj=>?_⟩,by omega,λfs hf=>?_⟩
 .rw[hpl]at hj
  rcases aM j m with r|r
  .rw[iK _ _ _ (by omega),hat j r]
   split
   .rename_i z;exact p1.2 j z
   .exact hlo.2 j (by omega)
  .obtain rfl:j=m:=by omega
   have:(pre++((dm.map λd=>d.1).take j).drop pre.length++[v]).getD j 0=v:=by
    have:=mg (pre++((dm.map λd=>d.1).take j).drop pre.length) v 0
    rwa [hml]at this
   rw[this];exact⟨h1,h2⟩
 ·have hf':FOk dm ((dm.map fun d=>d.1).take m ++ v :: fs.drop (m + 1)):=by
   refine⟨by rw[ak,hll,bI,cu,hf.1];omega,λj hj=>?_⟩
   rw[Dg,hll]
   split
   .rename_i r
    have:((dm.map λd=>d.1).take m).getD j 0=(dm.map λd=>d.1).getD j 0:=by
     rw[aQ,bJ,if_pos r,<- aQ]
    rw[this];exact hlo.2 j hj
   .split
    .rename_i r;subst r;exact⟨h1,h2⟩
    .rename_i r1 r2
     rw[Je,show m+1+(j-m-1)=j by omega];exact hf.2 j hj
  have e1:((dm.map λd=>d.1).take m++v::fs.drop (m+1)).getD m 0=v:=by rw[Dg,hll,if_neg (by omega),if_pos rfl]
  have e2:pre++((dm.map λd=>d.1).take m++v::fs.drop (m+1)).drop pre.length=pre++((dm.map λd=>d.1).take m).drop pre.length++[v]++fs.drop (m+1):=by
   rw[qN (by omega)]
   simp
  have ag:∀j,m+1<=j->((dm.map λd=>d.1).take m++v::fs.drop (m+1)).getD j 0=fs.getD j 0:=λj hj=>by
   rw[Dg,hll,if_neg (by omega),if_neg (by omega),Je,show m+1+(j-m-1)=j by omega]
  have side:∀{ns:List DS1} {p:Int} {C N:List Int},iC dm ns->Br dm ns p m C N->vlF ns 9 (N.getD (brK C v) 0) fs=vlF ns 9 p ((dm.map λd=>d.1).take m++v::fs.drop (m+1)):=fun{ns p C N} hs hB=>by
   obtain⟨b1,b2,b3,b4⟩:=hB
   have hk:brK C v<N.length:=by have:=sZ C v;omega
   obtain⟨c1,c2⟩:=b3 _ hk
   rw[b4,e1]
   exact(OZ hd hs 9 _ c1.2 λj hj=>ag j (by omega)).symm
  rw[hpl,side hs ha,side hs' hb,<- e2]
  exact p3 _ hf'
end
theorem a4H{a b:DS3}:eqT tS3 a b=true↔a=b:=by
 obtain⟨x,y,⟨⟩⟩:=a
 obtain⟨z,w,⟨⟩⟩:=b
 show(iEq x z&&(iEq y w&&true))=true↔_
 rw[jA,au,dD,dD]
 constructor
 .rintro⟨rfl,rfl⟩;rfl
 .intro h;injection h with h1 h2;injection h2 with h2 _;exact⟨h1,h2⟩
theorem Tg{β:Type}(k k':DS3)(v:β):∀es:List (DS3×β×Unit),nA (eqT tS3) k (pV (eqT tS3) k' v es)=if k=k' then some v else nA (eqT tS3) k es:=by
 have dec:∀a b:DS3,eqT tS3 a b=decide (a=b):=λa b=>by
  rw[wB,a4H,dH]
 intro es
 induction es with
 |nil =>
  simp only[pV,nA,dec]
  by_cases h:k=k'
  .subst h;simp
  .simp[h]
 |cons e es ih =>
  simp only[pV,dec]
  by_cases h:k'=e.1
  .subst h
   simp only[decide_true,Ai,nA,dec]
   by_cases h2:k=e.1
   .simp[h2]
   .simp[h2]
  .simp only[h,decide_false,cond_false,nA,dec,ih]
   by_cases h2:k=e.1
   .have h3:k≠k':=λz=>h (z▸h2)
    simp[h2]
    intro z;exact absurd z (λz=>h z.symm)
   .simp[h2]
def nP(dm:List DS3)(na nb:List DS1)(op:Int)(ns:List DS1)(r p q:Int):Prop:=∀fs,FOk dm fs->vlF ns 9 r fs=opS op (vlF na 9 p fs) (vlF nb 9 q fs)
def Xt(ns:List DS1):Prop:=∀i,i<ns.length->∀c∈kids ns i,c<(i:Int)
def w9(dm:List DS3)(na nb:List DS1)(ra rb op:Int)(me:List DS6)(ns:List DS1):Prop :=
 kM dm (-256) ns/\(∀p q r,nA (eqT tS3) (p,q,()) me=some r->Rf ns (-256) (min (lvl dm na p) (lvl dm nb q)) r/\nP dm na nb op ns r p q)/\(∀j:Nat,j<ns.length->uW dm (opF op na nb ra rb) ns (j:Int))/\Xt ns
section
variable{dm:List DS3}{na nb:List DS1}{ra rb op:Int}
theorem nP.app{ns:List DS1}{r p q:Int}(h:nP dm na nb op ns r p q)(hs:iC dm ns)(hr:r<(ns.length:Int))(t:List DS1):nP dm na nb op (ns++t) r p q:=λfs hf=>by rw[DY hs t fs 9 r hr];exact h fs hf
theorem w9.node (hd:gX dm) (hA:iC dm na) (hB:iC dm nb) {me:List DS6} {ns:List DS1} (h:w9 dm na nb ra rb op me ns) (hn:ns.length<=1000) {p q:Int} {m:Nat} (hm:m < dm.length) (hml:min (lvl dm na p) (lvl dm nb q)=m) (hP:uN dm na nb ra rb p q m) {aC aN bC bN cuts nx:List Int} (ha:Br dm na p m aC aN) (hb:Br dm nb q m bC bN)
  (hl:nx.length=cuts.length+1) (hnx:∀c∈nx,Rf ns (-256) (m+1) c) (hM:Mrg (dm.getD m zS).1 (dm.getD m zS).2.1 aC bC cuts aC.length bC.length (λk a b=>nP dm na nb op ns (nx.getD k 0) (aN.getD a 0) (bN.getD b 0))) (hL:nP dm na nb op ns (nx.getD cuts.length 0) (aN.getD aC.length 0) (bN.getD bC.length 0)) :
  ∃t,(nE ns (m:Int) cuts nx).2=ns++t/\w9 dm na nb ra rb op (pV (eqT tS3) (p,q,()) (nE ns (m:Int) cuts nx).1 me) (ns++t)/\(ns++t).length<=1001/\Rf (ns++t) (-256) m (nE ns (m:Int) cuts nx).1/\nP dm na nb op (ns++t) (nE ns (m:Int) cuts nx).1 p q:=by
 obtain⟨hN,hme,hsb,htp⟩:=h
 obtain⟨t,s1,s2,s3,s4,s5,s6,s7,s8⟩:=Lv hd (by omega) hm hM.cut hl hnx hN (by omega)
 have Dx:nP dm na nb op (ns++t) (nE ns (m:Int) cuts nx).1 p q:=λfs hf=>by
  obtain⟨k1,k2⟩:=hM.last hL (fs.getD m 0)
  rw[s6 fs]
  have hmem:nx.getD (brK cuts (fs.getD m 0)) 0∈nx:=by rw[getD_eq _ _ _ (by omega)];exact aJ _
  rw[DY hN.1 t fs 9 _ (hnx _ hmem).2.1,k2 fs hf,<- ha.2.2.2 fs,<- hb.2.2.2 fs]
 obtain⟨pre,p1,p2,p3⟩:=hP
 have hsub:uW dm (opF op na nb ra rb) (ns++t) (nE ns (m:Int) cuts nx).1:=⟨pre,p1,λfs hf=>by
  rw[Dx fs hf,(p3 fs hf).1,(p3 fs hf).2];rfl⟩
 refine⟨t,s1,⟨s2,λp' q' r' he=>?_,λj hj=>?_,λj hj c hc=>?_⟩,by rw[ak];omega,s3,Dx⟩
 .have he2:=(Tg (p',q',()) (p,q,()) (nE ns (m:Int) cuts nx).1 me).symm.trans he
  by_cases e:((p',q',()):DS3)=(p,q,())
  .rw[if_pos e]at he2
   injection e with e1 e2
   injection e2 with e2 _
   subst e1 e2
   rw[<- aI he2,hml]
   exact⟨s3,Dx⟩
  .rw[if_neg e]at he2
   obtain⟨z1,z2⟩:=hme p' q' r' he2
   exact⟨z1.app t,z2.app hN.1 z1.2.1 t⟩
 .rcases aM j ns.length with r|r
  .exact(hsb j r).app hN.1 (by omega) t
  .rw[<- s7 j r hj];exact hsub
 .rcases aM j ns.length with r|r
  .rw[LX _ _ r]at hc;exact htp j r c hc
  ·have hm:(ns ++ t).getD j zN ∈ t:=by
    rw[aQ,aK r,ah (by rw[ak]at hj;omega)]
    exact aJ _
   have:=s8 _ hm c hc
   omega
end
theorem a04(x:DS3×(List DS1)×(List DS1)×Int×(List DS6)×(List DS1)×(List DS7)×Unit):Mo λs=>Hw s x.1 x.2.1 x.2.2.1 x.2.2.2.1 x.2.2.2.2.1 x.2.2.2.2.2.1 x.2.2.2.2.2.2.1:=by
 unfold Hw;(repeat' (first|exact Mo.const _|exact Mo.self _|apply Mo.bind|apply Mo.cond|apply Mo.map|apply Mo.join|apply Mo.loop|(intro _)))
theorem GA(l:List DS1){r:Int}(h:r<0):m85 l r=some ((6,[],[r],()),()):=T.eq (by unfold m85;exact T.ct (by rw[bD];exact h) (T.ret rfl))
theorem Gz(l:List DS1){r:Int}(h:0<=r)(hr:r<(l.length:Int)):m85 l r=some (((l.getD r.toNat zN).1,(l.getD r.toNat zN).2.1,kids l r.toNat,()),()):=T.eq (by unfold m85;exact T.cf (by rw[bq];exact h) (T.grd (by rw[bf,aR];exact⟨h,hr⟩) (T.ret rfl)))
theorem Ew{xs:List Int}{n:Nat}(h:xs.length=n+1):xs.headD 0::xs.tail=xs:=by
 cases xs with
 |nil=>cases h
 |cons x xs=>rfl
section
variable{dm:List DS3}{na nb:List DS1}{ra rb op:Int}
set_option maxHeartbeats 2000000 in
theorem a2U (hd:gX dm) (hA:iC dm na) (hB:iC dm nb) (p q:Int) (me:List DS6) (ns:List DS1) (hp:jm na.length p) (hq:jm nb.length q) (hP:uN dm na nb ra rb p q (min (lvl dm na p) (lvl dm nb q))) (hS:w9 dm na nb ra rb op me ns) (hn:ns.length<=1000) :
  T (m66 (p,q,()) na nb op me ns (ixS ns)) (λy=>∃r me' t,y=(r,na,nb,op,me',ns++t,ixS (ns++t),())/\w9 dm na nb ra rb op me' (ns++t)/\(ns++t).length<=1001/\((ns++t).length<=1000->Rf (ns++t) (-256) (min (lvl dm na p) (lvl dm nb q)) r/\nP dm na nb op (ns++t) r p q)):=by
 unfold m66
 refine Cu (ι:=Int×Int×List DS6×List DS1) a04 (λg=>((g.1,g.2.1,()),na,nb,op,g.2.2.1,g.2.2.2,ixS g.2.2.2,())) (λg=>jm na.length g.1/\jm nb.length g.2.1/\uN dm na nb ra rb g.1 g.2.1 (min (lvl dm na g.1) (lvl dm nb g.2.1))/\w9 dm na nb ra rb op g.2.2.1 g.2.2.2/\g.2.2.2.length<=1000)
  (λg y=>∃r me' t,y=(r,na,nb,op,me',g.2.2.2++t,ixS (g.2.2.2++t),())/\w9 dm na nb ra rb op me' (g.2.2.2++t)/\(g.2.2.2++t).length<=1001/\((g.2.2.2++t).length<=1000->Rf (g.2.2.2++t) (-256) (min (lvl dm na g.1) (lvl dm nb g.2.1)) r/\nP dm na nb op (g.2.2.2++t) r g.1 g.2.1)) (λg=>dm.length-min (lvl dm na g.1) (lvl dm nb g.2.1)) ?_ (p,q,me,ns) ⟨hp,hq,hP,hS,hn⟩
 clear hp hq hP hS hn
 rintro⟨p,q,me,ns⟩ ⟨hp,hq,hP,hS,hn⟩ s ih
 dsimp only at hp hq hP hS hn ih ⊢
 unfold Hw
 dsimp only
 obtain⟨hN,hme,hsb,htp⟩:=id hS
 have p1:=hp.1
 have p2:=hp.2
 have q1:=hq.1
 have q2:=hq.2
 refine T.cnd (λhc=>?_) (λhc=>?_)<;>simp only[dM,dS,bD,bq]at hc
 ·have Ky:∀ r:Int,-256<=r->r < 0->m72 r=some (-1 - r,()):=fun r h1 h2=>by
   show some (fV .i64 (-1) r,())=_
   rw[eF (by omega) (by omega)]
  have hbd:=Ll (op:=op) (x:=-1-p) (y:=-1-q) (by omega) (by omega)
  refine T.dh (Ky p p1 hc.1) (T.dh (Ky q q1 hc.2) ?_)
  dsimp only
  refine T.dh (a2X _ _ _) ?_
  dsimp only
  refine T.dh (v:=(-1-opS op (-1-p) (-1-q),())) (by show some (fV .i64 (-1) _,())=_;rw[eF (by omega) (by omega)]) ?_
  dsimp only
  refine T.ret ⟨-1-opS op (-1-p) (-1-q),me,[],?_,by simpa using hS,by simp;omega,λ_=>⟨⟨by omega,by omega,λz=>by omega⟩,λfs hf=>by rw[iY _ _ (by omega),iY _ _ hc.1,iY _ _ hc.2];omega⟩⟩
  rw[bL]
 refine T.cnd (λhc1=>?_) (λhc1=>?_)
 ·obtain ⟨r,hr⟩:∃ r,nA (eqT tS3) (p,q,()) me=some r:=by
   unfold yh at hc1
   exact Option.isSome_iff_exists.1 hc1
  obtain⟨z1,z2⟩:=hme p q r hr
  have eG:oO (eqT tS3) (p,q,()) me 0=r:=by unfold oO;rw[hr];rfl
  have z1':Rf ns (-256) (min (lvl dm na p) (lvl dm nb q)) (oO (eqT tS3) (p,q,()) me 0):=by rw[eG];exact z1
  have z2':nP dm na nb op ns (oO (eqT tS3) (p,q,()) me 0) p q:=by rw[eG];exact z2
  exact T.ret ⟨_,me,[],by rw[bL],by simpa using hS,by simp;omega,λ_=>⟨by rw[bL];exact z1',by rw[bL];exact z2'⟩⟩
 have hmd:min (lvl dm na p) (lvl dm nb q)<dm.length:=by
  have side:∀{ns:List DS1} {r:Int},iC dm ns->0<=r->r<(ns.length:Int)->lvl dm ns r<dm.length:=fun{ns r} hs h0 hr=>by
   unfold lvl
   rw[if_neg (by omega)]
   have:=(hs r.toNat (by omega)).1
   have:=(hs r.toNat (by omega)).2.1
   omega
  rcases hc with z|z
  .have:=side hA z p2;omega
  .have:=side hB z q2;omega
 generalize hmv:min (lvl dm na p) (lvl dm nb q)=m at *
 have hd2:=hd.2.1
 have hbr:∀{ns:List DS1} {r:Int},iC dm ns->jm ns.length r->∃A C N,m85 ns r=some ((A,C,N,()),())/\((r<0/\A=6/\lvl dm ns r=dm.length)\/(0<=r/\A=(lvl dm ns r:Int)/\lvl dm ns r<dm.length/\Br dm ns r (lvl dm ns r) C N)):=fun{ns r} hs hr=>by
  rcases eZ r 0 with z|z
  .exact⟨_,_,_,GA ns z,.inl ⟨z,rfl,by unfold lvl;rw[if_pos z]⟩⟩
  .have hrt:r.toNat<ns.length:=by have:=hr.2;omega
   have h1:=(hs _ hrt).1
   have h2:=(hs _ hrt).2.1
   have e:lvl dm ns r=(ns.getD r.toNat zN).1.toNat:=by unfold lvl;rw[if_neg (by omega)]
   have hB:=Br.node hd hs z hr.2
   rw[<- e]at hB
   exact⟨_,_,_,Gz ns z hr.2,.inr ⟨z,by omega,by omega,hB⟩⟩
 obtain⟨A1,C1,N1,e1,h1⟩:=hbr hA hp
 obtain⟨A2,C2,N2,e2,h2⟩:=hbr hB hq
 refine T.dh e1 (T.dh e2 ?_)
 dsimp only
 refine T.join (λs=>∃(aA bA:Int) (aC aN bC bN:List Int),aA=(m:Int)/\Br dm na p m aC aN/\Br dm nb q m bC bN/\s=(na,nb,op,me,ns,ixS (ns),[(p,q,())],aA,aC,aN,bA,bC,bN,())) ?_ ?_
 .refine T.cnd (λhc2=>?_) (λhc2=>?_)<;>simp only[bD,bq]at hc2
  .rcases h1 with⟨z1,z2,z3⟩|⟨z1,z2,z3,z4⟩
   .exfalso
    rcases h2 with⟨y1,y2,y3⟩|⟨y1,y2,y3,y4⟩<;>omega
   ·have hm1:lvl dm na p=m:=by
     rcases h2 with⟨y1,y2,y3⟩|⟨y1,y2,y3,y4⟩<;>omega
    have hm2:m+1<=lvl dm nb q:=by
     rcases h2 with⟨y1,y2,y3⟩|⟨y1,y2,y3,y4⟩<;>omega
    rw[hm1]at z4
    exact T.jgo ⟨_,_,_,_,_,_,by omega,z4,Br.none hq hm2,rfl⟩
  refine T.cnd (λhc3=>?_) (λhc3=>?_)<;>simp only[bD,bq]at hc3
  .rcases h2 with⟨z1,z2,z3⟩|⟨z1,z2,z3,z4⟩
   .exfalso
    rcases h1 with⟨y1,y2,y3⟩|⟨y1,y2,y3,y4⟩<;>omega
   ·have hm1:lvl dm nb q=m:=by
     rcases h1 with⟨y1,y2,y3⟩|⟨y1,y2,y3,y4⟩<;>omega
    have hm2:m+1<=lvl dm na p:=by
     rcases h1 with⟨y1,y2,y3⟩|⟨y1,y2,y3,y4⟩<;>omega
    rw[hm1]at z4
    exact T.jgo ⟨_,_,_,_,_,_,by omega,Br.none hp hm2,z4,rfl⟩
  .rcases h1 with⟨z1,z2,z3⟩|⟨z1,z2,z3,z4⟩
   .exfalso
    rcases h2 with⟨y1,y2,y3⟩|⟨y1,y2,y3,y4⟩<;>omega
   .rcases h2 with⟨y1,y2,y3⟩|⟨y1,y2,y3,y4⟩
    .exfalso;omega
    .have hm1:lvl dm na p=m:=by omega
     have hm2:lvl dm nb q=m:=by omega
     rw[hm1]at z4
     rw[hm2]at y4
     exact T.jgo ⟨_,_,_,_,_,_,by omega,z4,y4,rfl⟩
 rintro _ ⟨aA,bA,aC,aN,bC,bN,rfl,ha,hb,rfl⟩
 clear h1 h2 e1 e2 hbr
 dsimp only
 have hdm:=hd.at hmd
 have hAl:=aR aC
 have hBl:=aR bC
 have WQ:=aR aN
 have WO:=aR bN
 have hac:=ha.1.len hdm.2.1 hdm.2.2
 have hbc:=hb.1.len hdm.2.1 hdm.2.2
 have ha2:=ha.2.1
 have hb2:=hb.2.1
 refine T.loop (λs=>∃(i j:Nat) (me:List DS6) (t:List DS1) (cuts nx:List Int),w9 dm na nb ra rb op me (ns++t)/\(ns++t).length<=1000/\nx.length=cuts.length/\(∀c∈nx,Rf (ns++t) (-256) (m+1) c)/\Mrg (dm.getD m zS).1 (dm.getD m zS).2.1 aC bC cuts i j (λk a b=>nP dm na nb op (ns++t) (nx.getD k 0) (aN.getD a 0) (bN.getD b 0))/\s=((i:Int),(j:Int),na,nb,op,me,ns++t,ixS (ns++t),[(p,q,())],(m:Int),aC,aN,bA,bC,bN,cuts,nx,())) (λs=>(aC.length-s.1.toNat)+(bC.length-s.2.1.toNat)) ⟨0,0,me,[],[],[],by rw[bL];exact hS,by rw[bL];exact hn,rfl,λc hc=>(by cases hc),Mrg.init hdm.1 ha.1 hb.1,by rw[bL];rfl⟩ ?_
 rintro _ ⟨i,j,me,t,cuts,nx,hS,hn,hnl,hnx,hM,rfl⟩
 dsimp only
 have hi:=hM.ij.1
 have hj:=hM.ij.2
 have hcl:=hM.cut.len hdm.2.1 hdm.2.2
 rw[hAl,hBl,WQ,WO,dF,dF,dF,dF]
 obtain⟨v,v1,v2,v3,v4⟩:=hM.wit
 have hPP:=uN.step hd hA hB hmd hP ha hb v1 v2
 rw[v3,v4]at hPP
 obtain⟨c1,c2⟩:=ha.2.2.1 i (by omega)
 obtain⟨d1,d2⟩:=hb.2.2.1 j (by omega)
 have hll:=LK hd hA c1.2
 have WM:uN dm na nb ra rb (aN.getD i 0) (bN.getD j 0) (min (lvl dm na (aN.getD i 0)) (lvl dm nb (bN.getD j 0))):=by
  obtain⟨pre,w1,w2,w3⟩:=hPP
  exact⟨pre,w1,by omega,w3⟩
 refine T.grd (by rw[bf];omega) (T.grd (by rw[bf];omega) (T.call (ih (aN.getD i 0,bN.getD j 0,me,ns++t) ⟨c1,d1,WM,hS,hn⟩ (by dsimp only;omega)) ?_))
 rintro _ ⟨r,me',t2,rfl,hS2,hl2,hr2⟩
 dsimp only at hS2 hl2 hr2 ⊢
 rw[aX]at hS2 hl2 hr2 ⊢
 have hNl:=aR (ns++(t++t2))
 refine T.grd (by rw[dN,aF];omega) (T.dh (show Af _ _ _ _ _ _=some _ from rfl) ?_)
 dsimp only
 rw[hNl]
 refine T.cnd (λhc3=>?_) (λhc3=>?_)<;>simp only[bD,bq]at hc3
 .refine T.dh (show m40 0=some _ from rfl) (T.out ⟨_,me',t++t2,rfl,hS2,hl2,λz=>by omega⟩)
 obtain⟨hrf,hrs⟩:=hr2 (by omega)
 have hrf:Rf (ns++(t++t2)) (-256) (m+1) r:=hrf.weak (by omega)
 have hnx2:∀c∈nx++[r],Rf (ns++(t++t2)) (-256) (m+1) c:=λc hc=>by
  rcases aV.1 hc with z|z
  .have:=(hnx c z).app t2
   rwa [aX]at this
  .obtain rfl:=bG.1 z;exact hrf
 have hX:∀k a b,k<cuts.length->nP dm na nb op (ns++t) (nx.getD k 0) (aN.getD a 0) (bN.getD b 0)->nP dm na nb op (ns++(t++t2)) ((nx++[r]).getD k 0) (aN.getD a 0) (bN.getD b 0):=λk a b hk h=>by
  rw[iK _ _ _ (by omega)]
  have hmem:nx.getD k 0∈nx:=by rw[getD_eq _ _ _ (by omega)];exact aJ _
  have:=h.app hS.1.1 (hnx _ hmem).2.1 t2
  rwa [aX]at this
 have hX2:nP dm na nb op (ns++(t++t2)) ((nx++[r]).getD cuts.length 0) (aN.getD i 0) (bN.getD j 0):=by
  rw[<- hnl,mg];exact hrs
 have zC:(nx++[r]).length=cuts.length+1:=by simp;omega
 refine T.cnd (λhc4=>?_) (λhc4=>?_)<;>simp only[dM,dS,dD,dG]at hc4
 .obtain rfl:i=aC.length:=by omega
  obtain rfl:j=bC.length:=by omega
  have hM2:Mrg (dm.getD m zS).1 (dm.getD m zS).2.1 aC bC cuts aC.length bC.length (λk a b=>nP dm na nb op (ns++(t++t2)) ((nx++[r]).getD k 0) (aN.getD a 0) (bN.getD b 0)):=⟨hM.ij,hM.cut,hM.up,hM.wit,hM.hit,λw hw=>⟨(hM.sem w hw).1,hX _ _ _ (hM.sem w hw).1 (hM.sem w hw).2⟩⟩
  obtain⟨t3,s1,s2,s3,s4,s5⟩:=hS2.node hd hA hB (by omega) hmd hmv hP ha hb zC hnx2 hM2 hX2
  have Cq:=SQ (lo:=-256) hd (by omega) (by omega) hmd (x:=(nx++[r]).headD 0) (cs:=cuts) (nx:=(nx++[r]).tail) (ns:=ns++(t++t2)) hM.cut (by rw[List.length_tail,zC];omega) (by rw[Ew zC];exact hnx2) hS2.1 (by omega) (by omega) na nb op me'
  rw[Ew zC]at Cq
  refine T.lT (T.dh Cq ?_)
  dsimp only
  refine T.grd (by rw[iB,iB];exact⟨iX _,iX _,rfl⟩) (T.grd (by rw[dU];simp) (T.ret ?_))
  rw[s1]at *
  rw[aX]at s2 s3 s4 s5 ⊢
  exact⟨_,_,t++t2++t3,rfl,s2,s3,λ_=>⟨s4,s5⟩⟩
 have ei:bX .i64 (i:Int) 1=((i+1:Nat):Int):=by rw[aY (by omega) (by omega)];omega
 have ej:bX .i64 (j:Int) 1=((j+1:Nat):Int):=by rw[aY (by omega) (by omega)];omega
 rw[ei,ej]
 have go:∀ (c:Int) (i' j':Nat),(i < aC.length->c<=aC.getD i 0)->(j < bC.length->c<=bC.getD j 0)->((i < aC.length/\aC.getD i 0=c)\/(j < bC.length/\bC.getD j 0=c))->(i'=if i < aC.length/\aC.getD i 0=c then i + 1 else i)->(j'=if j < bC.length/\bC.getD j 0=c then j + 1 else j) ->
   ∀Q,T (some (Sum.inl (β:=Int×(List DS1)×(List DS1)×Int×(List DS6)×(List DS1)×(List DS7)×Unit) ((i':Int),(j':Int),na,nb,op,me',ns++(t++t2),ixS (ns++(t++t2)),[(p,q,())],(m:Int),aC,aN,bA,bC,bN,cuts++[c],nx++[r],()))) (LQ (λs=>∃(i j:Nat) (me:List DS6) (t:List DS1) (cuts nx:List Int),w9 dm na nb ra rb op me (ns++t)/\(ns++t).length<=1000/\nx.length=cuts.length/\(∀c∈nx,Rf (ns++t) (-256) (m+1) c)/\Mrg (dm.getD m zS).1 (dm.getD m zS).2.1 aC bC cuts i j (λk a b=>nP dm na nb op (ns++t) (nx.getD k 0) (aN.getD a 0) (bN.getD b 0))/\s=((i:Int),(j:Int),na,nb,op,me,ns++t,ixS (ns++t),[(p,q,())],(m:Int),aC,aN,bA,bC,bN,cuts,nx,())) (λs=>(aC.length-s.1.toNat)+(bC.length-s.2.1.toNat)) ((aC.length-(i:Int).toNat)+(bC.length-(j:Int).toNat)) Q):=λc i' j' h1 h2 h3 hI hJ Q=>by
  have hst:=hM.step ha.1 hb.1 h1 h2 h3 hI hJ (X':=λk a b=>nP dm na nb op (ns++(t++t2)) ((nx++[r]).getD k 0) (aN.getD a 0) (bN.getD b 0)) hX hX2
  have hij:=hst.ij
  refine T.go ⟨i',j',me',t++t2,cuts++[c],nx++[r],hS2,by omega,by rw[zC];simp,hnx2,hst,rfl⟩ ?_
  dsimp only
  rw[aZ,aZ,aZ,aZ]
  clear hst hX hX2
  split at hI<;>split at hJ<;>omega
 refine T.cnd (λhc5=>?_) (λhc5=>?_)<;>simp only[dD,dG]at hc5
 .refine T.grd (by rw[bf];omega) (T.grd (by rw[dN,aF];omega) (T.grd (by rw[eY,bf,dO,fC,bq];omega) ?_))
  refine T.cnd (λw1=>?_) (λw1=>?_)<;>simp only[dM,dS,bD,bq,dD,dG,not_true_eq_false,or_false,eU]at w1
  .refine T.grd (by rw[eY,bf,dO,fC,bq];omega) (T.cnd (λw2=>?_) (λw2=>?_))<;>simp only[dM,dS,bD,bq,dD,dG,not_true_eq_false,or_false,eU]at w2
   .exact go (aC.getD i 0) (i+1) (j+1) (λ_=>by omega) (λ_=>by omega) (by omega) (by split<;>omega) (by split<;>omega) _
   .exact go (aC.getD i 0) (i+1) (j) (λ_=>by omega) (λ_=>by omega) (by omega) (by split<;>omega) (by split<;>omega) _
  .refine T.grd (by rw[eY,bf,dO,fC,bq];omega) (T.cnd (λw2=>?_) (λw2=>?_))<;>simp only[dM,dS,bD,bq,dD,dG,not_true_eq_false,or_false,eU]at w2
   .exact go (aC.getD i 0) (i) (j+1) (λ_=>by omega) (λ_=>by omega) (by omega) (by split<;>omega) (by split<;>omega) _
   .exfalso;omega
 refine T.grd (by rw[eY,bf,dO,fC,bq];omega) (T.grd (by rw[eY,bf,dO,fC,bq];omega) (T.cnd (λhc6=>?_) (λhc6=>?_)))<;>simp only[dM,dS,bD,bq,fU,gq]at hc6
 .refine T.grd (by rw[bf];omega) (T.grd (by rw[dN,aF];omega) (T.grd (by rw[eY,bf,dO,fC,bq];omega) ?_))
  refine T.cnd (λw1=>?_) (λw1=>?_)<;>simp only[dM,dS,bD,bq,dD,dG,not_true_eq_false,or_false,eU]at w1
  .refine T.grd (by rw[eY,bf,dO,fC,bq];omega) (T.cnd (λw2=>?_) (λw2=>?_))<;>simp only[dM,dS,bD,bq,dD,dG,not_true_eq_false,or_false,eU]at w2
   .exact go (aC.getD i 0) (i+1) (j+1) (λ_=>by omega) (λ_=>by omega) (by omega) (by split<;>omega) (by split<;>omega) _
   .exact go (aC.getD i 0) (i+1) (j) (λ_=>by omega) (λ_=>by omega) (by omega) (by split<;>omega) (by split<;>omega) _
  .refine T.grd (by rw[eY,bf,dO,fC,bq];omega) (T.cnd (λw2=>?_) (λw2=>?_))<;>simp only[dM,dS,bD,bq,dD,dG,not_true_eq_false,or_false,eU]at w2
   .exact go (aC.getD i 0) (i) (j+1) (λ_=>by omega) (λ_=>by omega) (by omega) (by split<;>omega) (by split<;>omega) _
   .exfalso;omega
 .refine T.grd (by rw[bf];omega) (T.grd (by rw[dN,aF];omega) (T.grd (by rw[eY,bf,dO,fC,bq];omega) ?_))
  refine T.cnd (λw1=>?_) (λw1=>?_)<;>simp only[dM,dS,bD,bq,dD,dG,not_true_eq_false,or_false,eU]at w1
  .refine T.grd (by rw[eY,bf,dO,fC,bq];omega) (T.cnd (λw2=>?_) (λw2=>?_))<;>simp only[dM,dS,bD,bq,dD,dG,not_true_eq_false,or_false,eU]at w2
   .exact go (bC.getD j 0) (i+1) (j+1) (λ_=>by omega) (λ_=>by omega) (by omega) (by split<;>omega) (by split<;>omega) _
   .exact go (bC.getD j 0) (i+1) (j) (λ_=>by omega) (λ_=>by omega) (by omega) (by split<;>omega) (by split<;>omega) _
  .refine T.grd (by rw[eY,bf,dO,fC,bq];omega) (T.cnd (λw2=>?_) (λw2=>?_))<;>simp only[dM,dS,bD,bq,dD,dG,not_true_eq_false,or_false,eU]at w2
   .exact go (bC.getD j 0) (i) (j+1) (λ_=>by omega) (λ_=>by omega) (by omega) (by split<;>omega) (by split<;>omega) _
   .exfalso;omega
set_option maxHeartbeats 2000000 in
theorem a2V (hd:gX dm) (hA:iC dm na) (hB:iC dm nb) (p q:Int) (hp:jm na.length p) (hq:jm nb.length q) (hP:uN dm na nb ra rb p q (min (lvl dm na p) (lvl dm nb q))) (me:List DS6) (ns:List DS1) (h0:ns=[]) (hS:w9 dm na nb ra rb op me ns) :
  T (Ei (p,q,()) na nb op me (ixS ns)) (λy=>∃r me' t,y=(r,na,nb,op,me',ixS (ns++t),ns++t,())/\w9 dm na nb ra rb op me' (ns++t)/\(ns++t).length<=1001/\((ns++t).length<=1000->Rf (ns++t) (-256) (min (lvl dm na p) (lvl dm nb q)) r/\nP dm na nb op (ns++t) r p q)):=by
 have hn:ns.length<=1000:=by rw[h0];simp
 unfold Ei
 dsimp only
 obtain⟨hN,hme,hsb,htp⟩:=id hS
 have p1:=hp.1
 have p2:=hp.2
 have q1:=hq.1
 have q2:=hq.2
 refine T.cnd (λhc=>?_) (λhc=>?_)<;>simp only[dM,dS,bD,bq]at hc
 ·have Ky:∀ r:Int,-256<=r->r < 0->m72 r=some (-1 - r,()):=fun r h1 h2=>by
   show some (fV .i64 (-1) r,())=_
   rw[eF (by omega) (by omega)]
  have hbd:=Ll (op:=op) (x:=-1-p) (y:=-1-q) (by omega) (by omega)
  refine T.dh (Ky p p1 hc.1) (T.dh (Ky q q1 hc.2) ?_)
  dsimp only
  refine T.dh (a2X _ _ _) ?_
  dsimp only
  refine T.dh (v:=(-1-opS op (-1-p) (-1-q),())) (by show some (fV .i64 (-1) _,())=_;rw[eF (by omega) (by omega)]) ?_
  dsimp only
  refine T.ret ⟨-1-opS op (-1-p) (-1-q),me,[],?_,by simpa using hS,by simp;omega,λ_=>⟨⟨by omega,by omega,λz=>by omega⟩,λfs hf=>by rw[iY _ _ (by omega),iY _ _ hc.1,iY _ _ hc.2];omega⟩⟩
  rw[bL,h0]
 refine T.cnd (λhc1=>?_) (λhc1=>?_)
 ·obtain ⟨r,hr⟩:∃ r,nA (eqT tS3) (p,q,()) me=some r:=by
   unfold yh at hc1
   exact Option.isSome_iff_exists.1 hc1
  obtain⟨z1,z2⟩:=hme p q r hr
  have eG:oO (eqT tS3) (p,q,()) me 0=r:=by unfold oO;rw[hr];rfl
  have z1':Rf ns (-256) (min (lvl dm na p) (lvl dm nb q)) (oO (eqT tS3) (p,q,()) me 0):=by rw[eG];exact z1
  have z2':nP dm na nb op ns (oO (eqT tS3) (p,q,()) me 0) p q:=by rw[eG];exact z2
  exact T.ret ⟨_,me,[],by rw[bL,h0],by simpa using hS,by simp;omega,λ_=>⟨by rw[bL];exact z1',by rw[bL];exact z2'⟩⟩
 have hmd:min (lvl dm na p) (lvl dm nb q)<dm.length:=by
  have side:∀{ns:List DS1} {r:Int},iC dm ns->0<=r->r<(ns.length:Int)->lvl dm ns r<dm.length:=fun{ns r} hs h0 hr=>by
   unfold lvl
   rw[if_neg (by omega)]
   have:=(hs r.toNat (by omega)).1
   have:=(hs r.toNat (by omega)).2.1
   omega
  rcases hc with z|z
  .have:=side hA z p2;omega
  .have:=side hB z q2;omega
 generalize hmv:min (lvl dm na p) (lvl dm nb q)=m at *
 have hd2:=hd.2.1
 have hbr:∀{ns:List DS1} {r:Int},iC dm ns->jm ns.length r->∃A C N,m85 ns r=some ((A,C,N,()),())/\((r<0/\A=6/\lvl dm ns r=dm.length)\/(0<=r/\A=(lvl dm ns r:Int)/\lvl dm ns r<dm.length/\Br dm ns r (lvl dm ns r) C N)):=fun{ns r} hs hr=>by
  rcases eZ r 0 with z|z
  .exact⟨_,_,_,GA ns z,.inl ⟨z,rfl,by unfold lvl;rw[if_pos z]⟩⟩
  .have hrt:r.toNat<ns.length:=by have:=hr.2;omega
   have h1:=(hs _ hrt).1
   have h2:=(hs _ hrt).2.1
   have e:lvl dm ns r=(ns.getD r.toNat zN).1.toNat:=by unfold lvl;rw[if_neg (by omega)]
   have hB:=Br.node hd hs z hr.2
   rw[<- e]at hB
   exact⟨_,_,_,Gz ns z hr.2,.inr ⟨z,by omega,by omega,hB⟩⟩
 obtain⟨A1,C1,N1,e1,h1⟩:=hbr hA hp
 obtain⟨A2,C2,N2,e2,h2⟩:=hbr hB hq
 refine T.dh e1 (T.dh e2 ?_)
 dsimp only
 refine T.join (λs=>∃(aA bA:Int) (aC aN bC bN:List Int),aA=(m:Int)/\Br dm na p m aC aN/\Br dm nb q m bC bN/\s=(na,nb,op,me,ixS (ns),[(p,q,())],aA,aC,aN,bA,bC,bN,())) ?_ ?_
 .refine T.cnd (λhc2=>?_) (λhc2=>?_)<;>simp only[bD,bq]at hc2
  .rcases h1 with⟨z1,z2,z3⟩|⟨z1,z2,z3,z4⟩
   .exfalso
    rcases h2 with⟨y1,y2,y3⟩|⟨y1,y2,y3,y4⟩<;>omega
   ·have hm1:lvl dm na p=m:=by
     rcases h2 with⟨y1,y2,y3⟩|⟨y1,y2,y3,y4⟩<;>omega
    have hm2:m+1<=lvl dm nb q:=by
     rcases h2 with⟨y1,y2,y3⟩|⟨y1,y2,y3,y4⟩<;>omega
    rw[hm1]at z4
    exact T.jgo ⟨_,_,_,_,_,_,by omega,z4,Br.none hq hm2,rfl⟩
  refine T.cnd (λhc3=>?_) (λhc3=>?_)<;>simp only[bD,bq]at hc3
  .rcases h2 with⟨z1,z2,z3⟩|⟨z1,z2,z3,z4⟩
   .exfalso
    rcases h1 with⟨y1,y2,y3⟩|⟨y1,y2,y3,y4⟩<;>omega
   ·have hm1:lvl dm nb q=m:=by
     rcases h1 with⟨y1,y2,y3⟩|⟨y1,y2,y3,y4⟩<;>omega
    have hm2:m+1<=lvl dm na p:=by
     rcases h1 with⟨y1,y2,y3⟩|⟨y1,y2,y3,y4⟩<;>omega
    rw[hm1]at z4
    exact T.jgo ⟨_,_,_,_,_,_,by omega,Br.none hp hm2,z4,rfl⟩
  .rcases h1 with⟨z1,z2,z3⟩|⟨z1,z2,z3,z4⟩
   .exfalso
    rcases h2 with⟨y1,y2,y3⟩|⟨y1,y2,y3,y4⟩<;>omega
   .rcases h2 with⟨y1,y2,y3⟩|⟨y1,y2,y3,y4⟩
    .exfalso;omega
    .have hm1:lvl dm na p=m:=by omega
     have hm2:lvl dm nb q=m:=by omega
     rw[hm1]at z4
     rw[hm2]at y4
     exact T.jgo ⟨_,_,_,_,_,_,by omega,z4,y4,rfl⟩
 rintro _ ⟨aA,bA,aC,aN,bC,bN,rfl,ha,hb,rfl⟩
 clear h1 h2 e1 e2 hbr
 dsimp only
 have hdm:=hd.at hmd
 have hAl:=aR aC
 have hBl:=aR bC
 have WQ:=aR aN
 have WO:=aR bN
 have hac:=ha.1.len hdm.2.1 hdm.2.2
 have hbc:=hb.1.len hdm.2.1 hdm.2.2
 have ha2:=ha.2.1
 have hb2:=hb.2.1
 refine T.loop (λs=>∃(i j:Nat) (me:List DS6) (t:List DS1) (cuts nx:List Int),w9 dm na nb ra rb op me (ns++t)/\(ns++t).length<=1000/\nx.length=cuts.length/\(∀c∈nx,Rf (ns++t) (-256) (m+1) c)/\Mrg (dm.getD m zS).1 (dm.getD m zS).2.1 aC bC cuts i j (λk a b=>nP dm na nb op (ns++t) (nx.getD k 0) (aN.getD a 0) (bN.getD b 0))/\s=((i:Int),(j:Int),na,nb,op,me,ixS (ns++t),[(p,q,())],(m:Int),aC,aN,bA,bC,bN,cuts,nx,ns++t,())) (λs=>(aC.length-s.1.toNat)+(bC.length-s.2.1.toNat)) ⟨0,0,me,[],[],[],by rw[bL];exact hS,by rw[bL];exact hn,rfl,λc hc=>(by cases hc),Mrg.init hdm.1 ha.1 hb.1,by rw[bL,h0];rfl⟩ ?_
 rintro _ ⟨i,j,me,t,cuts,nx,hS,hn,hnl,hnx,hM,rfl⟩
 dsimp only
 have hi:=hM.ij.1
 have hj:=hM.ij.2
 have hcl:=hM.cut.len hdm.2.1 hdm.2.2
 rw[hAl,hBl,WQ,WO,dF,dF,dF,dF]
 obtain⟨v,v1,v2,v3,v4⟩:=hM.wit
 have hPP:=uN.step hd hA hB hmd hP ha hb v1 v2
 rw[v3,v4]at hPP
 obtain⟨c1,c2⟩:=ha.2.2.1 i (by omega)
 obtain⟨d1,d2⟩:=hb.2.2.1 j (by omega)
 have hll:=LK hd hA c1.2
 have WM:uN dm na nb ra rb (aN.getD i 0) (bN.getD j 0) (min (lvl dm na (aN.getD i 0)) (lvl dm nb (bN.getD j 0))):=by
  obtain⟨pre,w1,w2,w3⟩:=hPP
  exact⟨pre,w1,by omega,w3⟩
 refine T.grd (by rw[bf];omega) (T.grd (by rw[bf];omega) (T.call (a2U hd hA hB (aN.getD i 0) (bN.getD j 0) me (ns++t) c1 d1 WM hS hn) ?_))
 rintro _ ⟨r,me',t2,rfl,hS2,hl2,hr2⟩
 dsimp only
 rw[aX]at hS2 hl2 hr2 ⊢
 have hNl:=aR (ns++(t++t2))
 refine T.grd (by rw[dN,aF];omega) (T.dh (show Af _ _ _ _ _ _=some _ from rfl) ?_)
 dsimp only
 rw[hNl]
 refine T.cnd (λhc3=>?_) (λhc3=>?_)<;>simp only[bD,bq]at hc3
 .refine T.dh (show m40 0=some _ from rfl) (T.out ⟨_,me',t++t2,rfl,hS2,hl2,λz=>by omega⟩)
 obtain⟨hrf,hrs⟩:=hr2 (by omega)
 have hrf:Rf (ns++(t++t2)) (-256) (m+1) r:=hrf.weak (by omega)
 have hnx2:∀c∈nx++[r],Rf (ns++(t++t2)) (-256) (m+1) c:=λc hc=>by
  rcases aV.1 hc with z|z
  .have:=(hnx c z).app t2
   rwa [aX]at this
  .obtain rfl:=bG.1 z;exact hrf
 have hX:∀k a b,k<cuts.length->nP dm na nb op (ns++t) (nx.getD k 0) (aN.getD a 0) (bN.getD b 0)->nP dm na nb op (ns++(t++t2)) ((nx++[r]).getD k 0) (aN.getD a 0) (bN.getD b 0):=λk a b hk h=>by
  rw[iK _ _ _ (by omega)]
  have hmem:nx.getD k 0∈nx:=by rw[getD_eq _ _ _ (by omega)];exact aJ _
  have:=h.app hS.1.1 (hnx _ hmem).2.1 t2
  rwa [aX]at this
 have hX2:nP dm na nb op (ns++(t++t2)) ((nx++[r]).getD cuts.length 0) (aN.getD i 0) (bN.getD j 0):=by
  rw[<- hnl,mg];exact hrs
 have zC:(nx++[r]).length=cuts.length+1:=by simp;omega
 refine T.cnd (λhc4=>?_) (λhc4=>?_)<;>simp only[dM,dS,dD,dG]at hc4
 .obtain rfl:i=aC.length:=by omega
  obtain rfl:j=bC.length:=by omega
  have hM2:Mrg (dm.getD m zS).1 (dm.getD m zS).2.1 aC bC cuts aC.length bC.length (λk a b=>nP dm na nb op (ns++(t++t2)) ((nx++[r]).getD k 0) (aN.getD a 0) (bN.getD b 0)):=⟨hM.ij,hM.cut,hM.up,hM.wit,hM.hit,λw hw=>⟨(hM.sem w hw).1,hX _ _ _ (hM.sem w hw).1 (hM.sem w hw).2⟩⟩
  obtain⟨t3,s1,s2,s3,s4,s5⟩:=hS2.node hd hA hB (by omega) hmd hmv hP ha hb zC hnx2 hM2 hX2
  have Cq:=SQ (lo:=-256) hd (by omega) (by omega) hmd (x:=(nx++[r]).headD 0) (cs:=cuts) (nx:=(nx++[r]).tail) (ns:=ns++(t++t2)) hM.cut (by rw[List.length_tail,zC];omega) (by rw[Ew zC];exact hnx2) hS2.1 (by omega) (by omega) na nb op me'
  rw[Ew zC]at Cq
  refine T.lT (T.dh Cq ?_)
  dsimp only
  refine T.grd (by rw[iB,iB];exact⟨iX _,iX _,rfl⟩) (T.grd (by rw[dU];simp) (T.ret ?_))
  rw[s1]at *
  rw[aX]at s2 s3 s4 s5 ⊢
  exact⟨_,_,t++t2++t3,rfl,s2,s3,λ_=>⟨s4,s5⟩⟩
 have ei:bX .i64 (i:Int) 1=((i+1:Nat):Int):=by rw[aY (by omega) (by omega)];omega
 have ej:bX .i64 (j:Int) 1=((j+1:Nat):Int):=by rw[aY (by omega) (by omega)];omega
 rw[ei,ej]
 have go:∀ (c:Int) (i' j':Nat),(i < aC.length->c<=aC.getD i 0)->(j < bC.length->c<=bC.getD j 0)->((i < aC.length/\aC.getD i 0=c)\/(j < bC.length/\bC.getD j 0=c))->(i'=if i < aC.length/\aC.getD i 0=c then i + 1 else i)->(j'=if j < bC.length/\bC.getD j 0=c then j + 1 else j) ->
   ∀Q,T (some (Sum.inl (β:=Int×(List DS1)×(List DS1)×Int×(List DS6)×(List DS7)×(List DS1)×Unit) ((i':Int),(j':Int),na,nb,op,me',ixS (ns++(t++t2)),[(p,q,())],(m:Int),aC,aN,bA,bC,bN,cuts++[c],nx++[r],ns++(t++t2),()))) (LQ (λs=>∃(i j:Nat) (me:List DS6) (t:List DS1) (cuts nx:List Int),w9 dm na nb ra rb op me (ns++t)/\(ns++t).length<=1000/\nx.length=cuts.length/\(∀c∈nx,Rf (ns++t) (-256) (m+1) c)/\Mrg (dm.getD m zS).1 (dm.getD m zS).2.1 aC bC cuts i j (λk a b=>nP dm na nb op (ns++t) (nx.getD k 0) (aN.getD a 0) (bN.getD b 0))/\s=((i:Int),(j:Int),na,nb,op,me,ixS (ns++t),[(p,q,())],(m:Int),aC,aN,bA,bC,bN,cuts,nx,ns++t,())) (λs=>(aC.length-s.1.toNat)+(bC.length-s.2.1.toNat)) ((aC.length-(i:Int).toNat)+(bC.length-(j:Int).toNat)) Q):=λc i' j' h1 h2 h3 hI hJ Q=>by
  have hst:=hM.step ha.1 hb.1 h1 h2 h3 hI hJ (X':=λk a b=>nP dm na nb op (ns++(t++t2)) ((nx++[r]).getD k 0) (aN.getD a 0) (bN.getD b 0)) hX hX2
  have hij:=hst.ij
  refine T.go ⟨i',j',me',t++t2,cuts++[c],nx++[r],hS2,by omega,by rw[zC];simp,hnx2,hst,rfl⟩ ?_
  dsimp only
  rw[aZ,aZ,aZ,aZ]
  clear hst hX hX2
  split at hI<;>split at hJ<;>omega
 refine T.cnd (λhc5=>?_) (λhc5=>?_)<;>simp only[dD,dG]at hc5
 .refine T.grd (by rw[bf];omega) (T.grd (by rw[dN,aF];omega) (T.grd (by rw[eY,bf,dO,fC,bq];omega) ?_))
  refine T.cnd (λw1=>?_) (λw1=>?_)<;>simp only[dM,dS,bD,bq,dD,dG,not_true_eq_false,or_false,eU]at w1
  .refine T.grd (by rw[eY,bf,dO,fC,bq];omega) (T.cnd (λw2=>?_) (λw2=>?_))<;>simp only[dM,dS,bD,bq,dD,dG,not_true_eq_false,or_false,eU]at w2
   .exact go (aC.getD i 0) (i+1) (j+1) (λ_=>by omega) (λ_=>by omega) (by omega) (by split<;>omega) (by split<;>omega) _
   .exact go (aC.getD i 0) (i+1) (j) (λ_=>by omega) (λ_=>by omega) (by omega) (by split<;>omega) (by split<;>omega) _
  .refine T.grd (by rw[eY,bf,dO,fC,bq];omega) (T.cnd (λw2=>?_) (λw2=>?_))<;>simp only[dM,dS,bD,bq,dD,dG,not_true_eq_false,or_false,eU]at w2
   .exact go (aC.getD i 0) (i) (j+1) (λ_=>by omega) (λ_=>by omega) (by omega) (by split<;>omega) (by split<;>omega) _
   .exfalso;omega
 refine T.grd (by rw[eY,bf,dO,fC,bq];omega) (T.grd (by rw[eY,bf,dO,fC,bq];omega) (T.cnd (λhc6=>?_) (λhc6=>?_)))<;>simp only[dM,dS,bD,bq,fU,gq]at hc6
 .refine T.grd (by rw[bf];omega) (T.grd (by rw[dN,aF];omega) (T.grd (by rw[eY,bf,dO,fC,bq];omega) ?_))
  refine T.cnd (λw1=>?_) (λw1=>?_)<;>simp only[dM,dS,bD,bq,dD,dG,not_true_eq_false,or_false,eU]at w1
  .refine T.grd (by rw[eY,bf,dO,fC,bq];omega) (T.cnd (λw2=>?_) (λw2=>?_))<;>simp only[dM,dS,bD,bq,dD,dG,not_true_eq_false,or_false,eU]at w2
   .exact go (aC.getD i 0) (i+1) (j+1) (λ_=>by omega) (λ_=>by omega) (by omega) (by split<;>omega) (by split<;>omega) _
   .exact go (aC.getD i 0) (i+1) (j) (λ_=>by omega) (λ_=>by omega) (by omega) (by split<;>omega) (by split<;>omega) _
  .refine T.grd (by rw[eY,bf,dO,fC,bq];omega) (T.cnd (λw2=>?_) (λw2=>?_))<;>simp only[dM,dS,bD,bq,dD,dG,not_true_eq_false,or_false,eU]at w2
   .exact go (aC.getD i 0) (i) (j+1) (λ_=>by omega) (λ_=>by omega) (by omega) (by split<;>omega) (by split<;>omega) _
   .exfalso;omega
 .refine T.grd (by rw[bf];omega) (T.grd (by rw[dN,aF];omega) (T.grd (by rw[eY,bf,dO,fC,bq];omega) ?_))
  refine T.cnd (λw1=>?_) (λw1=>?_)<;>simp only[dM,dS,bD,bq,dD,dG,not_true_eq_false,or_false,eU]at w1
  .refine T.grd (by rw[eY,bf,dO,fC,bq];omega) (T.cnd (λw2=>?_) (λw2=>?_))<;>simp only[dM,dS,bD,bq,dD,dG,not_true_eq_false,or_false,eU]at w2
   .exact go (bC.getD j 0) (i+1) (j+1) (λ_=>by omega) (λ_=>by omega) (by omega) (by split<;>omega) (by split<;>omega) _
   .exact go (bC.getD j 0) (i+1) (j) (λ_=>by omega) (λ_=>by omega) (by omega) (by split<;>omega) (by split<;>omega) _
  .refine T.grd (by rw[eY,bf,dO,fC,bq];omega) (T.cnd (λw2=>?_) (λw2=>?_))<;>simp only[dM,dS,bD,bq,dD,dG,not_true_eq_false,or_false,eU]at w2
   .exact go (bC.getD j 0) (i) (j+1) (λ_=>by omega) (λ_=>by omega) (by omega) (by split<;>omega) (by split<;>omega) _
   .exfalso;omega
end
theorem W9{dm:List DS3}{ns:List DS1}(hd:gX dm)(hs:iC dm ns)(ht:Xt ns){r:Int}(hr:r<(ns.length:Int)):cK ns ns.length [] r=cK ns 8 [] r:=by
 obtain⟨hR8,_⟩:=lY hd hs
 have hRi:rA ns id:=λi hi=>⟨(hR8 i hi).1,λc hc=>⟨((hR8 i hi).2 c hc).1,λh0=>by
  have:=ht i hi c hc
  show c.toNat<i
  omega⟩⟩
 have h1:=AL hRi ns.length ns.length (ns.length+8) r [] (by unfold rkI;split;omega;show r.toNat+1<=_;omega) (by omega) (by omega) hr
 have h2:=AL hR8 8 8 (ns.length+8) r [] (F3 hd hs hr) (by omega) (by omega) hr
 rw[h1,h2]
theorem a4K{dm:List DS3}{ns:List DS1}(hd:gX dm)(hN:kM dm (-256) ns)(ht:Xt ns)(hn:ns.length<=1000){r:Int}(hr:Rf ns (-256) 0 r):ZL ns r:=by
 have h1:=hr.1
 refine⟨by omega,by omega,hr.2.1,λi hi c hc=>⟨?_,ht i hi c hc⟩,λx hx=>?_⟩
 .have:=hN.2.2 (ns.getD i zN) (by rw[getD_eq _ _ _ hi];exact aJ hi) c hc
  omega
 .obtain⟨i,hi,rfl⟩:=fD hx
  have hs:=hN.1 i hi
  have hl:=hs.len hd
  rw[getD_eq _ _ _ hi]at hs hl
  have h3:=hs.2.2.1
  have h4:=hs.2.2.2.1
  exact⟨⟨λe=>(by rw[e]at h3;cases h3),by omega⟩,λe=>(by rw[e]at h4;simp at h4),by omega⟩
theorem U0 (l:List DS0) (hv:jH l=0) (na nb:List DS1) (ra rb op:Int) (hzA:SzN na) (hzB:SzN nb) :
  T (m33 (l,()) (na,ra,()) (nb,rb,()) op) (λy=>(¬(VD (doms l) na ra/\VD (doms l) nb rb)->y=(([],0,()),21,()))/\(VD (doms l) na ra->VD (doms l) nb rb->(¬(1<=op/\op<=4)->y=(([],0,()),11,()))/\
   (1<=op/\op<=4->∃ts,Red (doms l) ts/\(∀j:Nat,j<ts.length->uW (doms l) (opF op na nb ra rb) ts (j:Int))/\((1000<ts.length/\y=(([],0,()),4,()))\/(ts.length<=1000/\∃rt,kM (doms l) (-256) ts/\Rf ts (-256) 0 rt/\(∀fs,FOk (doms l) fs->vlF ts 9 rt fs=opF op na nb ra rb fs)/\y=((lF ts (cK ts 8 [] rt),dR (cK ts 8 [] rt) rt,()),0,())))))):=by
 have hd:=ql hv
 unfold m33
 refine T.dh (Jw _) ?_
 dsimp only
 rw[hv]
 refine T.cf (by rfl) (T.call (Gw l na ra hzA) ?_)
 rintro⟨b1,⟨⟩⟩ h1
 dsimp only at h1 ⊢
 refine T.cnd (λhc=>?_) (λhc=>?_)
 .rw[dO]at hc
  have hn:¬VD (doms l) na ra:=λz=>by rw[h1.2 ⟨hv,z⟩]at hc;cases hc
  exact T.ret ⟨λ_=>rfl,λz=>absurd z hn⟩
 rw[gQ]at hc
 have hA:=(h1.1 hc).2
 refine T.call (Gw l nb rb hzB) ?_
 rintro⟨b2,⟨⟩⟩ h2
 dsimp only at h2 ⊢
 refine T.cnd (λhc=>?_) (λhc=>?_)
 .rw[dO]at hc
  have hn:¬VD (doms l) nb rb:=λz=>by rw[h2.2 ⟨hv,z⟩]at hc;cases hc
  exact T.ret ⟨λ_=>rfl,λ_ z=>absurd z hn⟩
 rw[gQ]at hc
 have hB:=(h2.1 hc).2
 refine T.cnd (λhc=>?_) (λhc=>?_)<;>simp only[fB,fF,bD,bq]at hc
 .exact T.ret ⟨λz=>absurd ⟨hA,hB⟩ z,λ_ _=>⟨λ_=>rfl,λz=>by omega⟩⟩
 have hS0:w9 (doms l) na nb ra rb op [] []:=⟨kM.nil _ _,λp q r h=>(by cases h),λj hj=>(by cases hj),λi hi=>(by cases hi)⟩
 have hP0:uN (doms l) na nb ra rb ra rb (min (lvl (doms l) na ra) (lvl (doms l) nb rb)):=⟨[],qU.nil _,p8 _,λfs hf=>⟨by simp,by simp⟩⟩
 refine T.call (show T (Ei (ra,rb,()) na nb op [] []) _ from a2V hd hA.yB hB.yB ra rb hA.2.1 hB.2.1 hP0 [] [] rfl hS0) ?_
 rintro _ ⟨r,me',t,rfl,hS,hl,hr⟩
 simp only[fq]at hS hl hr ⊢
 refine T.dh (show Af _ _ _ _ _ _=some _ from rfl) ?_
 dsimp only
 have hT:=aR t
 rw[hT]
 have a4c:Red (doms l) t:=⟨hS.1.1,hS.1.2.1⟩
 refine T.cnd (λhc2=>?_) (λhc2=>?_)<;>simp only[bD,bq]at hc2
 .exact T.ret ⟨λz=>absurd ⟨hA,hB⟩ z,λ_ _=>⟨λz=>by omega,λ_=>⟨t,a4c,hS.2.2.1,.inl ⟨by omega,rfl⟩⟩⟩⟩
 obtain⟨hr1,hr2⟩:=hr (by omega)
 have hr0:Rf t (-256) 0 r:=hr1.weak (p8 _)
 have hDO:=a4K hd hS.1 hS.2.2.2 (by omega) hr0
 refine T.dh (v:=((lF t (cK t t.length [] r),dR (cK t t.length [] r) r,()),na,nb,op,me',t,ixS t,())) (by unfold LB;rw[if_pos hDO]) (T.ret ?_)
 dsimp only
 rw[W9 hd hS.1.1 hS.2.2.2 hr0.2.1]
 exact⟨λz=>absurd ⟨hA,hB⟩ z,λ_ _=>⟨λz=>by omega,λ_=>⟨t,a4c,hS.2.2.1,.inr ⟨by omega,r,hS.1,hr0,hr2,rfl⟩⟩⟩⟩
theorem NH:SzN ([]:List DS1):=⟨by simp,λx hx=>(by cases hx)⟩
theorem TY (l:List DS0) (hv:jH l=0) (na nb:List DS1) (ra rb op:Int) (hA:VD (doms l) na ra) (hB:VD (doms l) nb rb) {g1 g:List (List Int)} (hg:GOk (doms l) g) (hh:Has na na.length g) (hh':Has nb nb.length g) (e1:m49 (l,()) ((doms l).map fun d=>[d.1]) (na,ra,())=some (g1,())) (e2:m49 (l,()) g1 (nb,rb,())=some (g,())) (hc:bS g<=8192) :
  ∃y:DS2×Int×Unit,m33 (l,()) (na,ra,()) (nb,rb,()) op=some y/\m34 (l,()) (na,ra,()) (nb,rb,()) op=some y/\SzN y.1.1:=by
 have hd:=ql hv
 obtain⟨y,h1,_,h2⟩:=U0 l hv na nb ra rb op (hA.sz hd).2 (hB.sz hd).2
 obtain⟨h3,h4⟩:=h2 hA hB
 by_cases hop:1<=op/\op<=4
 .obtain⟨ts,t1,t2,t3⟩:=h4 hop
  obtain⟨y',k1,bn,rt,b1,b2,b3,b4,rfl⟩:=a4M l hv na nb ra rb op hA hB hop hg hh hh' e1 e2 hc
  have hRb:Red (doms l) bn:=⟨b1.1,b1.2.1⟩
  have hrr:∀{ns:List DS1} {r:Int},Rf ns (-256) 0 r->jm ns.length r:=λh=>⟨h.1,h.2.1⟩
  refine⟨y,h1,?_,?_⟩
  .rw[k1]
   congr 1
   rcases t3 with⟨c1,rfl⟩|⟨c1,r,c2,c3,c4,rfl⟩
   .have:=size_le hd t1 hRb (hrr b2) b3 t2
    rw[if_neg (by omega)]
   .have:=size_le hd hRb t1 (hrr c3) c4 b4
    rw[if_pos (by omega)]
    obtain⟨_,d1,d2⟩:=canon hd t1 hRb (root:=r) (root':=rt) ⟨c3.2.1,b2.2.1,λfs hf=>by rw[c4 fs hf,b3 fs hf]⟩
    rw[d1,d2]
  .rcases t3 with⟨c1,rfl⟩|⟨c1,r,c2,c3,c4,rfl⟩
   .exact NH
   .exact((Sn hd c2 (by omega) (by omega) c3.2.1 c3.1 c1).1.sz hd).2
 .have e:=h3 hop
  subst e
  refine⟨_,h1,?_,NH⟩
  unfold m34
  exact T.eq (T.ct (by rw[fB,bD,bD];omega) (T.ret rfl))
theorem MI(l:List DS0)(hv:jH l=0)(na nb:List DS1)(ra rb op:Int)(hzA:SzN na)(hzB:SzN nb):T (m33 (l,()) (na,ra,()) (nb,rb,()) op) (λy=>iEq y.2.1 21=true↔¬(VD (doms l) na ra/\VD (doms l) nb rb)):=by
 refine(U0 l hv na nb ra rb op hzA hzB).mono λy hy=>?_
 obtain⟨h1,h2⟩:=hy
 by_cases hV:VD (doms l) na ra/\VD (doms l) nb rb
 ·have:iEq y.2.1 21=false:=by
   obtain⟨h3,h4⟩:=h2 hV.1 hV.2
   by_cases hop:1<=op/\op<=4
   .obtain⟨ts,_,_,t3⟩:=h4 hop
    rcases t3 with⟨_,rfl⟩|⟨_,_,_,_,_,rfl⟩<;>rfl
   .rw[h3 hop];rfl
  rw[this]
  exact⟨λh=>(by cases h),λh=>absurd hV h⟩
 .rw[h1 hV]
  exact⟨λ_=>hV,λ_=>rfl⟩
theorem Nh(k:Int)(L1 L2:List Int)(op:Int)(x:DS2)(hk:I64 k)(h1:mo L1 0)(h2:mo L2 0)(hop:I64 op)(hx:SzN x.1):m8 k L1 L2 op x=some (true,()):=by
 obtain⟨xn,xr,⟨⟩⟩:=x
 dsimp only at hx
 refine T.eq ?_
 unfold m8
 refine T.cnd (λ_=>Ii rfl) (λ_=>?_)
 obtain⟨j,hj,e⟩:=a5y k hk
 have hv:=a0u j hj
 refine T.dh e ?_
 dsimp only
 generalize sch j=l at hv
 have hd:=ql hv
 refine T.dh (show m19 L1=some (L1,0,()) from rfl) (T.call (Tm l hv 3 (by omega) (by omega) h1) ?_)
 rintro⟨na,ra,K,a,⟨⟩⟩ ⟨hA,_,_,hK⟩
 dsimp only at hA hK ⊢
 refine T.call (Tm l hv 3 (by omega) (by omega) hK) ?_
 rintro⟨nb,rb,K',a',⟨⟩⟩ ⟨hB,_,_,_⟩
 dsimp only at hB ⊢
 obtain⟨g1,g,c1,c2,c3,c4,c5,c6⟩:=a4z l hv na nb ra rb hA hB
 refine T.call c6 ?_
 rintro⟨b,⟨⟩⟩ hb
 dsimp only at hb ⊢
 refine T.cnd (λ_=>Ii rfl) (λhc=>?_)
 rw[gQ]at hc
 refine T.call (Kn op 6 hop (by omega) (by omega)) ?_
 rintro⟨o,⟨⟩⟩ _
 dsimp only
 obtain⟨⟨⟨yn,yr,⟨⟩⟩,ye,⟨⟩⟩,y1,y2,y3⟩:=TY l hv na nb ra rb o hA hB c1 c2 c3 c4 c5 (hb hc)
 refine T.dh y1 (T.dh y2 ?_)
 dsimp only at y3 ⊢
 refine T.dh (show m19 L2=some (L2,0,()) from rfl) (T.call (Ve nb rb h2 hB.1 (hB.sz hd).1) ?_)
 rintro⟨⟨sn,sr,⟨⟩⟩,K2,a2,⟨⟩⟩ hz
 dsimp only at hz ⊢
 refine T.call (MI l hv na sn ra sr o (hA.sz hd).2 hz) (λz1 g1=>T.call (MI l hv xn nb xr rb o hx (hB.sz hd).2) (λz2 g2=>?_))
 refine T.dh (a2N (yn,yr,()) (yn,yr,()) y3) (T.ct (by rw[dM,dD];exact⟨gF ⟨rfl,rfl⟩,rfl⟩) ?_)
 have key:∀{a b:Bool} {P:Prop},(a=true↔¬P)->(b=true↔P)->bEq a (not b)=true:=fun{a b P} q1 q2=>by
  cases a<;>cases b<;>simp_all [bEq]
 refine T.call (TU l sn sr hz) (λb1 f1=>T.ct ?_ ?_)
 .refine key (P:=VD (doms l) sn sr) (g1.trans ⟨λh q=>h ⟨hA,q⟩,λh q=>h q.2⟩) (f1.trans ⟨λh=>h.2,λh=>⟨hv,h⟩⟩)
 refine T.call (TU l xn xr hx) (λb2 f2=>T.ct ?_ (Ii rfl))
 exact key (P:=VD (doms l) xn xr) (g2.trans ⟨λh q=>h ⟨q,hB⟩,λh q=>h q.1⟩) (f2.trans ⟨λh=>h.2,λh=>⟨hv,h⟩⟩)
end
end Abs
end Go.Proofs.YtgfnhpadmifiiaaDoor
