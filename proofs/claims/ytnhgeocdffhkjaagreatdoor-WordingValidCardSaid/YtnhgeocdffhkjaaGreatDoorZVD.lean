/- Merged and trimmed by a program: X9 XA XB XD XE XF XG XM XH. -/
import Derived.Test.YtnhgeocdffhkjaaGreatDoorZVC
import Derived.LoopN
set_option linter.unusedVariables false
set_option linter.unusedSimpArgs false
set_option linter.defProp false
namespace Go.Proofs.YtnhgeocdffhkjaaGreatDoor
namespace Abs
noncomputable section
section
open Go.RowKit
section
variable{ρ:List Nat}{h:List XO}{H:List ah}{σ:St}{Gl:Nat->Option (List AV)}{rd:Opd->XV}{tt:Nat->Option Ty}
theorem Sz{a:AV}(hs:bJ false a=some a.cells):∀c∈a.cells,c.cells=[c]:=by
 intro c hc
 have hst:st1 false c=true:=by
  cases a with
  |agg as =>
   simp only[bJ]at hs
   split at hs
   .rename_i hall;exact List.all_eq_true.1 hall c hc
   .cases hs
  |_ =>
   simp only[bJ]at hs
   split at hs
   .rename_i h1
    simp only[AV.cells,List.mem_singleton]at hc
    subst hc;exact h1
   .cases hs
 cases c<;>first|rfl|(cases hst;done)
theorem P6(sz:Nat)(x y:Opd):bZ Gl ρ h σ rd tt (.store sz x y):=by
 intro hs hrd p v kl h' hx hp
 simp only[aY]at hx
 have hv:=hrd x
 have hvy:=hrd y
 split at hx
 case h_2=>cases hx
 rename_i id i o h1
 rw[h1]at hv
 obtain⟨ob,he,ha⟩:=hv
 rw[he]at hx
 obtain⟨O,hO,hR⟩:=hs.hr id ob he
 have hleave:∀ok:Nat->Bool,leaves ok rd (.store sz x y)=true->∀id'∈[id],ok id'=true:=by
  intro m hm id' hid
  simp only[leaves,h1,Bool.and_eq_true]at hm
  simp only[List.mem_singleton]at hid
  subst hid
  exact hm.1
 cases ob with
 |vec ty cs=>cases hx
 |map ty K V es=>cases hx
 |row ty T fz es =>
  obtain⟨o1,o2,o3,o4,o5⟩:=hR
  have hlen:O.es.length=es.length:=by have:=o5.1;simpa using this
  simp only at hx
  split at hx
  .rename_i T' w h2
   rw[h2]at hvy
   split at hx
   .rename_i hz
    have hz:=beq_eq hz
    split at hx
    .rename_i z hset
     cases hx
     have hlt:i<es.length:=of_decide_eq_true hp
     have hst:=Bw (x:=w) hvy O.pr
     have hcl:(σ.val Gl y).cells.length=sz:=by rw[(Wp.cells hvy).1,bV,hz]
     obtain⟨s1,s2⟩:=Pk o5 hlt hvy hset
     refine⟨o+sz<=O.sz/\i<es.length/\O.fz<=i,.any,_,ρ,[id],by simp only[step,ha,hO,XO.len,hlen,if_true,hst,hcl]<;>rfl,⟨by rw[o2];omega,hlt,by rw[o4];simp⟩,?_,trivial,hleave⟩
     exact Upd.set hs he ⟨rfl,rfl,by simp⟩ ⟨o1,o2,o3,by simpa using o4,s2⟩
    .cases hx
   .cases hx
  .rename_i cs h2
   rw[h2]at hvy
   split at hx
   .rename_i ho
    have ho:=beq_eq ho
    subst ho
    split at hx
    .rename_i z hz
     split at hx
     .rename_i hsz
      have hsz:=beq_eq hsz
      cases hx
      have hlt:i<es.length:=of_decide_eq_true hp
      have hw:=fJ hz (VT.jC hvy (λvs q=>by cases q))
      have hst:=Bw (x:=z) hw O.pr
      have hcl:(σ.val Gl y).cells.length=sz:=by rw[(Wp.cells hw).1,bV,hsz]
      have s2:=He o5 hlt hw
      refine⟨0+sz<=O.sz/\i<es.length/\O.fz<=i,.any,_,ρ,[id],by simp only[step,ha,hO,XO.len,hlen,if_true,hst,hcl]<;>rfl,⟨by rw[o2];omega,hlt,by rw[o4];simp⟩,?_,trivial,hleave⟩
      exact Upd.set hs he ⟨rfl,rfl,by simp⟩ ⟨o1,o2,o3,by simpa using o4,s2⟩
     .cases hx
    .split at hx
     case h_2=>cases hx
     rename_i z hz
     split at hx
     case isFalse=>cases hx
     rename_i hb
     cases hx
     simp only[Bool.and_eq_true,Bool.not_eq_true']at hb
     obtain⟨⟨hb1,hb2⟩,hb3⟩:=hb
     have hsz:=beq_eq hb1
     have hlt:i<es.length:=of_decide_eq_true hp
     obtain⟨b,k1,k2,k3,k4⟩:=pY hs hz (VT.jC hvy (λvs q=>by cases q))
     have hnone:bJ O.pr (σ.val Gl y)=none:=by
      obtain⟨as,ha2,hl⟩:=hvy
      obtain⟨c,hc,hcr⟩:=List.any_eq_true.1 hb2
      obtain⟨j,hj⟩:=List.mem_iff_getElem?.1 hc
      obtain⟨d,hd,hv1⟩:=hl.eD hj
      have hst:st1 true d=false:=by
       cases c with
       |row j=>obtain⟨_,_,_,_,_,rfl⟩:=hv1;rfl
       |sub j o l=>obtain⟨_,_,_,_,_,rfl⟩:=hv1;rfl
       |_=>simp[dX]at hcr
      have hall:as.all (st1 true)=false:=by
       rcases q:as.all (st1 true) with _|_
       .rfl
       .have:=List.all_eq_true.1 q d (List.mem_of_getElem? hd);rw[hst]at this;cases this
      rw[ha2,o3]
      simp[bJ,hall]
     have u1:=Upd.frz _ hs k4
     have he2:(dU h (bq (.agg cs)))[id]?=some (.row ty T false es):=by
      have hid:id∉bq (.agg cs):=λq=>by
       have:(bq (.agg cs)).any (Nat.beq id)=true:=List.any_eq_true.2 ⟨id,q,Nat.beq_refl id⟩
       rw[this]at hb3;cases hb3
      have key:∀(ids:List Nat) (g:List XO),id∉ids->(dU g ids)[id]?=g[id]?:=by
       intro ids
       induction ids with
       |nil=>intro g _;rfl
       |cons j ids ih =>
        intro g hn
        have hj:j≠id:=λq=>hn (by simp[q])
        have hi:id∉ids:=λq=>hn (by simp[q])
        simp only[dU,List.foldl_cons]
        have:=λg=>ih g hi
        simp only[dU]at this
        rw[this]
        cases hg:g[j]? with
        |none=>rfl
        |some o=>exact List.getElem?_set_ne hj
      rw[key _ _ hid];exact he
     obtain⟨O',hO',p1,p2,p3,p4,p5⟩:=u1.hs.hr id _ he2
     have hst:=Bw k2 O'.pr
     have hcl:b.cells.length=sz:=by rw[(Wp.cells k2).1,bV,hsz]
     have s2:=He p5 hlt k2
     rw[<- k3]at hO' u1
     refine⟨0+sz<=O'.sz/\i<es.length/\O'.fz<=i,.any,_,ρ,bq (.agg cs)++[id],by simp only[step,ha,hO,XO.len,hlen,if_true,hnone,k1,hO',hst,hcl]<;>rfl,⟨by rw[p2];omega,hlt,by rw[p4];simp⟩,?_,trivial,λok hok id' hid=>?_⟩
     .exact u1.trans (Upd.set u1.hs he2 ⟨rfl,rfl,by simp⟩ ⟨p1,p2,p3,by simpa using p4,s2⟩) hs.rl
     .simp only[leaves,h1,h2,Bool.and_eq_true]at hok
      rcases List.mem_append.1 hid with q|q
      .exact List.all_eq_true.1 hok.2 id' q
      .exact hleave ok (by simp only[leaves,h1,h2,Bool.and_eq_true];exact hok) id' q
   .split at hx
    case h_2=>cases hx
    rename_i T' _
    split at hx
    case h_2=>cases hx
    rename_i v hz
    split at hx
    case h_2=>cases hx
    rename_i z hset
    split at hx
    case isFalse=>cases hx
    rename_i hsz
    have hsz:=beq_eq hsz
    cases hx
    have hlt:i<es.length:=of_decide_eq_true hp
    have hw:=fJ hz (VT.jC hvy (λvs q=>by cases q))
    have hst:=Bw (x:=v) hw O.pr
    have hcl:(σ.val Gl y).cells.length=sz:=by rw[(Wp.cells hw).1,bV,hsz]
    obtain⟨s1,s2⟩:=Pk o5 hlt hw hset
    refine⟨o+sz<=O.sz/\i<es.length/\O.fz<=i,.any,_,ρ,[id],by simp only[step,ha,hO,XO.len,hlen,if_true,hst,hcl]<;>rfl,⟨by rw[o2];omega,hlt,by rw[o4];simp⟩,?_,trivial,hleave⟩
    exact Upd.set hs he ⟨rfl,rfl,by simp⟩ ⟨o1,o2,o3,by simpa using o4,s2⟩
  .cases hx
 |box ty cs =>
  obtain⟨o1,o2,o3,o4,e,o5,hc⟩:=hR
  have hlen:O.es.length=1:=by rw[o5];rfl
  simp only at hx
  split at hx
  .rename_i vs hvs
   split at hx
   .rename_i hb
    cases hx
    simp only[Bool.and_eq_true]at hb
    have hi:=beq_eq hb.1.1.1
    have hsz:=beq_eq hb.1.1.2
    have hl:=Nat.le_of_ble_eq_true hb.1.2
    have h0:=pJ hb.2
    subst hi
    obtain⟨c1,c2⟩:=cells_ok hvs hvy
    have hcl:(σ.val Gl y).cells.length=sz:=by rw[<- c1.1,hsz]
    have hst:bJ O.pr (σ.val Gl y)=some (σ.val Gl y).cells:=by rw[o3];exact c2
    refine⟨o+sz<=O.sz/\0<1/\O.fz<=0,.any,_,ρ,[id],by simp only[step,ha,hO,XO.len,hlen,if_true,hst,hcl]<;>rfl,⟨by rw[o2];exact hl,by omega,by rw[o4];simp⟩,?_,trivial,hleave⟩
    refine Upd.set hs he trivial ⟨o1,?_,o3,o4,setCells e o (σ.val Gl y).cells,by simp only[o5,List.set_cons_zero,List.getD_cons_zero],?_⟩
    .simp only[List.length_append,List.length_take,List.length_drop];rw[o2];omega
    .cases e with
     |agg us =>
      have hc:au (V1 ρ h) cs us:=hc
      show au (V1 ρ h) _ (us.take o++(σ.val Gl y).cells++us.drop (o+(σ.val Gl y).cells.length))
      rw[hcl,<- hsz]
      have:=((hc.take o).append c1).append (hc.drop (o+vs.length))
      exact this
     |_ =>
      have UQ:cs.length=1:=by rw[hc.1];rfl
      have ho:o=0:=by omega
      have hs1:vs.length=1:=by omega
      subst ho
      have hcs:(σ.val Gl y).cells.length=1:=by omega
      match hcc:(σ.val Gl y).cells,hcs with
      |[c],_ =>
       rw[hcc]at c1
       have hc1:=Sz c2 c (by rw[hcc];simp)
       show au (V1 ρ h) _ c.cells
       rw[hc1,List.take_zero,List.nil_append,List.drop_eq_nil_of_le (by omega),List.append_nil]
       exact c1
   .cases hx
  .cases hx
theorem Ba{e:Ty}{l u:Int}{xs:List e.den}{as:List AV}(hc:au Wp as (xs.map (Ty.enc e))):au Wp ((as.take u.toNat).drop l.toNat) ((jQ l u xs).map (Ty.enc e)):=by
 simp only[jQ,List.map_drop,List.map_take]
 exact(hc.take _).drop _
theorem FW(hs:HS ρ h σ.h)(hrd:∀o,VT ρ h (rd o) (σ.val Gl o)){e:Ty}{xs:List e.den}{x:Opd}{lo hi:Option Opd}{sz:Nat}{p:Bool}{l u:Int}(hv:VT ρ h (.d (.list e) xs) (σ.val Gl x))(hz:e.size=sz)(hcut:nA xs.length (lo.map rd) (hi.map rd)=some (p,l,u))(hp:p=true):aG Gl ρ h σ rd (.slice sz x lo hi) (.d (.list e) (jQ l u xs)) [] h:=by
 rcases vv hv with⟨ha,rfl⟩|⟨as,ha,hl,hc⟩
 .obtain⟨h1,h2⟩:=lC hrd hcut hp
  refine aG.pure hs (by simp only[step,ha];simp only[List.length_nil]at h1;rw[h1]<;>rfl) h2 ?_
  have:jQ l u ([]:List e.den)=[]:=by simp[jQ]
  rw[this]
  exact Wp.nil _
 .obtain⟨h1,h2⟩:=lC hrd hcut hp
  rw[<- hl]at h1 h2
  refine aG.pure hs (by simp only[step,ha,hz,if_true,h1,Option.map_some]<;>rfl) h2 ?_
  have:=Ba (l:=l) (u:=u) hc
  rw[<- hz]
  exact .list _ _ _ this.1 this.2
theorem xS (hs:HS ρ h σ.h) (hrd:∀ o,VT ρ h (rd o) (σ.val Gl o)) {id ty off len:Nat} {T:Ty} {fz:Bool} {es:List T.den} {x:Opd} {lo hi:Option Opd} {sz:Nat} {p:Bool} {l u:Int} (he:h[id]?=some (.row ty T fz es)) (ha:σ.val Gl x=.row (ρ.getD id 0) es.length T.size off len) (hz:T.size=sz)
  (hcut:nA len (lo.map rd) (hi.map rd)=some (p,l,u)) (hp:p=true):aG Gl ρ h σ rd (.slice sz x lo hi) (.sub id (off+l.toNat) (u-l).toNat) [] h:=by
 obtain⟨h1,h2⟩:=lC hrd hcut hp
 exact aG.pure hs (q:=0<=l/\l<=u/\u<=(len:Int)) (by simp only[step,ha,hz,if_true,h1,Option.map_some]<;>rfl) h2 ⟨_,_,_,_,he,by rw[hz]⟩
theorem M4(sz:Nat)(x y z:Opd):bZ Gl ρ h σ rd tt (.slice3 sz x y z):=by
 intro hs hrd p v kl h' hx hp
 simp only[aY]at hx
 have hv:=hrd x
 have hy:=hrd y
 have hzz:=hrd z
 split at hx
 case h_2=>cases hx
 rename_i id k n k' m h1 h2 h3
 rw[h1]at hv;rw[h2]at hy;rw[h3]at hzz
 have ey:=dH hy
 have ez:=dH hzz
 obtain⟨ty,T,fz,es,he,ha⟩:=hv
 rw[he]at hx
 simp only at hx
 split at hx
 case isFalse=>cases hx
 rename_i hz
 cases hx
 simp only[Bool.and_eq_true,pI,decide_eq_true_eq,iEq,beq_iff_eq]at hp
 exact aG.pure hs (q:=(0:Int)<=(show Int from n)/\(show Int from n)<=(es.length:Int)/\(show Int from m)=(show Int from n)) (by simp only[step,ha,ey,ez,beq_eq hz,true_and,if_true]<;>rfl) ⟨hp.1.1.2,hp.1.2,(beq_iff_eq (α:=Int)).1 hp.2⟩ ⟨_,_,_,_,he,by rw[beq_eq hz],by have:=hp.1.2;have:=hp.1.1.2;omega⟩
theorem K8(hs:HS ρ h σ.h)(hrd:∀o,VT ρ h (rd o) (σ.val Gl o)){ty sz':Nat}{xs:List AV}{x:Opd}{lo hi:Option Opd}{sz:Nat}{p:Bool}{l u:Int}(hv:VT ρ h (.d (.rl ty sz') xs) (σ.val Gl x))(hz:sz'=sz)(hcut:nA xs.length (lo.map rd) (hi.map rd)=some (p,l,u))(hp:p=true):aG Gl ρ h σ rd (.slice sz x lo hi) (.d (.rl ty sz') (jQ l u xs)) [] h:=by
 rcases Bz hv with⟨ha,rfl⟩|⟨as,ha,hl,hc⟩
 .obtain⟨h1,h2⟩:=lC hrd hcut hp
  refine aG.pure hs (by simp only[step,ha];simp only[List.length_nil]at h1;rw[h1]<;>rfl) h2 ?_
  have:jQ l u ([]:List AV)=[]:=by simp[jQ]
  rw[this]
  exact Wp.nil _
 .obtain⟨h1,h2⟩:=lC hrd hcut hp
  rw[<- hl]at h1 h2
  refine aG.pure hs (by simp only[step,ha,hz,if_true,h1,Option.map_some]<;>rfl) h2 ?_
  have:=(hc.take u.toNat).drop l.toNat
  rw[<- hz]
  exact .list _ _ _ this.1 this.2
theorem P7(sz:Nat)(x:Opd)(lo hi:Option Opd):bZ Gl ρ h σ rd tt (.slice sz x lo hi):=by
 intro hs hrd p v kl h' hx hp
 simp only[aY]at hx
 have hv:=Cw (hrd x)
 split at hx
 .rename_i e xs h1
  rw[h1]at hv
  split at hx
  .rename_i hz
   split at hx
   .rename_i p' l u hc
    cases hx
    exact FW hs hrd hv (beq_eq hz) hc hp
   .cases hx
  .cases hx
 .rename_i ty sz' xs h1
  rw[h1]at hv
  split at hx
  .rename_i hz
   split at hx
   .rename_i p' l u hc
    cases hx
    exact K8 hs hrd hv (beq_eq hz) hc hp
   .cases hx
  .cases hx
 .rename_i h1
  rw[h1]at hv
  split at hx
  .rename_i p' l u hc
   cases hx
   obtain⟨q1,q2⟩:=lC hrd hc hp
   exact aG.pure hs (by simp only[step,Af hv];rw[q1]<;>rfl) q2 rfl
  .cases hx
 .rename_i id h1
  rw[h1]at hv
  obtain⟨ty,T,fz,es,he,ha⟩:=hv
  rw[he]at hx
  simp only at hx
  split at hx
  .rename_i hz
   split at hx
   .rename_i p' l u hc
    cases hx
    have:=xS hs hrd he ha (beq_eq hz) hc hp
    rw[Nat.zero_add]at this
    exact this
   .cases hx
  .cases hx
 .rename_i id off len h1
  rw[h1]at hv
  obtain⟨ty,T,fz,es,he,ha⟩:=hv
  rw[he]at hx
  simp only at hx
  split at hx
  .rename_i hz
   split at hx
   .rename_i p' l u hc
    cases hx
    exact xS hs hrd he ha (beq_eq hz) hc hp
   .cases hx
  .cases hx
 .cases hx
theorem M0(x:Opd)(lo hi:Option Opd):bZ Gl ρ h σ rd tt (.jw x lo hi):=by
 intro hs hrd p v kl h' hx hp
 simp only[aY]at hx
 have hv:=hrd x
 split at hx
 .rename_i s h1
  rw[h1]at hv
  split at hx
  .rename_i p' l u hc
   cases hx
   obtain⟨q1,q2⟩:=lC hrd hc hp
   exact aG.pure hs (by simp only[step,sW hv];rw[q1]<;>rfl) q2 (Wp.refl _)
  .cases hx
 .cases hx
theorem SG(x:Opd):bZ Gl ρ h σ rd tt (.qd x):=by
 intro hs hrd p v kl h' hx hp
 simp only[aY]at hx
 have hv:=hrd x
 split at hx
 .rename_i s h1
  rw[h1]at hv
  cases hx
  exact aG.pure hs (by simp only[step,sW hv]<;>rfl) trivial (Wp.refl _)
 .cases hx
theorem Xj(x i:Opd):bZ Gl ρ h σ rd tt (.idx x i):=by
 intro hs hrd p v kl h' hx hp
 simp only[aY]at hx
 have hv:=hrd x;have hi:=hrd i
 split at hx
 .rename_i s k n h1 h2
  rw[h1]at hv;rw[h2]at hi
  cases hx
  exact aG.pure hs (by simp only[step,sW hv,dH hi]<;>rfl) (kI hp) (Wp.refl _)
 .cases hx
theorem SN(x y:Opd):bZ Gl ρ h σ rd tt (.min2 x y):=by
 intro hs hrd p v kl h' hx hp
 simp only[aY]at hx
 have hv:=hrd x;have hi:=hrd y
 split at hx
 .rename_i k a k' b h1 h2
  rw[h1]at hv;rw[h2]at hi
  cases hx
  exact aG.pure hs (by simp only[step,dH hv,dH hi]<;>rfl) trivial (Wp.refl _)
 .cases hx
theorem SS(x y:Opd):bZ Gl ρ h σ rd tt (.max2 x y):=by
 intro hs hrd p v kl h' hx hp
 simp only[aY]at hx
 have hv:=hrd x;have hi:=hrd y
 split at hx
 .rename_i k a k' b h1 h2
  rw[h1]at hv;rw[h2]at hi
  cases hx
  exact aG.pure hs (by simp only[step,dH hv,dH hi]<;>rfl) trivial (Wp.refl _)
 .cases hx
theorem ow{l:List Nat}{a:Nat}:(l++[a]).getD l.length 0=a:=by simp[List.getD]
theorem jv(hs:HS ρ h H){ty sz:Nat}{T:Ty}{ys:List T.den}{as:List AV}(hz:T.size=sz)(hc:au Wp as (ys.map (Ty.enc T))):Upd ρ h H (ρ++[H.length]) (h++[.row ty T false ys]) (H++[⟨ty,sz,0,true,as⟩]) [] []/\V1 (ρ++[H.length]) (h++[.row ty T false ys]) (.row h.length) (.row H.length as.length sz 0 as.length):=by
 refine⟨Upd.new hs ⟨rfl,hz.symm,rfl,by simp,hc⟩,ty,T,false,ys,by simp,?_⟩
 have:as.length=ys.length:=by rw[hc.1,List.length_map]
 rw[this,<- hs.rl,ow,hz]
theorem tX{n b:Nat}(h:fits n b=true):n*b<=fu/\n<=4611686018427387904:=by simpa[fits]using h
theorem FC(hs:HS ρ h σ.h){ty:Nat}{T:Ty}{x:XV}{q:Bool}{ys:List T.den}{a:AV}{sz:Nat}(hz:T.size=sz)(hx:JA h ty T x=some (q,ys))(hq:q=true)(hv:VT ρ h x a):∃as,dh σ.h sz a=some as/\au Wp as (ys.map (Ty.enc T)):=by
 unfold JA at hx
 split at hx
 .rename_i ty' sz' xs
  split at hx
  .rename_i hc
   simp only[Bool.and_eq_true]at hc
   have hs':=beq_eq hc.2
   cases hx
   rw[hz]at hs'
   subst hs'
   rcases Bz hv with⟨rfl,rfl⟩|⟨as,rfl,hl,hw⟩
   .exact⟨[],rfl,.nil⟩
   .exact⟨as,by simp[dh],OA hw (Vk hq)⟩
  .cases hx
 .split at hx
  .rename_i zs hzs
   cases hx
   exact wQ hs hz hzs hv
  .cases hx
theorem Xr(ty sz bytes:Nat)(s x:Opd):bZ Gl ρ h σ rd tt (.app ty sz bytes s x):=by
 intro hs hrd p v kl h' hx hp
 simp only[aY]at hx
 have hv:=hrd s
 split at hx
 case h_2=>cases hx
 rename_i T hT
 split at hx
 case isFalse=>cases hx
 rename_i hz
 have hz:=beq_eq hz
 split at hx
 case h_2=>cases hx
 rename_i q0 ys hys
 split at hx
 .rename_i h1
  rw[h1]at hv
  cases hx
  rw[Bool.and_eq_true]at hp
  obtain⟨as,ha,hc⟩:=FC hs hz hys hp.1 (hrd x)
  have hal:as.length=ys.length:=by rw[hc.1,List.length_map]
  have hp:=hp.2
  obtain⟨u1,u2⟩:=jv (ty:=ty) hs hz hc
  have hf:=tX hp
  refine⟨as.length*bytes<=fu/\as.length<=4611686018427387904,_,_,_,[],by simp only[step,ha,Af hv,nL]<;>rfl,by rw[hal];exact hf,u1,VT.of1 u2,by simp⟩
 .rename_i id h1
  rw[h1]at hv
  obtain⟨ty',T',fz',es',he,hav⟩:=hv
  rw[he]at hx
  simp only at hx
  split at hx
  case h_2=>cases hx
  rename_i ys' hcast
  split at hx
  case isFalse=>cases hx
  rename_i hty
  have hty:=beq_eq hty
  cases hx
  rw[Bool.and_eq_true]at hp
  obtain⟨as,ha,hc⟩:=FC hs hz hys hp.1 (hrd x)
  have hal:as.length=ys.length:=by rw[hc.1,List.length_map]
  have hp:=hp.2
  obtain⟨q,rfl⟩:=dR hcast
  cases q
  subst hty
  obtain⟨O,hO,o1,o2,o3,o4,o5⟩:=hs.hr id _ he
  have hlen:O.es.length=es'.length:=by have:=o5.1;simpa using this
  have hf:=tX hp
  have o4':O.fz=0:=by simpa using o4
  have wK:mW ρ h (.row ty T false (es'++ys)) { O with es:=O.es++as }:=⟨o1,o2,o3,by simpa using o4,by rw[List.map_append];exact o5.append hc⟩
  have hu:=Upd.app hs he wK
  refine⟨es'.length=es'.length/\(es'.length+as.length)*bytes<=fu/\es'.length+as.length<=4611686018427387904,.row (ρ.getD id 0) (es'.length+as.length) sz 0 (es'.length+as.length),_,ρ,[id],?_,⟨rfl,by rw[hal];exact hf.1,by rw[hal];exact hf.2⟩,hu,?_,?_⟩
  .simp only[step,ha,hav,nL,hO,hlen,hz,o1,o2,o3,o4',and_self,if_true]
  .refine VT.of1 ⟨ty,T,false,es'++ys,?_,?_⟩
   .show(jV [id] (h.set id (.row ty T false (es'++ys))))[id]?=_
    rw[mQ,List.getElem?_map,List.getElem?_set_self (List.getElem?_eq_some_iff.1 he).1];rfl
   .rw[List.length_append,hal,hz]
  .intro m hm id' hid
   simp only[leaves,h1]at hm
   simp only[List.mem_singleton]at hid
   subst hid
   exact hm
 .cases hx
theorem FN(b:ByteArray):au Wp (bN b) ((jG b).map (Ty.enc (.int .u8))):=by
 have:(jG b).map (Ty.enc (.int .u8))=bN b:=by
  unfold jG bN
  rw[List.map_map];rfl
 rw[this];exact au.rfl' Wp.refl _
theorem Oq(b:ByteArray):(jG b).length=(bN b).length:=by unfold jG bN;rw[List.length_map,List.length_map]
theorem Td(ty bytes:Nat)(s x:Opd):bZ Gl ρ h σ rd tt (.apps ty bytes s x):=by
 intro hs hrd p v kl h' hx hp
 simp only[aY]at hx
 have hv:=hrd s
 have hw:=hrd x
 split at hx
 case h_2=>cases hx
 rename_i b hT h2
 rw[h2]at hw
 have ew:=sW hw
 have hc:=FN b
 have hal:(bN b).length=(jG b).length:=(Oq b).symm
 have hz:Ty.size (.int .u8)=1:=rfl
 split at hx
 .rename_i h1
  rw[h1]at hv
  cases hx
  obtain⟨u1,u2⟩:=jv (ty:=ty) hs hz hc
  have hf:=tX hp
  refine⟨(bN b).length*bytes<=fu/\(bN b).length<=4611686018427387904,_,_,_,[],by simp only[step,ew,Af hv,nL]<;>rfl,by rw[hal];exact hf,u1,VT.of1 u2,by simp⟩
 .rename_i id h1
  rw[h1]at hv
  obtain⟨ty',T',fz',es',he,hav⟩:=hv
  rw[he]at hx
  split at hx
  case h_2=>cases hx
  rename_i ty2 es2 hq
  cases hq
  split at hx
  case isFalse=>cases hx
  rename_i hty
  have hty:=beq_eq hty
  cases hx
  subst hty
  obtain⟨O,hO,o1,o2,o3,o4,o5⟩:=hs.hr id _ he
  have hlen:O.es.length=es2.length:=by have:=o5.1;rw[List.length_map]at this;exact this
  have hf:=tX hp
  have wK:mW ρ h (.row ty (.int .u8) false (es2++jG b)) { O with es:=O.es++bN b }:=⟨o1,o2,o3,by simpa using o4,by rw[List.map_append];exact o5.append hc⟩
  have hu:=Upd.app hs he wK
  have hap:step Gl σ (.apps ty bytes s x)=some (es2.length=es2.length/\(es2.length+(bN b).length)*bytes<=fu/\es2.length+(bN b).length<=4611686018427387904,.row (ρ.getD id 0) (es2.length+(bN b).length) 1 0 (es2.length+(bN b).length),σ.h.set (ρ.getD id 0) { O with es:=O.es++bN b }):=by
   have ew':σ.val Gl x=.v (.string b):=ew
   simp only[step,ew',hav,nL,hO]
   exact if_pos ⟨hlen,rfl,o1,o2,trivial,o3,by simpa using o4⟩
  refine⟨_,_,_,_,[id],hap,⟨rfl,by rw[hal];exact hf⟩,hu,?_,?_⟩
  .refine VT.of1 ⟨ty,.int .u8,false,es2++jG b,?_,?_⟩
   .show(jV [id] (h.set id (.row ty (.int .u8) false (es2++jG b))))[id]?=_
    rw[mQ,List.getElem?_map,List.getElem?_set_self (List.getElem?_eq_some_iff.1 he).1];rfl
   .rw[List.length_append,hal,hz]
  .intro m hm id' hid
   simp only[leaves,h1]at hm
   simp only[List.mem_singleton]at hid
   subst hid
   exact hm
 .cases hx
theorem Kk:∀(xs:List Int) (as:List AV),au Wp as (xs.map (Ty.enc (.int .u8)))->bytesOf as=some (xs.map λn=>UInt8.ofNat n.toNat):=by
 intro xs
 induction xs with
 |nil=>intro as h;rw[h.qW];rfl
 |cons x xs ih =>
  intro as h
  obtain⟨a,as',rfl,h1,h2⟩:=h.cons_right
  have e:a=.v (.int .u8 x):=h1.aH
  subst e
  simp only[bytesOf,byteOf,ih as' h2,List.map_cons]
theorem Xq(x:Opd):bZ Gl ρ h σ rd tt (.b2s x):=by
 intro hs hrd p v kl h' hx hp
 simp only[aY]at hx
 split at hx
 .rename_i xs hxs
  cases hx
  obtain⟨as,ha,hc⟩:=wQ hs (T:=.int .u8) (sz:=1) rfl hxs (hrd x)
  exact aG.pure hs (by simp only[step,ha,Kk xs as hc,Option.map_some]<;>rfl) trivial (Wp.refl _)
 .cases hx
theorem Xd(ty:Nat)(x:Opd):bZ Gl ρ h σ rd tt (.s2b ty x):=by
 intro hs hrd p v kl h' hx hp
 simp only[aY]at hx
 have hw:=hrd x
 split at hx
 case h_2=>cases hx
 rename_i b hT h2
 rw[h2]at hw
 have ew:=sW hw
 cases hx
 obtain⟨u1,u2⟩:=jv (ty:=ty) hs (T:=.int .u8) (sz:=1) rfl (FN b)
 have hl:(bN b).length=ByteArray.size b:=by unfold bN;rw[List.length_map,Array.length_toList];rfl
 rw[hl]at u2
 refine⟨ByteArray.size b<=4611686018427387904,_,_,_,[],by simp only[step,ew]<;>rfl,of_decide_eq_true hp,u1,VT.of1 u2,by simp⟩
theorem O4:∀(ids:List Nat) (H:List ah),(freeze H ids).length=H.length:=by
 intro ids
 induction ids with
 |nil=>intro H;rfl
 |cons id ids ih =>
  intro H
  cases he:H[id]? with
  |none =>
   have e:freeze H (id::ids)=freeze H ids:=by simp only[freeze,List.foldl_cons,he]
   rw[e];exact ih H
  |some o =>
   have e:freeze H (id::ids)=freeze (H.set id { o with fz:=o.es.length }) ids:=by simp only[freeze,List.foldl_cons,he]
   rw[e,ih];simp
theorem UY:∀(ids:List Nat) (h:List XO),(dU h ids).length=h.length:=by
 intro ids
 induction ids with
 |nil=>intro H;rfl
 |cons id ids ih =>
  intro H
  cases he:H[id]? with
  |none =>
   have e:dU H (id::ids)=dU H ids:=by simp only[dU,List.foldl_cons,he]
   rw[e];exact ih H
  |some o =>
   have e:dU H (id::ids)=dU (H.set id (Jq o)) ids:=by simp only[dU,List.foldl_cons,he]
   rw[e,ih];simp
theorem M5(ty sz:Nat)(xs:List Opd):bZ Gl ρ h σ rd tt (.gI ty sz xs):=by
 intro hs hrd p v kl h' hx hp
 simp only[aY]at hx
 split at hx
 case h_2=>cases hx
 rename_i T hT
 split at hx
 case isFalse=>cases hx
 rename_i hz
 have hz:=beq_eq hz
 split at hx
 case h_2=>cases hx
 rename_i ys hys
 cases hx
 obtain⟨bs,k1,k2,k3,k4⟩:=X8 hs hys (yc (Gl:=Gl) (σ:=σ) hrd)
 have u1:=Upd.frz _ hs k4
 obtain⟨u2,u3⟩:=jv (ty:=ty) u1.hs hz k2
 have u:=u1.trans u2 hs.rl
 have hfl:(freeze σ.h (((xs.map rd).flatMap bq).map λid=>ρ.getD id 0)).length=σ.h.length:=O4 _ _
 rw[hfl,UY]at u3
 rw[hfl,<- k3]at u
 refine⟨True,_,_,_,_,by simp only[step,k1,KN hz k2,if_true]<;>rfl,trivial,u,VT.of1 u3,?_⟩
 intro m hm id hid
 simp only[leaves]at hm
 simp only[List.append_nil]at hid
 exact List.all_eq_true.1 hm id hid
theorem uD{T:Ty}:∀{xs:List XV} {ys:List T.den} {as:List AV},uO [] T xs=some ys->au (VT ρ h) xs as->aX H as=some as/\au Wp as (ys.map (Ty.enc T))/\∀a∈as,aR a=[]:=by
 intro xs
 induction xs with
 |nil =>
  intro ys as hx hv
  cases hx
  have:=hv.fK
  subst this
  exact⟨rfl,.nil,by simp⟩
 |cons x xs ih =>
  intro ys as hx hv
  simp only[uO]at hx
  split at hx
  .rename_i z l hz hl
   cases hx
   obtain⟨a,as',rfl,hv1,hv2⟩:=hv.dK
   have hnt:∀vs,x≠.tup vs:=λvs q=>by
    subst q
    cases T<;>simp[toD,lst]at hz
   have hw:=fJ hz (hv1.jC hnt)
   obtain⟨k1,k2⟩:=yV hw H
   obtain⟨i1,i2,i3⟩:=ih hl hv2
   refine⟨by simp only[aX,k1,i1],.cons hw i2,λb hb=>?_⟩
   rcases List.mem_cons.1 hb with rfl|hb
   .exact k2
   .exact i3 b hb
  .cases hx
theorem Pf(ty sz:Nat)(xs:List Opd):bZ Gl ρ h σ rd tt (.sJ ty sz xs):=by
 intro hs hrd p v kl h' hx hp
 simp only[aY]at hx
 split at hx
 case h_2=>cases hx
 rename_i T hT
 split at hx
 case isFalse=>cases hx
 rename_i hz
 have hz:=beq_eq hz
 split at hx
 case h_2=>cases hx
 rename_i ys hys
 cases hx
 obtain⟨k1,k2,k3⟩:=uD (H:=σ.h) hys (yc (Gl:=Gl) (σ:=σ) hrd)
 have hr:(xs.map (σ.val Gl)).all (λa=>(aR a).isEmpty)=true:=List.all_eq_true.2 λa ha=>by rw[k3 a ha];rfl
 refine aG.pure hs (by simp only[step,k1,KN hz k2,hr,Bool.and_self,if_true]<;>rfl) trivial ?_
 rw[<- hz]
 exact .list _ _ _ k2.1 k2.2
theorem Vs(hrd:∀o,VT ρ h (rd o) (σ.val Gl o)):∀(ps:List (Nat×Nat×Opd)) (cs:List XV) (as:List AV) (cs':List XV),au (V1 ρ h) cs as->Dc rd cs ps=some cs'->∃as',iJ Gl σ as ps=some as'/\au (V1 ρ h) cs' as':=by
 intro ps
 induction ps with
 |nil=>intro cs as cs' hc hb;cases hb;exact⟨as,rfl,hc⟩
 |cons p ps ih =>
  intro cs as cs' hc hb
  obtain⟨off,sz,x⟩:=p
  simp only[Dc]at hb
  split at hb
  .rename_i vs hvs
   split at hb
   .rename_i hq
    simp only[Bool.and_eq_true]at hq
    have h1:=beq_eq hq.1
    have h2:=Nat.le_of_ble_eq_true hq.2
    obtain⟨c1,c2⟩:=cells_ok hvs (hrd x)
    obtain⟨as',e1,e2⟩:=ih _ _ cs' (((hc.take off).append c1).append (hc.drop (off+sz))) hb
    refine⟨as',?_,e2⟩
    have hl:(σ.val Gl x).cells.length=sz:=by rw[<- c1.1,h1]
    simp only[iJ,c2,hl,true_and,show off+sz<=as.length from by rw[<- hc.1];exact h2,if_true]
    exact e1
   .cases hb
  .cases hb
theorem Kl(l:List Value):au (V1 ρ h) (l.map vx1) (l.map .v) :=
 ⟨by simp,λi x a p q=>by
  rw[List.getElem?_map]at p q
  cases hv:l[i]? with
  |none=>rw[hv]at p;cases p
  |some v=>rw[hv]at p q;cases p;cases q;exact G6 v⟩
theorem Pb(zero:List Value)(ps:List (Nat×Nat×Opd)):bZ Gl ρ h σ rd tt (.build zero ps):=by
 intro hs hrd p v kl h' hx hp
 simp only[aY]at hx
 split at hx
 .rename_i cs hb
  cases hx
  obtain⟨as,e1,e2⟩:=Vs hrd ps _ _ cs (Kl zero) hb
  exact aG.pure hs (by simp only[step,e1,Option.map_some]<;>rfl) trivial ⟨as,rfl,e2⟩
 .cases hx
theorem KJ(hs:HS ρ h H){ty:Nat}{cs:List XV}{e:AV}{sz:Nat}(hz:cs.length=sz)(hc:au (V1 ρ h) cs e.cells):Upd ρ h H (ρ++[H.length]) (h++[.box ty cs]) (H++[⟨ty,sz,0,false,[e]⟩]) [] []/\V1 (ρ++[H.length]) (h++[.box ty cs]) (.ptr h.length 0 0) (.ptr H.length 1 0 0):=by
 refine⟨Upd.new hs ⟨rfl,hz.symm,rfl,rfl,e,rfl,hc⟩,.box ty cs,by simp,?_⟩
 rw[<- hs.rl,ow];rfl
theorem Xn(ty sz:Nat)(x:Opd):bZ Gl ρ h σ rd tt (.box ty sz x):=by
 intro hs hrd p v kl h' hx hp
 simp only[aY]at hx
 split at hx
 .rename_i cs hcs
  split at hx
  .rename_i hz
   have hz:=beq_eq hz
   cases hx
   obtain⟨c1,c2⟩:=cells_ok hcs (hrd x)
   have hl:(σ.val Gl x).cells.length=sz:=by rw[<- c1.1,hz]
   obtain⟨u1,u2⟩:=KJ (ty:=ty) hs hz c1
   exact⟨True,_,_,_,[],by simp only[step,c2,hl,if_true]<;>rfl,trivial,u1,VT.of1 u2,by simp⟩
  .cases hx
 .cases hx
theorem Po{c:XV}{a:AV}(hc:lV c=true)(hv:V1 ρ h c a):∃z,a=.v z:=by
 unfold lV at hc
 split at hc
 .exact⟨_,Wp.aH hv⟩
 .exact⟨_,Wp.aH hv⟩
 .exact⟨_,Wp.aH hv⟩
 .cases hc
theorem FV{T:Ty}{z:T.den}{a:AV}(hw:Wp a (Ty.enc T z))(hc:(flat T z).all lV=true):a.cells.all kJ=true:=by
 have hf:=CP (ρ:=[]) (h:=[]) hw
 refine List.all_eq_true.2 λc hc9=>?_
 obtain⟨k,hk⟩:=List.getElem?_of_mem hc9
 obtain⟨u,hu1,hu2⟩:=hf.fU hk
 obtain⟨w,rfl⟩:=Po (List.all_eq_true.1 hc u (List.mem_of_getElem? hu1)) hu2
 rfl
theorem Yv(T:Ty):∀x:T.den,(flat T x).all lV=true->∀y:T.den,(flat T y).all lV=true:=by
 refine Ty.rec (motive_1:=λT=>∀x:T.den,(flat T x).all lV=true->∀y:T.den,(flat T y).all lV=true) (motive_2:=λfs=>∀x:Ty.aD fs,(sG fs x).all lV=true->∀y:Ty.aD fs,(sG fs y).all lV=true) ?_ ?_ ?_ ?_ ?_ ?_ ?_ ?_ ?_ ?_ T
 .intro k x _ y;rfl
 .intro x _ y;rfl
 .intro x _ y;rfl
 .intro e _ x h y;cases h
 .intro fs ih x h y;exact ih x h y
 .intro f x h y;cases h
 .intro e _ x h y;cases h
 .intro ty sz x h y;cases h
 .intro x _ y;rfl
 .intro t ts h1 h2 x h y
  simp only[sG,List.all_append,Bool.and_eq_true]at h ⊢
  exact⟨h1 x.1 h.1 y.1,h2 x.2 h.2 y.2⟩
theorem QM(k:IntKind):∀(n:Nat) (z:Ty.aD (List.replicate n (.int k))),(sG (List.replicate n (.int k)) z).all lV=true:=by
 intro n
 induction n with
 |zero=>intro z;rfl
 |succ n ih =>
  intro z
  show(XV.d (.int k) z.1::sG (List.replicate n (.int k)) z.2).all lV=true
  rw[List.all_cons,ih];rfl
theorem BN(k:IntKind):∀n:Nat,Ty.iy (List.replicate n (.int k))=n:=by
 intro n
 induction n with
 |zero=>rfl
 |succ n ih=>show 1+Ty.iy (List.replicate n (.int k))=n+1;rw[ih];omega
theorem Ta(ty sz:Nat)(k:IntKind)(x:Opd):bZ Gl ρ h σ rd tt (.vg ty sz k x):=by
 intro hs hrd p v kl h' hx hp
 simp only[aY]at hx
 split at hx
 case h_2=>cases hx
 rename_i z hz
 split at hx
 case isFalse=>cases hx
 rename_i h2
 cases hx
 have hw:Wp (σ.val Gl x) (Ty.enc (.tup (List.replicate sz (.int k))) z):=fJ (ρ:=ρ) (h:=h) hz (VT.jC (hrd x) (λvs q=>by rw[q]at hz;cases hz))
 obtain⟨us,hus,_⟩:=hw.bB
 have hall:=FV hw (QM k sz z)
 have hl:us.length=sz:=by
  have:=hw.cells.1
  rw[bV,hus]at this
  rw[<- BN k sz]
  exact this
 rw[hus]at hall hw
 have hv:V1 (ρ++[σ.h.length]) (h++[.row ty (.tup (List.replicate sz (.int k))) true [z]]) (.ptr h.length 0 0) (.ptr σ.h.length 1 0 0):=⟨.row ty (.tup (List.replicate sz (.int k))) true [z],by simp,by rw[<- hs.rl,ow];rfl⟩
 refine⟨True,.ptr σ.h.length 1 0 0,σ.h++[⟨ty,sz,1,true,[.agg us]⟩],ρ++[σ.h.length],[],?_,trivial,Upd.new hs ⟨rfl,(BN k sz).symm,rfl,rfl,.cons hw .nil⟩,VT.of1 hv,by simp⟩
 simp only[step,hus]
 rw[if_pos ⟨hl,Nat.le_of_ble_eq_true h2,hall⟩]
theorem G5(v:Value):VT ρ h (vx v) (aW v):=by
 by_cases ha:∃cs,v=.agg cs
 .obtain⟨cs,rfl⟩:=ha;exact⟨_,rfl,Kl cs.toList⟩
 .have e1:vx v=vx1 v:=by cases v<;>first|rfl|exact absurd ⟨_,rfl⟩ ha
  have e2:aW v=.v v:=by cases v<;>first|rfl|exact absurd ⟨_,rfl⟩ ha
  rw[e1,e2];exact VT.of1 (G6 v)
theorem Ro(v:Value):(aW v).cells.length=v.cells.size:=by
 cases v with
 |agg cs=>simp[aW,AV.cells,Value.cells]
 |_=>rfl
theorem Pg(ty:Nat)(zero:Value):bZ Gl ρ h σ rd tt (.alloc ty zero):=by
 intro hs hrd p v kl h' hx hp
 simp only[aY]at hx
 split at hx
 .rename_i cs hcs
  cases hx
  obtain⟨c1,c2⟩:=cells_ok hcs (G5 (ρ:=ρ) (h:=h) zero)
  obtain⟨u1,u2⟩:=KJ (ty:=ty) (sz:=zero.cells.size) hs (by rw[c1.1,Ro]) c1
  exact⟨True,_,_,_,[],by simp only[step]<;>rfl,trivial,u1,VT.of1 u2,by simp⟩
 .cases hx
theorem Fx{n:Int}{b:Nat}(h:sH n b=true):0<=n/\n*b<=fu/\n<=4611686018427387904:=by
 simp only[sH,Bool.and_eq_true,decide_eq_true_eq]at h
 exact⟨h.1.1,h.1.2,h.2⟩
theorem a0u(hs:HS ρ h σ.h){ty sz bytes:Nat}{zero:Value}{n:Opd}{m:Int}{T:Ty}{z:T.den}(hn:σ.val Gl n=.v (.int .i64 m))(hz:T.size=sz)(ht:toD [] T (vx zero)=some z)(hp:sH m bytes=true):aG Gl ρ h σ rd (.mk ty sz bytes zero n) (.row h.length) [] (h++[.row ty T false (List.replicate m.toNat z)]):=by
 have hf:=Fx hp
 have hnt:∀vs,vx zero≠.tup vs:=λvs q=>by
  rw[q]at ht
  cases T<;>simp[toD,lst]at ht
 have hw:=fJ ht (VT.jC (G5 (ρ:=ρ) (h:=h) zero) hnt)
 have hc:au Wp (List.replicate m.toNat (aW zero)) ((List.replicate m.toNat z).map (Ty.enc T)):=by
  rw[List.map_replicate]
  exact⟨by simp,λi x y p q=>by
   have p':=List.eq_of_mem_replicate (List.mem_of_getElem? p)
   have q':=List.eq_of_mem_replicate (List.mem_of_getElem? q)
   subst p' q';exact hw⟩
 obtain⟨u1,u2⟩:=jv (ty:=ty) hs hz hc
 rw[List.length_replicate]at u2
 exact⟨_,_,_,_,[],by simp only[step,hn]<;>rfl,hf,u1,VT.of1 u2,by simp⟩
theorem ZR(ty sz bytes:Nat)(zero:Value)(n:Opd):bZ Gl ρ h σ rd tt (.mk ty sz bytes zero n):=by
 intro hs hrd p v kl h' hx hp
 simp only[aY]at hx
 have hv:=hrd n
 split at hx
 .rename_i T m hT h1
  rw[h1]at hv
  split at hx
  .rename_i hz
   split at hx
   .rename_i z hzz
    cases hx
    exact a0u hs (dH hv) (beq_eq hz) hzz hp
   .cases hx
  .cases hx
 .cases hx
theorem M7(ty sz n:Nat)(zero:Value):bZ Gl ρ h σ rd tt (.alloca ty sz n zero):=by
 intro hs hrd p v kl h' hx hp
 simp only[aY]at hx
 split at hx
 .rename_i T hT
  split at hx
  .rename_i hz
   have hz:=beq_eq hz
   split at hx
   .rename_i z ht
    cases hx
    have hnt:∀vs,vx zero≠.tup vs:=λvs q=>by
     rw[q]at ht
     cases T<;>simp[toD,lst]at ht
    have hw:=fJ ht (VT.jC (G5 (ρ:=ρ) (h:=h) zero) hnt)
    have hc:au Wp (List.replicate n (aW zero)) ((List.replicate n z).map (Ty.enc T)):=by
     rw[List.map_replicate]
     exact⟨by simp,λi x y p q=>by
      have p':=List.eq_of_mem_replicate (List.mem_of_getElem? p)
      have q':=List.eq_of_mem_replicate (List.mem_of_getElem? q)
      subst p' q';exact hw⟩
    obtain⟨u1,u2⟩:=jv (ty:=ty) hs hz hc
    refine⟨True,_,_,_,[],by simp only[step]<;>rfl,trivial,u1,VT.of1 ⟨.row ty T false (List.replicate n z),(show(h++[XO.row ty T false (List.replicate n z)])[h.length]?=_ by simp),?_⟩,by simp⟩
    rw[<- hs.rl,ow]
    simp[XO.len]
   .cases hx
  .cases hx
 .cases hx
theorem Q8 (hs:HS ρ h σ.h) {bsz st n id j:Nat} {x i:Opd} {k:IntKind} {m:Int} {ty:Nat} {T:Ty} {fz:Bool} {es:List T.den} (he:h[id]?=some (.row ty T fz es)) (ha:σ.val Gl x=.ptr (ρ.getD id 0) (XO.len (.row ty T fz es)) j 0) (ei:σ.val Gl i=.v (.int k m)) (hz:T.size=bsz) (hb:0<=m/\m < (n:Int)) :
  aG Gl ρ h σ rd (.jf bsz st n x i) (.ptr id (j+m.toNat*st) 0) [] h:=by
 obtain⟨O,hO,o1,o2,_⟩:=hs.hr id _ he
 exact aG.pure hs (q:=0<=m/\m<(n:Int)) (a:=.ptr (ρ.getD id 0) (XO.len (.row ty T fz es)) (j+m.toNat*st) 0) (by simp only[step,ha,ei,hO];rw[if_pos ⟨trivial,by rw[o2];exact hz⟩]) hb ⟨_,he,rfl⟩
theorem MO (hs:HS ρ h σ.h) {n id j o:Nat} {x i:Opd} {k:IntKind} {m:Int} {ty:Nat} {T:Ty} {fz:Bool} {es:List T.den} (he:h[id]?=some (.row ty T fz es)) (ha:σ.val Gl x=.ptr (ρ.getD id 0) (XO.len (.row ty T fz es)) j o) (ei:σ.val Gl i=.v (.int k m)) (hz:o=0->T.size=1->False) (hb:0<=m/\m < (n:Int)) :
  aG Gl ρ h σ rd (.jf 1 1 n x i) (.ptr id j (o+m.toNat)) [] h:=by
 obtain⟨O,hO,o1,o2,_⟩:=hs.hr id _ he
 exact aG.pure hs (q:=0<=m/\m<(n:Int)) (a:=.ptr (ρ.getD id 0) (XO.len (.row ty T fz es)) j (o+m.toNat)) (by simp only[step,ha,ei,hO];rw[if_neg (by rw[o2];rintro⟨q1,q2⟩;exact hz q1 q2),if_pos ⟨trivial,trivial⟩]) hb ⟨_,he,rfl⟩
theorem Hg{T:Ty}:∀{fs:List Ty} {x:Ty.aD fs} {xs:List T.den},Dw T fs x=some xs->Ty.bM fs x=xs.flatMap λy=>(Ty.enc T y).cells:=by
 intro fs
 induction fs with
 |nil=>intro x xs h;cases h;rfl
 |cons t ts ih =>
  intro x xs h
  simp only[Dw]at h
  split at h
  .rename_i a l ha hl
   cases h
   obtain⟨e,rfl⟩:=dR ha
   subst e
   simp only[Ty.bM,List.flatMap_cons,ih hl]
  .cases h
theorem Js{α β:Type}(f:α->List β)(k:Nat)(hk:∀x,(f x).length=k):∀(xs:List α) (m:Nat) (hm:m<xs.length),((xs.flatMap f).drop (m*k)).take k=f xs[m]:=by
 intro xs
 induction xs with
 |nil=>intro m hm;simp at hm
 |cons x xs ih =>
  intro m hm
  rw[List.flatMap_cons]
  cases m with
  |zero=>simp[hk x]
  |succ m =>
   have e:(f x++xs.flatMap f).drop ((m+1)*k)=(xs.flatMap f).drop (m*k):=by
    rw[List.drop_append,List.drop_eq_nil_of_le (by rw[hk x,Nat.add_mul,Nat.one_mul];omega),List.nil_append,hk x]
    congr 1
    rw[Nat.add_mul,Nat.one_mul];omega
   rw[e]
   exact ih m (by simpa using hm)
theorem Ph(bsz st n:Nat)(x i:Opd):bZ Gl ρ h σ rd tt (.jf bsz st n x i):=by
 intro hs hrd p v kl h' hx hp
 simp only[aY]at hx
 have hv:=hrd x
 have hi:=hrd i
 split at hx
 .rename_i id j o k m h1 h2
  rw[h1]at hv;rw[h2]at hi
  have ei:=dH hi
  obtain⟨ob,he,ha⟩:=hv
  rw[he]at hx
  split at hx
  .rename_i ty T fz es hq
   cases hq
   split at hx
   .rename_i hz
    simp only[Bool.and_eq_true]at hz
    have h0:=beq_eq hz.1
    subst h0
    cases hx
    exact Q8 hs he ha ei (beq_eq hz.2) (kI hp)
   .rename_i hz
    split at hx
    .rename_i h11
     simp only[Bool.and_eq_true]at h11
     have e1:=beq_eq h11.1
     have e2:=beq_eq h11.2
     subst e1 e2
     cases hx
     exact MO hs he ha ei (λq1 q2=>hz (by rw[q1,q2];rfl)) (kI hp)
    .cases hx
  .cases hx
 .rename_i T ts y o k m h1 h2
  rw[h1]at hv;rw[h2]at hi
  have ei:=dH hi
  split at hx
  case h_2=>cases hx
  rename_i xs hxs
  split at hx
  case isFalse=>cases hx
  rename_i hz
  simp only[Bool.and_eq_true]at hz
  obtain⟨⟨⟨z1,z2⟩,z3⟩,z4⟩:=hz
  have z1:=beq_eq z1
  have z2:=beq_eq z2
  have z3:=beq_eq z3
  have z4:=beq_eq z4
  subst z1;subst z3
  cases hx
  have hb:=kI hp
  obtain⟨cs,ha,hc⟩:=hv
  rw[List.drop_zero]at hc
  have hm:m.toNat<xs.length:=by omega
  have e1:atI xs m T.dflt=xs[m.toNat]:=by
   show xs.getD m.toNat _=_
   simp[List.getD,List.getElem?_eq_getElem hm]
  refine aG.pure hs (by simp only[step,ha,ei]<;>rfl) hb ⟨_,rfl,?_⟩
  rw[List.drop_zero,e1]
  have hq:=(hc.drop (m.toNat*T.size)).take T.size
  have e2:(Ty.enc (.tup (T::ts)) y).cells=xs.flatMap λx=>(Ty.enc T x).cells:=Hg hxs
  rw[e2,Js (λx=>(Ty.enc T x).cells) T.size (λx=>bV T x) xs m.toNat hm]at hq
  rw[Nat.one_mul,<- z2]
  exact hq
 .cases hx
theorem U8 (hs:HS ρ h σ.h) {n:Nat} {x i:Opd} {k:IntKind} {m:Int} {T:Ty} {ts:List Ty} {y:Ty.aD (T :: ts)} {xs:List T.den} (hv:Wp (σ.val Gl x) (.agg (Ty.bM (T :: ts) y))) (ei:σ.val Gl i=.v (.int k m)) (hxs:Dw T (T :: ts) y=some xs) (z2:xs.length=n) (hb:0<=m/\m < (n:Int)) :
  aG Gl ρ h σ rd (.rV T.size T.dL n x i) (.d T (atI xs m T.dflt)) [] h:=by
 obtain⟨cs,ha,hc⟩:=Wp.bB hv
 have hm:m.toNat<xs.length:=by omega
 have e1:atI xs m T.dflt=xs[m.toNat]:=by
  show xs.getD m.toNat _=_
  simp[List.getD,List.getElem?_eq_getElem hm]
 have e2:Ty.bM (T::ts) y=xs.flatMap λx=>(Ty.enc T x).cells:=Hg hxs
 have hlen:cs.length=n*T.size:=by
  rw[hc.1,e2,List.length_flatMap,<- z2]
  have:∀l:List T.den,(l.map λx=>(Ty.enc T x).cells.length).sum=l.length*T.size:=by
   intro l
   induction l with
   |nil=>simp
   |cons a l ih=>rw[List.map_cons,List.sum_cons,ih,bV,List.length_cons,Nat.add_mul,Nat.one_mul,Nat.add_comm]
  exact this xs
 have hq:=(hc.drop (m.toNat*T.size)).take T.size
 rw[e2,Js (λx=>(Ty.enc T x).cells) T.size (λx=>bV T x) xs m.toNat hm]at hq
 rcases iB (T:=T) (x:=xs[m.toNat]) with⟨t1,es,t2⟩|⟨t1,t2⟩
 .rw[t1]
  refine aG.pure hs (q:=0<=m/\m<(n:Int)) (a:=.agg ((cs.drop (m.toNat*T.size)).take T.size)) (by simp only[step,ha,ei,hlen,if_true]<;>rfl) hb ?_
  rw[e1]
  show Wp _ _
  rw[t2]at hq ⊢
  exact .agg _ _ hq.1 hq.2
 .rw[t1]
  have hsz:T.size=1:=by
   have:=bV T xs[m.toNat]
   rw[t2.cells]at this
   exact this.symm
  have hlt:m.toNat*T.size<cs.length:=by rw[hlen,hsz];omega
  refine aG.pure hs (q:=(0<=m/\m<(n:Int))/\m.toNat*T.size<cs.length) (a:=cs.getD (m.toNat*T.size) .any) (by simp only[step,ha,ei,hlen,if_true,Bool.false_eq_true,if_false]<;>rfl) ⟨hb,hlt⟩ ?_
  rw[e1]
  show Wp _ _
  rw[t2.cells]at hq
  have h0:((cs.drop (m.toNat*T.size)).take T.size)[0]?=some (cs.getD (m.toNat*T.size) .any):=by
   rw[List.getElem?_take,if_pos (by omega),List.getElem?_drop,Nat.add_zero]
   simp[List.getD,List.getElem?_eq_getElem hlt]
  exact hq.2 0 _ _ h0 rfl
theorem Q7 (hs:HS ρ h σ.h) {n:Nat} {x i:Opd} {k:IntKind} {m:Int} {cs:List XV} {c:XV} (hv:VA ρ h (.agg cs) (σ.val Gl x)) (ei:σ.val Gl i=.v (.int k m)) (z3:cs.length=n) (hc1:cs[m.toNat]?=some c) (hb:0<=m/\m < (n:Int)) :
  aG Gl ρ h σ rd (.rV 1 false n x i) c [] h:=by
 obtain⟨as,ha,hc⟩:=hv
 obtain⟨b,hb1,hb2⟩:=hc.eD hc1
 have hlt:m.toNat*1<as.length:=by rw[Nat.mul_one];exact(List.getElem?_eq_some_iff.1 hb1).1
 have hl:as.length=n*1:=by rw[<- hc.1,z3,Nat.mul_one]
 refine aG.pure hs (q:=(0<=m/\m<(n:Int))/\m.toNat*1<as.length) (a:=as.getD (m.toNat*1) .any) (by simp only[step,ha,ei,hl,if_true,Bool.false_eq_true,if_false]<;>rfl) ⟨hb,hlt⟩ ?_
 rw[Nat.mul_one]
 have:as.getD m.toNat .any=b:=by simp[List.getD,hb1]
 rw[this]
 exact VT.of1 hb2
theorem Te(sz:Nat)(ag:Bool)(n:Nat)(x i:Opd):bZ Gl ρ h σ rd tt (.rV sz ag n x i):=by
 intro hs hrd p v kl h' hx hp
 simp only[aY]at hx
 have hv:=hrd x
 have hi:=hrd i
 split at hx
 .rename_i T ts y k m h1 h2
  rw[h1]at hv;rw[h2]at hi
  have ei:=dH hi
  split at hx
  case h_2=>cases hx
  rename_i xs hxs
  split at hx
  case isFalse=>cases hx
  rename_i hz
  simp only[Bool.and_eq_true]at hz
  obtain⟨⟨z1,z2⟩,z3⟩:=hz
  have z1:=beq_eq z1
  have z2:=beq_eq z2
  have z3:ag=T.dL:=by simpa using z3
  subst z1;subst z3
  cases hx
  exact U8 hs hv ei hxs z2 (kI hp)
 .rename_i cs k m h1 h2
  rw[h1]at hv;rw[h2]at hi
  have ei:=dH hi
  split at hx
  case isFalse=>cases hx
  rename_i hz
  simp only[Bool.and_eq_true,Bool.not_eq_true']at hz
  obtain⟨⟨z1,z2⟩,z3⟩:=hz
  have z1:=beq_eq z1
  have z3:=beq_eq z3
  subst z1;subst z2
  split at hx
  case h_2=>cases hx
  rename_i c hc1
  cases hx
  exact Q7 hs hv ei z3 hc1 (kI hp)
 .cases hx
theorem Tc(n:Nat)(x:Opd)(lo hi:Option Opd):bZ Gl ρ h σ rd tt (.om n x lo hi):=by
 intro hs hrd p v kl h' hx hp
 simp only[aY]at hx
 have hv:=hrd x
 split at hx
 case h_2=>cases hx
 rename_i id i o h1
 rw[h1]at hv
 obtain⟨ob,he,ha⟩:=hv
 rw[he]at hx
 cases ob with
 |row ty T fz es=>cases hx
 |vec ty cs=>cases hx
 |map ty K V es=>cases hx
 |box ty cs =>
  simp only at hx
  split at hx
  case h_2=>cases hx
  rename_i T hT
  split at hx
  case h_2=>cases hx
  rename_i z ys p' l u hz hys hc
  split at hx
  case isFalse=>cases hx
  rename_i hb
  simp only[Bool.and_eq_true]at hb
  obtain⟨⟨⟨b1,b2⟩,b3⟩,b4⟩:=hb
  have b1:=beq_eq b1
  have b2:=Nat.le_of_ble_eq_true b2
  have b3:=Nat.le_of_ble_eq_true b3
  subst b1
  cases hx
  obtain⟨O,hO,o1,o2,o3,o4,e,o5,hcs⟩:=hs.hr id _ he
  have hlen:O.es.length=1:=by rw[o5];rfl
  have hel:e.cells.length=cs.length:=hcs.1.symm
  have hagg:∃us,e=.agg us:=by
   cases e with
   |agg us=>exact⟨us,rfl⟩
   |_=>exact absurd hel (by show ¬(1=cs.length);omega)
  obtain⟨us,rfl⟩:=hagg
  have hcs:au (V1 ρ h) cs us:=hcs
  have hall:O.es.all (λe=>e.cells.all kJ)=true:=by
   rw[o5]
   simp only[List.all_cons,List.all_nil,Bool.and_true]
   refine List.all_eq_true.2 λa hq9=>?_
   obtain⟨k,hk⟩:=List.getElem?_of_mem hq9
   have hk:us[k]?=some a:=hk
   obtain⟨c,hc1,hc2⟩:=hcs.fU hk
   obtain⟨w,rfl⟩:=Po (List.all_eq_true.1 b4 c (List.mem_of_getElem? hc1)) hc2
   rfl
  have hw:Wp (.agg us) (Ty.enc T z):=fJ (ρ:=ρ) (h:=h) (x:=.agg cs) hz ⟨us,rfl,hcs⟩
  have hTs:cs.length=T.size:=by
   have:=hw.cells.1
   rw[bV]at this
   rw[hcs.1];exact this
  obtain⟨q1,q2⟩:=lC hrd hc hp
  have hu:=(kL q1).1
  have hq3:0<=l/\l<=u/\u<=(n:Int):=by rw[<- hu];exact q2
  have hyl:au Wp ((us.drop o).take n) (ys.map (Ty.enc (.int .i64))):=by
   have hvt:au (VT ρ h) ((cs.drop o).take n) ((us.drop o).take n):=((hcs.drop o).take n).mono λ_ _ q=>VT.of1 q
   exact(uD (H:=σ.h) hys hvt).2.1
  refine⟨(0<=l/\l<=u/\u<=(n:Int))/\o+n<=O.sz/\0<1,.list 1 ((((O.es.getD 0 .any).cells.drop o).take u.toNat).drop l.toNat),σ.h.set (ρ.getD id 0) { O with pr:=true,fz:=O.es.length },ρ,[id],by simp only[step,ha,hO,XO.len,hlen,hall,and_self,if_true,q1,Option.map_some]<;>rfl,⟨q2,by rw[o2];exact b3,by omega⟩,Upd.set hs he rfl ⟨o1,by rw[o2,hTs],rfl,by simp[hlen],?_⟩,?_,?_⟩
  .rw[o5];exact .cons hw .nil
  .show Wp _ _
   have e0:(O.es.getD 0 .any).cells=us:=by rw[o5];rfl
   rw[e0]
   have e1:((us.drop o).take u.toNat)=(((us.drop o).take n).take u.toNat):=by rw[List.take_take,Nat.min_eq_left (by omega)]
   rw[e1]
   have:=Ba (e:=.int .i64) (l:=l) (u:=u) hyl
   exact .list _ _ _ this.1 this.2
  .intro ok hok id' hid
   simp only[leaves,h1]at hok
   simp only[List.mem_singleton]at hid
   subst hid
   exact hok
theorem M6(bsz n:Nat)(x:Opd)(lo hi:Option Opd):bZ Gl ρ h σ rd tt (.aslice bsz n x lo hi):=by
 intro hs hrd p v kl h' hx hp
 simp only[aY]at hx
 have hv:=hrd x
 split at hx
 .rename_i id j o h1
  rw[h1]at hv
  obtain⟨ob,he,ha⟩:=hv
  rw[he]at hx
  split at hx
  .rename_i ty T fz es hq
   cases hq
   split at hx
   .rename_i hz
    simp only[Bool.and_eq_true]at hz
    have h0:=beq_eq hz.1.1
    have h00:=beq_eq hz.2
    subst h0 h00
    split at hx
    .rename_i p l u hc
     cases hx
     simp only[Bool.and_eq_true]at hp
     obtain⟨k1,k2⟩:=lC hrd hc hp.1
     obtain⟨O,hO,o1,o2,_⟩:=hs.hr id _ he
     have hle:n<=es.length:=of_decide_eq_true hp.2
     refine aG.pure hs (q:=(0<=l/\l<=u/\u<=(n:Int))/\0+n<=XO.len (.row ty T fz es)) (a:=.row (ρ.getD id 0) (XO.len (.row ty T fz es)) bsz (0+l.toNat) (u-l).toNat) (by simp only[step,ha,hO];rw[if_pos ⟨trivial,by rw[o2];exact beq_eq hz.1.2⟩,k1];rfl) ⟨k2,by simp only[XO.len];omega⟩ ⟨_,_,_,_,he,by rw[beq_eq hz.1.2,Nat.zero_add];rfl⟩
    .cases hx
   .split at hx
    case isFalse=>cases hx
    rename_i hz
    simp only[Bool.and_eq_true]at hz
    obtain⟨⟨⟨⟨b1,b2⟩,b3⟩,b4⟩,b5⟩:=hz
    have b1:=beq_eq b1
    have b2:=Nat.le_of_ble_eq_true b2
    have b4:=Nat.le_of_ble_eq_true b4
    subst b1 b3
    split at hx
    case h_2=>cases hx
    rename_i ys p' l u hys hc
    cases hx
    simp only[Bool.and_eq_true]at hp
    obtain⟨p1,p2⟩:=hp
    have hj:j<es.length:=of_decide_eq_true p2
    obtain⟨O,hO,o1,o2,o3,o4,o5⟩:=hs.hr id _ he
    have hOl:O.es.length=es.length:=by have:=o5.1;simpa using this
    have hgd:∀k,k<es.length->Wp (O.es.getD k .any) (Ty.enc T (es.getD k T.dflt)):=λk hk=>by
     have:=o5.getD (n:=k) (by simpa using hk) .any (Ty.enc T T.dflt)
     rw[List.getD_eq_getElem?_getD (l:=es.map _),List.getElem?_map]at this
     rw[List.getD_eq_getElem?_getD (l:=es)]
     rw[List.getElem?_eq_getElem hk]at this ⊢
     exact this
    have hw:=hgd j hj
    have hall:O.es.all (λe=>e.cells.all kJ)=true:=by
     refine List.all_eq_true.2 λa ha9=>?_
     obtain⟨k,hk⟩:=List.getElem?_of_mem ha9
     have hkl:k<es.length:=by rw[<- hOl];exact(List.getElem?_eq_some_iff.1 hk).1
     have e1:O.es.getD k .any=a:=by rw[List.getD_eq_getElem?_getD,hk];rfl
     have:=hgd k hkl
     rw[e1]at this
     refine FV this ?_
     exact Yv T (es.getD j T.dflt) b5 _
    obtain⟨q1,q2⟩:=lC hrd hc p1
    have hu:=(kL q1).1
    have hq3:0<=l/\l<=u/\u<=(n:Int):=by rw[<- hu];exact q2
    have hyl:au Wp (((O.es.getD j .any).cells.drop o).take n) (ys.map (Ty.enc (.int .i64))):=by
     have hvt:au (VT ρ h) (((flat T (es.getD j T.dflt)).drop o).take n) (((O.es.getD j .any).cells.drop o).take n):=(((CP hw).drop o).take n).mono λ_ _ q=>VT.of1 q
     exact(uD (H:=σ.h) hys hvt).2.1
    refine aG.pure hs (q:=(0<=l/\l<=u/\u<=(n:Int))/\o+n<=O.sz/\j<XO.len (.row ty T true es)) (a:=.list 1 ((((O.es.getD j .any).cells.drop o).take u.toNat).drop l.toNat)) ?_ ⟨q2,by rw[o2];exact b4,hj⟩ ?_
    .simp only[step,ha,hO]
     rw[if_neg (by rw[o2];rintro⟨_,q⟩;omega),if_pos ⟨trivial,hOl,hall,o3,by rw[o4,hOl];rfl⟩,q1]
     rfl
    .show Wp _ _
     have e1:(((O.es.getD j .any).cells.drop o).take u.toNat)=((((O.es.getD j .any).cells.drop o).take n).take u.toNat):=by rw[List.take_take,Nat.min_eq_left (by omega)]
     rw[e1]
     have:=Ba (e:=.int .i64) (l:=l) (u:=u) hyl
     exact .list _ _ _ this.1 this.2
  .cases hx
 .cases hx
theorem Iw (hs:HS ρ h σ.h) {id ty off len sz:Nat} {T:Ty} {es ys:List T.den} {d s:Opd} (he:h[id]?=some (.row ty T false es)) (ha:σ.val Gl d=.row (ρ.getD id 0) es.length T.size off len) (hz:T.size=sz)
  (hv:VT ρ h (rd s) (σ.val Gl s)) (hy:qY h T (rd s)=some ys) (hl:off+len<=es.length):aG Gl ρ h σ rd (.copy sz d s) (.d (.int .i64) ((min ys.length len:Nat):Int)) [] (h.set id (.row ty T false (cpy es off len ys))):=by
 obtain⟨as,e1,e2⟩:=wQ hs hz hy hv
 obtain⟨O,hO,o1,o2,o3,o4,o5⟩:=hs.hr id _ he
 have hal:as.length=ys.length:=by rw[e2.1,List.length_map]
 have hol:O.es.length=es.length:=by have:=o5.1;simpa using this
 have htl:(as.take len).length=(ys.take len).length:=by simp[hal]
 have hR:au Wp (O.es.take off++as.take len++O.es.drop (off+(as.take len).length)) ((cpy es off len ys).map (Ty.enc T)):=by
  unfold cpy
  rw[List.map_append,List.map_append,List.map_take,List.map_take,List.map_drop,htl]
  exact((o5.take off).append (e2.take len)).append (o5.drop _)
 have hlen:(cpy es off len ys).length=es.length:=by
  unfold cpy
  simp only[List.length_append,List.length_take,List.length_drop]
  omega
 have hu:=Upd.set hs (o':=.row ty T false (cpy es off len ys)) (O':={ O with es:=O.es.take off++as.take len++O.es.drop (off+(as.take len).length) }) he (by simp[lW,hlen]) ⟨o1,o2,o3,by rw[o4];simp,hR⟩
 refine⟨O.fz<=off,.v (.int .i64 ((min as.length len:Nat):Int)),_,ρ,[id],?_,?_,hu,?_,?_⟩
 .simp only[step,e1,ha,hO]
  rw[if_pos ⟨hol,hz,by rw[o2,hz],o3,by simpa using o4⟩]
 .rw[o4];simp
 .rw[hal];exact Du (.refl _)
 .intro m hm;cases hm
theorem SX(sz:Nat)(d s:Opd):bZ Gl ρ h σ rd tt (.copy sz d s):=by
 intro hs hrd p v kl h' hx hp
 simp only[aY]at hx
 have hv:=hrd d
 split at hx
 .rename_i id off len h1
  rw[h1]at hv
  obtain⟨ty,T,fz,es,he,ha⟩:=hv
  rw[he]at hx
  simp only at hx
  split at hx
  .rename_i ys hy
   split at hx
   .rename_i hz
    cases hx
    exact Iw hs he ha (beq_eq hz) (hrd s) hy (of_decide_eq_true hp)
   .cases hx
  .cases hx
 .rename_i id h1
  rw[h1]at hv
  obtain⟨ty,T,fz,es,he,ha⟩:=hv
  rw[he]at hx
  simp only at hx
  split at hx
  .rename_i ys hy
   split at hx
   .rename_i hz
    cases hx
    exact Iw hs he ha (beq_eq hz) (hrd s) hy (by omega)
   .cases hx
  .cases hx
 .cases hx
theorem a1h{x:XV}{a:AV}(hk:okX x=true)(hv:VT ρ h x a):st1 false a=true/\a.cells=[a]/\V1 ρ h x a:=by
 have hv1:V1 ρ h x a:=by cases x<;>first|exact hv|(cases hk;done)
 obtain⟨c1,c2⟩:=LZ hv1 hk
 exact⟨c1,c2,hv1⟩
theorem T9(ty:Nat)(xs:List Opd):bZ Gl ρ h σ rd tt (.uZ ty xs):=by
 intro hs hrd p v kl h' hx hp
 simp only[aY]at hx
 split at hx
 case isFalse=>cases hx
 rename_i hall
 cases hx
 have hone:∀x∈xs,st1 false (σ.val Gl x)=true/\(σ.val Gl x).cells=[σ.val Gl x]/\V1 ρ h (rd x) (σ.val Gl x):=λx hxm =>
  a1h (List.all_eq_true.1 hall _ (List.mem_map.2 ⟨x,hxm,rfl⟩)) (hrd x)
 have hst:(xs.map (σ.val Gl)).all (st1 false)=true:=List.all_eq_true.2 λa ha=>by
  obtain⟨x,hxm,rfl⟩:=List.mem_map.1 ha
  exact(hone x hxm).1
 have hO:mW ρ h (.vec ty (xs.map rd)) ⟨ty,1,0,false,xs.map (σ.val Gl)⟩:=by
  refine⟨rfl,rfl,rfl,rfl,by simp,λi c e q q'=>?_⟩
  rw[List.getElem?_map]at q q'
  cases hi:xs[i]? with
  |none=>rw[hi]at q;cases q
  |some x =>
   rw[hi]at q q'
   cases q;cases q'
   exact(hone x (List.mem_of_getElem? hi)).2
 refine⟨True,.row σ.h.length xs.length 1 0 xs.length,_,ρ++[σ.h.length],[],by simp only[step,hst,if_true]<;>rfl,trivial,Upd.new hs hO,?_,λ_ _ _ q=>by simp at q⟩
 refine VT.of1 ⟨ty,xs.map rd,by show(h++_)[h.length]?=_;simp,?_⟩
 rw[<- hs.rl,ow];simp
theorem AY(k:IntKind):∀(n:Nat) (x:Ty.aD (List.replicate n (.int k))),(Ty.bM (List.replicate n (.int k)) x).length=n/\(Ty.bM (List.replicate n (.int k)) x).all (okI k)=true
 |0,_=>⟨rfl,rfl⟩
 |n+1,x=>by
  obtain⟨h1,h2⟩:=AY k n x.2
  have e:Ty.bM (List.replicate (n+1) (.int k)) x=.v (.int k x.1)::Ty.bM (List.replicate n (.int k)) x.2:=rfl
  rw[e]
  exact⟨by simp[h1],by simp only[List.all_cons,h2,Bool.and_true];simp[okI]⟩
theorem Dr{k:IntKind}:∀{as bs:List AV},au Wp as bs->bs.all (okI k)=true->as=bs:=by
 intro as
 induction as with
 |nil=>intro bs h _;rw[h.fK]
 |cons a as ih =>
  intro bs h ho
  obtain⟨b,bs',rfl,h1,h2⟩:=h.dK
  simp only[List.all_cons,Bool.and_eq_true]at ho
  rw[ih h2 ho.2]
  congr 1
  cases b<;>first|(cases ho.1;done)|exact h1.aH
theorem Jz(k:IntKind):∀(n:Nat) (x y:Ty.aD (List.replicate n (.int k))),kZ (Ty.bM (List.replicate n (.int k)) x) (Ty.bM (List.replicate n (.int k)) y)=V7 (List.replicate n (.int k)) x y
 |0,_,_=>rfl
 |n+1,x,y=>by
  have e:∀x,Ty.bM (List.replicate (n+1) (.int k)) x=.v (.int k x.1)::Ty.bM (List.replicate n (.int k)) x.2:=λ_=>rfl
  rw[e,e]
  have ih:=Jz k n x.2 y.2
  show(eqC _ _&&kZ _ _)=_
  rw[ih]
  rfl
theorem J8{kt:KT}{K V:Ty}(hm:qw kt K V=true){key:K.den}{a:AV}(hw:Wp a (Ty.enc K key)):a=Ty.enc K key/\kt.ok a.cells=true/\O7 a=true/\a.cells.length=kt.n:=by
 simp only[qw,Bool.and_eq_true]at hm
 obtain rfl:=Ty.same_eq hm.1.1
 cases kt with
 |int k =>
  have e:a=.v (.int k key):=hw.aH
  subst e
  exact⟨rfl,by simp[AV.cells,KT.ok,okI],rfl,rfl⟩
 |str =>
  have e:a=.v (.string key):=hw.aH
  subst e
  exact⟨rfl,rfl,rfl,rfl⟩
 |arr n k =>
  have h1:Nat.beq n 1=false:=by simpa using hm.2
  obtain⟨as,rfl,hc⟩:=Wp.bB hw
  obtain⟨l1,l2⟩:=AY k n key
  obtain rfl:=Dr hc l2
  refine⟨rfl,?_,?_,l1⟩
  .show(Nat.beq (Ty.bM (List.replicate n (.int k)) key).length n&&(Ty.bM (List.replicate n (.int k)) key).all (okI k))=true
   rw[l1,l2];simp
  .show(!(Nat.beq (Ty.bM (List.replicate n (.int k)) key).length 1))=true
   rw[l1,h1];rfl
theorem key_eq{kt:KT}{K V:Ty}(hm:qw kt K V=true)(x y:K.den):kZ (Ty.enc K x).cells (Ty.enc K y).cells=eqT K x y:=by
 simp only[qw,Bool.and_eq_true]at hm
 obtain rfl:=Ty.same_eq hm.1.1
 cases kt with
 |int k=>show(eqC (.v (.int k x)) (.v (.int k y))&&true)=_;rw[Bool.and_true];rfl
 |str=>show(eqC (.v (.string x)) (.v (.string y))&&true)=_;rw[Bool.and_true];rfl
 |arr n k=>exact Jz k n x y
theorem IJ{V:Ty}(hV:V.dL=false)(v:V.den):(Ty.enc V v).cells=[Ty.enc V v]:=by
 rcases iB (x:=v) with⟨h,_⟩|⟨_,h⟩
 .rw[hV]at h;cases h
 .exact h.cells
theorem a2L{V:Ty}(hV:V.dL=false){v:V.den}{a:AV}(hw:Wp a (Ty.enc V v)):Pl1 a:=by
 rcases iB (x:=v) with⟨h,_⟩|⟨_,h⟩
 .rw[hV]at h;cases h
 .exact h.of_wp hw
theorem a2j{kt:KT}{K V:Ty}(hm:qw kt K V=true){x:Ty.den (.tup [K,V])}{e:AV}(hw:Wp e (Ty.enc (.tup [K,V]) x)):∃b,e=.agg ((Ty.enc K x.1).cells++[b])/\Wp b (Ty.enc V x.2.1)/\(Ty.enc K x.1).cells.length=kt.n/\kt.uK e=true:=by
 obtain⟨_,k2,_,k4⟩:=J8 (V:=V) hm (.refl (Ty.enc K x.1))
 have hV:V.dL=false:=by simp only[qw,Bool.and_eq_true]at hm;simpa using hm.1.2
 have hK:∀as bs,au Wp as ((Ty.enc K x.1).cells++bs)->∃cs,as=(Ty.enc K x.1).cells++cs/\au Wp cs bs:=by
  intro as bs h
  have h1:=h.take kt.n
  have h2:=h.drop kt.n
  rw[<- k4,List.take_left',List.drop_left']at *<;>try rfl
  have e1:as.take (Ty.enc K x.1).cells.length=(Ty.enc K x.1).cells:=by
   simp only[qw,Bool.and_eq_true]at hm
   obtain rfl:=Ty.same_eq hm.1.1
   cases kt with
   |int k=>exact Dr (k:=k) h1 (by simp[Ty.enc,KT.ty,AV.cells,okI])
   |str =>
    obtain⟨a,as',e,q1,q2⟩:=h1.cons_right
    have q2:=q2.qW
    subst q2
    rw[e]
    have q1:=Wp.aH q1
    rw[q1];rfl
   |arr n k=>exact Dr (k:=k) h1 (AY k n x.1).2
  exact⟨as.drop (Ty.enc K x.1).cells.length,by conv=>lhs;rw[<- List.take_append_drop (Ty.enc K x.1).cells.length as,e1],h2⟩
 obtain⟨as,rfl,hc⟩:=Wp.bB hw
 have hc:au Wp as ((Ty.enc K x.1).cells++((Ty.enc V x.2.1).cells++[])):=hc
 obtain⟨cs,rfl,h2⟩:=hK _ _ hc
 rw[IJ hV,List.append_nil]at h2
 obtain⟨b,cs',rfl,h3,h4⟩:=h2.cons_right
 have:=h4.qW
 subst this
 refine⟨b,rfl,h3,k4,?_⟩
 simp only[KT.uK,Bool.and_eq_true]
 refine⟨by simp[k4],?_⟩
 rw[<- k4,List.take_left']
 .exact k2
 .rfl
theorem R5{K V:Ty}(hV:V.dL=false)(k:K.den){v:V.den}{b:AV}(hb:Wp b (Ty.enc V v)):Wp (.agg ((Ty.enc K k).cells++[b])) (Ty.enc (.tup [K,V]) (k,v,())):=by
 have e:Ty.enc (.tup [K,V]) (k,v,())=.agg ((Ty.enc K k).cells++[Ty.enc V v]):=by
  show AV.agg ((Ty.enc K k).cells++((Ty.enc V v).cells++[]))=_
  rw[IJ hV,List.append_nil]
 rw[e]
 have:=(au.rfl' Wp.refl (Ty.enc K k).cells).append (au.cons hb .nil)
 exact .agg _ _ this.1 this.2
def mF(K V:Ty)(key:K.den)(es:List (Ty.den (.tup [K,V]))):Option V.den:=Nb (α:=K.den) (β:=V.den) (eqT K) key es
def mP(K V:Ty)(key:K.den)(v:V.den)(es:List (Ty.den (.tup [K,V]))):List (Ty.den (.tup [K,V])):=DV (α:=K.den) (β:=V.den) (eqT K) key v es
theorem yg {kt:KT} {K V:Ty} (hm:qw kt K V=true) (key:K.den) {v:V.den} {b:AV} (hb:Wp b (Ty.enc V v)):∀ (es:List (Ty.den (.tup [K,V]))) (os:List AV) (i:Nat),au Wp os (es.map (Ty.enc (.tup [K,V]))) ->
  os.all kt.uK=true/\match jE kt.n (Ty.enc K key).cells os i with
   |none=>mF K V key es=none/\au Wp (os++[.agg ((Ty.enc K key).cells++[b])]) ((mP K V key v es).map (Ty.enc (.tup [K,V])))
   |some (j,a)=>i<=j/\(∃u,mF K V key es=some u/\Wp a (Ty.enc V u))/\au Wp (os.set (j-i) (.agg ((Ty.enc K key).cells++[b]))) ((mP K V key v es).map (Ty.enc (.tup [K,V])))
 |[],os,i,h=>by
  have:=h.qW
  subst this
  have hV:V.dL=false:=by simp only[qw,Bool.and_eq_true]at hm;simpa using hm.1.2
  exact⟨rfl,rfl,.cons (R5 hV key hb) .nil⟩
 |x::es,os,i,h=>by
  have hV:V.dL=false:=by simp only[qw,Bool.and_eq_true]at hm;simpa using hm.1.2
  obtain⟨o,os',rfl,h1,h2⟩:=h.cons_right
  obtain⟨c,rfl,k1,k2,k3⟩:=a2j hm h1
  obtain⟨m1,m2⟩:=yg hm key hb es os' (i+1) h2
  refine⟨by simp only[List.all_cons,m1,k3,Bool.and_true],?_⟩
  have ht:((Ty.enc K x.1).cells++[c]).take kt.n=(Ty.enc K x.1).cells:=by rw[<- k2,List.take_left'];rfl
  have hg:((Ty.enc K x.1).cells++[c]).getD kt.n .any=c:=by rw[<- k2];simp[List.getD]
  have fe:jE kt.n (Ty.enc K key).cells (.agg ((Ty.enc K x.1).cells++[c])::os') i=if eqT K key x.1=true then some (i,c) else jE kt.n (Ty.enc K key).cells os' (i+1):=by
   conv=>lhs;unfold jE
   rw[ht,hg,key_eq hm]
  rw[fe]
  by_cases hq:eqT K key x.1=true
  .have e1:mF K V key (x::es)=some x.2.1:=by show cond _ _ _=_;rw[hq];rfl
   have e2:mP K V key v (x::es)=(key,v,())::es:=by show cond _ _ _=_;rw[hq];rfl
   rw[if_pos hq,e1,e2]
   refine⟨Nat.le_refl _,⟨_,rfl,k1⟩,?_⟩
   rw[Nat.sub_self]
   exact .cons (R5 hV key hb) h2
  .have hq':eqT K key x.1=false:=by simpa using hq
   have e1:mF K V key (x::es)=mF K V key es:=by show cond _ _ _=_;rw[hq'];rfl
   have e2:mP K V key v (x::es)=x::mP K V key v es:=by show cond _ _ _=_;rw[hq'];rfl
   rw[if_neg hq,e1,e2]
   cases hf:jE kt.n (Ty.enc K key).cells os' (i+1) with
   |none =>
    rw[hf]at m2
    exact⟨m2.1,.cons h1 m2.2⟩
   |some q =>
    obtain⟨j,a⟩:=q
    rw[hf]at m2
    obtain⟨n1,n2,n3⟩:=m2
    refine⟨by omega,n2,?_⟩
    rw[show j-i=(j-(i+1))+1 by omega,List.set_cons_succ]
    exact .cons h1 n3
theorem Xm(ty:Nat)(xs:List Opd):bZ Gl ρ h σ rd tt (.bsc ty xs):=by
 intro hs hrd p v kl h' hx hp
 simp only[aY]at hx
 split at hx
 case h_2=>cases hx
 rename_i T hT
 split at hx
 case isFalse=>cases hx
 rename_i hcond
 simp only[Bool.and_eq_true]at hcond
 split at hx
 case h_2=>cases hx
 rename_i ys hys
 cases hx
 have hm:=yc (Gl:=Gl) (σ:=σ) (xs:=xs) hrd
 obtain⟨k1,k2,k3⟩:=uD (H:=σ.h) hys hm
 obtain⟨u2,u3⟩:=jv (ty:=ty) hs (beq_eq hcond.1) k2
 have hall:(xs.map (σ.val Gl)).all sc1=true:=List.all_eq_true.2 λa ha=>by
  obtain⟨i,hi⟩:=List.mem_iff_getElem?.1 ha
  obtain⟨x,hx,hv⟩:=hm.fU hi
  have hsx:=List.all_eq_true.1 hcond.2 x (List.mem_of_getElem? hx)
  cases x with
  |d T y=>cases T<;>first|(cases hsx;done)|(rw[show a=_ from Wp.aH hv];rfl)
  |_=>cases hsx
 rw[List.length_map]at u3
 exact⟨True,_,_,_,[],by simp only[step,hall,if_true]<;>rfl,trivial,u2,VT.of1 u3,by simp⟩
theorem Xh(ty sz bytes:Nat)(zero:Value)(l c:Opd):bZ Gl ρ h σ rd tt (.mk2 ty sz bytes zero l c):=by
 intro hs hrd p v kl h' hx hp
 simp only[aY]at hx
 have hl:=hrd l
 have hc:=hrd c
 split at hx
 .rename_i T m n hT h1 h2
  rw[h1]at hl
  rw[h2]at hc
  split at hx
  .rename_i hz
   split at hx
   .rename_i z ht
    cases hx
    simp only[Bool.and_eq_true]at hp
    have hf:=Fx hp.2
    have p1:(0:Int)<=(show Int from m):=of_decide_eq_true hp.1.1
    have p2:(show Int from m)<=(show Int from n):=of_decide_eq_true hp.1.2
    have hnt:∀vs,vx zero≠.tup vs:=λvs q=>by
     rw[q]at ht
     cases T<;>simp[toD,lst]at ht
    have hw:=fJ ht (VT.jC (G5 (ρ:=ρ) (h:=h) zero) hnt)
    have hcc:au Wp (List.replicate (Int.toNat m) (aW zero)) ((List.replicate (Int.toNat m) z).map (Ty.enc T)):=by
     rw[List.map_replicate]
     exact⟨by simp,λi x y p q=>by
      have p':=List.eq_of_mem_replicate (List.mem_of_getElem? p)
      have q':=List.eq_of_mem_replicate (List.mem_of_getElem? q)
      subst p' q';exact hw⟩
    obtain⟨u1,u2⟩:=jv (ty:=ty) hs (beq_eq hz) hcc
    rw[List.length_replicate]at u2
    exact⟨(0:Int)<=(show Int from m)/\(show Int from m)<=(show Int from n)/\(show Int from n)*bytes<=fu/\(show Int from n)<=4611686018427387904,_,_,_,[],by simp only[step,dH hl,dH hc]<;>rfl,⟨p1,p2,hf.2⟩,u1,VT.of1 u2,by simp⟩
   .cases hx
  .cases hx
 .cases hx
theorem Xg(ty:Nat)(hint:Option Opd):bZ Gl ρ h σ rd tt (.mmk ty hint):=by
 intro hs hrd p v kl h' hx hp
 simp only[aY]at hx
 split at hx
 case h_2=>cases hx
 rename_i K V hT
 have hO:mW ρ h (.map ty K V []) ⟨ty,0,0,true,[]⟩:=⟨rfl,rfl,rfl,rfl,.nil⟩
 have u:=Upd.new hs hO
 have fin:step Gl σ (.mmk ty hint)=some (True,.mp σ.h.length,σ.h++[⟨ty,0,0,true,[]⟩])->aG Gl ρ h σ rd (.mmk ty hint) (.mp h.length) [] (h++[.map ty K V []]):=λe =>
  ⟨_,_,_,_,[],e,trivial,u,VT.of1 ⟨ty,K,V,[],by show(h++_)[h.length]?=_;simp,by rw[<- hs.rl,ow]⟩,by simp⟩
 cases hint with
 |none=>cases hx;exact fin rfl
 |some o =>
  have ho:=hrd o
  simp only[Option.map_some]at hx
  split at hx
  .rename_i q;cases q
  .rename_i k n q
   injection q with q
   rw[q]at ho
   cases hx
   exact fin (by simp only[step,Option.map_some,dH ho])
  .cases hx
theorem SQ(kt:KT)(ok:Bool)(zero:Value)(m k:Opd):bZ Gl ρ h σ rd tt (.og kt ok zero m k):=by
 intro hs hrd p v kl h' hx hp
 simp only[aY]at hx
 have hv:=hrd m
 have hk:=hrd k
 split at hx
 case h_2=>cases hx
 rename_i id h1
 rw[h1]at hv
 obtain⟨ty,K,V,es,he,ha⟩:=hv
 rw[he]at hx
 simp only at hx
 split at hx
 case h_2=>cases hx
 rename_i key z hkey hz
 split at hx
 case isFalse=>cases hx
 rename_i hm
 have hkn:∀vs,rd k≠.tup vs:=λvs q=>by rw[q]at hkey;cases K<;>simp[toD,lst]at hkey
 have hkw:=fJ hkey (VT.jC hk hkn)
 have hzw:=fJ hz (VA.of1 (G6 (ρ:=ρ) (h:=h) zero))
 obtain⟨k1,k2,k3,k4⟩:=J8 hm hkw
 obtain⟨O,hO,o1,o2,o3,o4,o5⟩:=hs.hr id _ he
 obtain⟨m1,m2⟩:=yg hm key hzw es O.es 0 o5
 rw[k1]at k2 k3
 cases hf:jE kt.n (Ty.enc K key).cells O.es 0 with
 |none =>
  rw[hf]at m2
  have e1:Na (eqT K) key es z=z:=by show(mF K V key es).getD z=z;rw[m2.1];rfl
  have e2:Uq (eqT K) key es=false:=by show(mF K V key es).isSome=false;rw[m2.1];rfl
  rw[e1,e2]at hx
  cases hx
  refine aG.pure hs (q:=True) (by simp only[step,ha,hO,k1];rw[if_pos ⟨o2,k2,m1,k3⟩,hf]) trivial ?_
  cases ok with
  |true =>
   have a1:VA ρ h (.d V z) (.v zero):=hzw
   have a2:VA ρ h (.d .bool false) (.v (.bool false)):=Wp.refl _
   exact⟨_,rfl,.cons a1 (.cons a2 .nil)⟩
  |false=>exact Du hzw
 |some q =>
  obtain⟨j,a⟩:=q
  rw[hf]at m2
  obtain⟨_,⟨u,e0,hu⟩,_⟩:=m2
  have e1:Na (eqT K) key es z=u:=by show(mF K V key es).getD z=u;rw[e0];rfl
  have e2:Uq (eqT K) key es=true:=by show(mF K V key es).isSome=true;rw[e0];rfl
  rw[e1,e2]at hx
  cases hx
  refine aG.pure hs (q:=True) (by simp only[step,ha,hO,k1];rw[if_pos ⟨o2,k2,m1,k3⟩,hf]) trivial ?_
  cases ok with
  |true =>
   have a1:VA ρ h (.d V u) a:=hu
   have a2:VA ρ h (.d .bool true) (.v (.bool true)):=Wp.refl _
   exact⟨_,rfl,.cons a1 (.cons a2 .nil)⟩
  |false=>exact Du hu
theorem SL(kt:KT)(m k y:Opd):bZ Gl ρ h σ rd tt (.mJ kt m k y):=by
 intro hs hrd p v kl h' hx hp
 simp only[aY]at hx
 have hv:=hrd m
 have hk:=hrd k
 have hy:=hrd y
 split at hx
 case h_2=>cases hx
 rename_i id h1
 rw[h1]at hv
 obtain⟨ty,K,V,es,he,ha⟩:=hv
 rw[he]at hx
 simp only at hx
 split at hx
 case h_2=>cases hx
 rename_i key u hkey hu
 split at hx
 case isFalse=>cases hx
 rename_i hm
 cases hx
 have hkn:∀vs,rd k≠.tup vs:=λvs q=>by rw[q]at hkey;cases K<;>simp[toD,lst]at hkey
 have hyn:∀vs,rd y≠.tup vs:=λvs q=>by rw[q]at hu;cases V<;>simp[toD,lst]at hu
 have hkw:=fJ hkey (VT.jC hk hkn)
 have huw:=fJ hu (VT.jC hy hyn)
 obtain⟨k1,k2,k3,k4⟩:=J8 hm hkw
 have hV:V.dL=false:=by simp only[qw,Bool.and_eq_true]at hm;simpa using hm.1.2
 have hst:=(a2L hV huw).st true
 obtain⟨O,hO,o1,o2,o3,o4,o5⟩:=hs.hr id _ he
 obtain⟨m1,m2⟩:=yg hm key huw es O.es 0 o5
 rw[k1]at k2 k3
 have fin:∀os',step Gl σ (.mJ kt m k y)=some (True,.any,σ.h.set (ρ.getD id 0) { O with es:=os',pr:=true })->au Wp os' ((DV (eqT K) key u es).map (Ty.enc (.tup [K,V])))->aG Gl ρ h σ rd (.mJ kt m k y) .any [] (h.set id (.map ty K V (DV (eqT K) key u es))):=by
  intro os' e hc
  have hu:=Upd.set hs (o':=.map ty K V (DV (eqT K) key u es)) (O':={ O with es:=os',pr:=true }) he trivial ⟨o1,o2,rfl,o4,hc⟩
  refine⟨_,_,_,_,[id],e,trivial,hu,trivial,?_⟩
  intro ok hok id' hid
  simp only[List.mem_singleton]at hid
  subst hid
  simpa only[leaves,h1]using hok
 cases hf:jE kt.n (Ty.enc K key).cells O.es 0 with
 |none =>
  rw[hf]at m2
  exact fin _ (by simp only[step,ha,hO,k1];rw[if_pos ⟨o2,k2,m1,hst,k3⟩,hf]) m2.2
 |some q =>
  obtain⟨j,a⟩:=q
  rw[hf]at m2
  obtain⟨_,_,m3⟩:=m2
  exact fin _ (by simp only[step,ha,hO,k1];rw[if_pos ⟨o2,k2,m1,hst,k3⟩,hf]) (by rw[Nat.sub_zero]at m3;exact m3)
theorem wZ(i:I):bZ Gl ρ h σ rd tt i:=by
 cases i with
 |mov x=>exact Xf x
 |pick c a b=>exact SH c a b
 |bin op x y=>exact Xo op x y
 |beq n x y=>exact Xp n x y
 |qy n x=>exact SI n x
 |aeq n fs x y=>exact Xt n fs x y
 |un op x=>exact ZQ op x
 |conv k x=>exact SY k x
 |fld o s g x=>exact Xk o s g x
 |ext i x=>exact Xl i x
 |nu o x=>exact P9 o x
 |jD s x i=>exact P8 s x i
 |load s g x=>exact SV s g x
 |store s x y=>exact P6 s x y
 |slice s x lo hi=>exact P7 s x lo hi
 |slice3 s x y z=>exact M4 s x y z
 |uZ t xs=>exact T9 t xs
 |jw x lo hi=>exact M0 x lo hi
 |len x=>exact Xi x
 |qd x=>exact SG x
 |nck x=>exact Xe x
 |idx x i=>exact Xj x i
 |app t s b x y=>exact Xr t s b x y
 |apps t b x y=>exact Td t b x y
 |b2s x=>exact Xq x
 |s2b t x=>exact Xd t x
 |gI t s xs=>exact M5 t s xs
 |sJ t s xs=>exact Pf t s xs
 |build z ps=>exact Pb z ps
 |box t s x=>exact Xn t s x
 |vg t s k x=>exact Ta t s k x
 |clo f xs=>intro hs hrd p v kl h' hx hp;cases hx
 |alloc t z=>exact Pg t z
 |mk t s b z n=>exact ZR t s b z n
 |mk2 t s b z l c=>exact Xh t s b z l c
 |bsc t xs=>exact Xm t xs
 |mmk t n=>exact Xg t n
 |og kt ok z m k=>exact SQ kt ok z m k
 |mJ kt m k v=>exact SL kt m k v
 |alloca t s n z=>exact M7 t s n z
 |jf b s n x i=>exact Ph b s n x i
 |aslice b n x lo hi=>exact M6 b n x lo hi
 |om n x lo hi=>exact Tc n x lo hi
 |rV s g n x i=>exact Te s g n x i
 |copy s x y=>exact SX s x y
 |min2 x y=>exact SN x y
 |max2 x y=>exact SS x y
 |call f as=>intro hs hrd p v kl h' hx hp;cases hx
end
abbrev Foc:=List (Option Nat)
def FLe(a b:Foc):Prop:=a.length=b.length/\∀(j id:Nat),a[j]?=some (some id)->b[j]?=some (some id)
theorem FLe.refl(a:Foc):FLe a a:=⟨rfl,λ_ _ h=>h⟩
theorem FLe.trans{a b c:Foc}(h:FLe a b)(k:FLe b c):FLe a c:=⟨h.1.trans k.1,λj id q=>k.2 j id (h.2 j id q)⟩
theorem r9{foc bT:Foc}{j id:Nat}(h:asg foc j id=some bT):FLe foc bT/\bT[j]?=some (some id):=by
 unfold asg at h
 split at h
 .rename_i hj
  cases h
  have hlt:j<foc.length:=(List.getElem?_eq_some_iff.1 hj).1
  refine⟨⟨by simp,λk id' q=>?_⟩,by rw[List.getElem?_set_self hlt]⟩
  by_cases hk:j=k
  .subst hk;rw[hj]at q;cases q
  .rw[List.getElem?_set_ne hk];exact q
 .rename_i id' hj
  split at h
  .rename_i hb
   cases h
   have:=beq_eq hb
   subst this
   exact⟨FLe.refl _,hj⟩
  .cases h
 .cases h
inductive CR (foc:Foc):XV->XV->Prop
 |any (v:XV):CR foc v .any
 |d (v:XV) (T:Ty) (x:T.den) (h:toD [] T v=some x):CR foc v (.d T x)
 |row (id j:Nat) (h:foc[j]?=some (some id)):CR foc (.row id) (.row j)
 |ptr (id j i o:Nat) (h:foc[j]?=some (some id)):CR foc (.ptr id i o) (.ptr j i o)
 |nil:CR foc (.k (.slice none 0 0)) (.k (.slice none 0 0))
 |me (id j:Nat) (h:foc[j]?=some (some id)):CR foc (.me id) (.me j)
 |mep (id j:Nat) (h:foc[j]?=some (some id)):CR foc (.ptr id 0 0) (.me j)
 |men (j:Nat):CR foc (.k (.pointer none)) (.me j)
 |mp (id j:Nat) (h:foc[j]?=some (some id)):CR foc (.mp id) (.mp j)
 |sub (id j o n:Nat) (h:foc[j]?=some (some id)):CR foc (.sub id o n) (.sub j o n)
theorem CR.mono{foc bT:Foc}{v c:XV}(h:CR foc v c)(hl:FLe foc bT):CR bT v c:=by
 cases h with
 |any=>exact .any _
 |d _ T x h=>exact .d _ T x h
 |row id j h=>exact .row id j (hl.2 _ _ h)
 |ptr id j i o h=>exact .ptr id j i o (hl.2 _ _ h)
 |nil=>exact .nil
 |me id j h=>exact .me id j (hl.2 _ _ h)
 |mep id j h=>exact .mep id j (hl.2 _ _ h)
 |men j=>exact .men j
 |mp id j h=>exact .mp id j (hl.2 _ _ h)
 |sub id j o n h=>exact .sub id j o n (hl.2 _ _ h)
theorem Fh{v:XV}(h:vK v=true):v=.k (.slice none 0 0):=by
 unfold vK at h
 split at h
 .rfl
 .cases h
theorem Yi{v:Value}(h:Um v=true):v=.pointer none:=by
 unfold Um at h
 split at h
 .rfl
 .cases h
theorem Qs{v:XV}(h:uU v=some none):v=.k (.pointer none):=by
 cases v with
 |k v =>
  simp only[uU]at h
  split at h
  .rename_i q;rw[Yi q]
  .cases h
 |ptr id i o=>simp only[uU]at h;split at h<;>cases h
 |_=>simp[uU]at h
theorem Qr{foc:Foc}{v:XV}{id j:Nat}(h:uU v=some (some id))(hj:foc[j]?=some (some id)):CR foc v (.me j):=by
 cases v with
 |k v=>simp only[uU]at h;split at h<;>cases h
 |ptr id' i o =>
  simp only[uU]at h
  split at h
  .rename_i hb
   simp only[Bool.and_eq_true]at hb
   have e1:=beq_eq hb.1
   have e2:=beq_eq hb.2
   subst e1 e2
   cases h
   exact .mep _ _ hj
  .cases h
 |me id'=>simp only[uU]at h;cases h;exact .me _ _ hj
 |_=>simp[uU]at h
theorem La:∀(cs:List SC) (r:List Ty) (vs:List XV) (foc bT:Foc) (g:Ty.aD r->Ty.aD (SC.tys cs r)),extC cs r vs foc=some (bT,g)->FLe foc bT/\∀y,(fI cs r (g y)).2=y/\au (CR bT) vs (fI cs r (g y)).1:=by
 intro cs
 induction cs with
 |nil =>
  intro r vs foc bT g h
  cases vs with
  |nil=>simp only[extC]at h;cases h;exact⟨FLe.refl _,λy=>⟨rfl,.nil⟩⟩
  |cons=>simp[extC]at h
 |cons c cs ih =>
  intro r vs foc bT g h
  cases c with
  |d T =>
   simp only[extC]at h
   cases vs with
   |nil=>cases h
   |cons v vs =>
    simp only at h
    split at h
    .rename_i x dV g1 hx h1
     cases h
     obtain⟨a,b⟩:=ih r vs foc bT g1 h1
     exact⟨a,λy=>⟨(b y).1,.cons (.d v T x hx) (b y).2⟩⟩
    .cases h
  |row j =>
   simp only[extC]at h
   split at h
   .rename_i id vs
    split at h
    .rename_i dV h1
     obtain⟨a1,a2⟩:=r9 h1
     obtain⟨a,b⟩:=ih r vs dV bT g h
     exact⟨a1.trans a,λy=>⟨(b y).1,.cons (.row id j (a.2 _ _ a2)) (b y).2⟩⟩
    .cases h
   .cases h
  |mp j =>
   simp only[extC]at h
   split at h
   .rename_i id vs
    split at h
    .rename_i dV h1
     obtain⟨a1,a2⟩:=r9 h1
     obtain⟨a,b⟩:=ih r vs dV bT g h
     exact⟨a1.trans a,λy=>⟨(b y).1,.cons (.mp id j (a.2 _ _ a2)) (b y).2⟩⟩
    .cases h
   .cases h
  |ptr j i o =>
   simp only[extC]at h
   split at h
   .rename_i id i' o' vs
    split at h
    .rename_i hb
     simp only[Bool.and_eq_true]at hb
     have e1:=beq_eq hb.1
     have e2:=beq_eq hb.2
     subst e1 e2
     split at h
     .rename_i dV h1
      obtain⟨a1,a2⟩:=r9 h1
      obtain⟨a,b⟩:=ih r vs dV bT g h
      exact⟨a1.trans a,λy=>⟨(b y).1,.cons (.ptr id j i o (a.2 _ _ a2)) (b y).2⟩⟩
     .cases h
    .cases h
   .cases h
  |me j =>
   simp only[extC]at h
   cases vs with
   |nil=>cases h
   |cons v vs =>
    simp only at h
    split at h
    .rename_i id hm
     split at h
     .rename_i dV h1
      obtain⟨a1,a2⟩:=r9 h1
      obtain⟨a,b⟩:=ih r vs dV bT g h
      exact⟨a1.trans a,λy=>⟨(b y).1,.cons (Qr hm (a.2 _ _ a2)) (b y).2⟩⟩
     .cases h
    .rename_i hm
     obtain⟨a,b⟩:=ih r vs foc bT g h
     have:=Qs hm
     subst this
     exact⟨a,λy=>⟨(b y).1,.cons (.men j) (b y).2⟩⟩
    .cases h
  |nil =>
   simp only[extC]at h
   cases vs with
   |nil=>cases h
   |cons v vs =>
    simp only at h
    by_cases hv:vK v=true
    .have h':extC cs r vs foc=some (bT,g):=by simp only[hv,if_true]at h;exact h
     have:=Fh hv
     subst this
     obtain⟨a,b⟩:=ih r vs foc bT g h'
     exact⟨a,λy=>⟨(b y).1,.cons .nil (b y).2⟩⟩
    .simp only[hv,if_false]at h
     cases h
  |any =>
   simp only[extC]at h
   cases vs with
   |nil=>cases h
   |cons v vs =>
    simp only at h
    obtain⟨a,b⟩:=ih r vs foc bT g h
    exact⟨a,λy=>⟨(b y).1,.cons (.any v) (b y).2⟩⟩
def OR'(foc:Foc):XO->XO->Prop
 |.row ty T fz es,o2=>o2=.row ty T fz es
 |.box ty vs,o2=>∃cs,o2=.box ty cs/\au (CR foc) vs cs
 |.map ty K V es,o2=>o2=.map ty K V es
 |.vec _ _,_=>False
theorem OR'.mono{foc bT:Foc}{o o2:XO}(h:OR' foc o o2)(hl:FLe foc bT):OR' bT o o2:=by
 cases o with
 |row=>exact h
 |map=>exact h
 |vec=>exact h.elim
 |box ty vs=>obtain⟨cs,e,hc⟩:=h;exact⟨cs,e,hc.mono λx y q=>q.mono hl⟩
theorem zF(h:List XO):∀(os:List SO) (j:Nat) (foc bT:Foc) (y:Ty.aD (SO.tys os)),wP h os j foc=some (bT,y)->FLe foc bT/\(fA os y).length=os.length/\∀(i:Nat) (o2:XO),(fA os y)[i]?=some o2->∃id o,bT[j+i]?=some (some id)/\h[id]?=some o/\OR' bT o o2:=by
 intro os
 induction os with
 |nil=>intro j foc bT y hx;simp only[wP]at hx;cases hx;exact⟨FLe.refl _,rfl,λi o2 q=>by simp[fA]at q⟩
 |cons so os ih =>
  intro j foc bT y hx
  cases so with
  |row ty T fz =>
   simp only[wP]at hx
   split at hx
   case h_2=>cases hx
   rename_i id hid
   split at hx
   case h_2=>cases hx
   rename_i ty' T' fz' es ho
   split at hx
   case isFalse=>cases hx
   rename_i hb
   simp only[Bool.and_eq_true,beq_iff_eq]at hb
   have e1:=beq_eq hb.1
   have e2:=hb.2
   subst e1 e2
   split at hx
   case h_2=>cases hx
   rename_i es' dV y1 hc h1
   cases hx
   obtain⟨q,rfl⟩:=dR hc
   cases q
   obtain⟨a,b,c⟩:=ih (j+1) foc bT y1 h1
   refine⟨a,by simp only[fA,List.length_cons];rw[b],λi o2 q=>?_⟩
   cases i with
   |zero =>
    have q:some (XO.row ty T fz es)=some o2:=q
    cases q
    exact⟨id,_,a.2 _ _ hid,ho,rfl⟩
   |succ i =>
    have q:(fA os y1)[i]?=some o2:=q
    have:=c i o2 q
    rw[show j+1+i=j+(i+1) by omega]at this
    exact this
  |map ty K V =>
   simp only[wP]at hx
   split at hx
   case h_2=>cases hx
   rename_i id hid
   split at hx
   case h_2=>cases hx
   rename_i ty' K' V' es ho
   split at hx
   case isFalse=>cases hx
   rename_i hb
   have e1:=beq_eq hb
   subst e1
   split at hx
   case h_2=>cases hx
   rename_i es' dV y1 hc h1
   cases hx
   obtain⟨q,rfl⟩:=dR hc
   cases q
   obtain⟨a,b,c⟩:=ih (j+1) foc bT y1 h1
   refine⟨a,by simp only[fA,List.length_cons];rw[b],λi o2 q=>?_⟩
   cases i with
   |zero =>
    have q:some (XO.map ty K V es)=some o2:=q
    cases q
    exact⟨id,_,a.2 _ _ hid,ho,rfl⟩
   |succ i =>
    have q:(fA os y1)[i]?=some o2:=q
    have:=c i o2 q
    rw[show j+1+i=j+(i+1) by omega]at this
    exact this
  |box ty cs =>
   simp only[wP]at hx
   split at hx
   case h_2=>cases hx
   rename_i id hid
   split at hx
   case h_2=>cases hx
   rename_i ty' vs ho
   split at hx
   case isFalse=>cases hx
   rename_i hb
   have e1:=beq_eq hb
   subst e1
   split at hx
   case h_2=>cases hx
   rename_i dV g hc
   split at hx
   case h_2=>cases hx
   rename_i dQ y1 h1
   cases hx
   obtain⟨a1,a2⟩:=La cs _ vs foc dV g hc
   obtain⟨a,b,c⟩:=ih (j+1) dV bT y1 h1
   obtain⟨g1,g2⟩:=a2 y1
   refine⟨a1.trans a,?_,λi o2 q=>?_⟩
   .show(XO.box ty _::fA os (fI cs (SO.tys os) (g y1)).2).length=_
    rw[g1,List.length_cons,List.length_cons,b]
   .cases i with
    |zero =>
     have q:some (XO.box ty (fI cs (SO.tys os) (g y1)).1)=some o2:=q
     cases q
     exact⟨id,_,(a1.trans a).2 _ _ hid,ho,_,rfl,g2.mono λx y q=>q.mono a⟩
    |succ i =>
     have q:(fA os (fI cs (SO.tys os) (g y1)).2)[i]?=some o2:=q
     rw[g1]at q
     have:=c i o2 q
     rw[show j+1+i=j+(i+1) by omega]at this
     exact this
theorem sN:∀{foc:Foc} {l:List Nat},vR foc=some l->foc.length=l.length/\∀(j id:Nat),foc[j]?=some (some id)↔l[j]?=some id:=by
 intro foc
 induction foc with
 |nil=>intro l h;cases h;exact⟨rfl,by simp⟩
 |cons a foc ih =>
  intro l h
  cases a with
  |none=>simp[vR]at h
  |some a =>
   simp only[vR]at h
   split at h
   .rename_i m hm
    cases h
    obtain⟨h1,h2⟩:=ih hm
    refine⟨by simp[h1],λj id=>?_⟩
    cases j with
    |zero=>simp
    |succ j=>simpa using h2 j id
   .cases h
theorem EZ:∀{l:List Nat},nodupB l=true->l.Nodup:=by
 intro l
 induction l with
 |nil=>intro _;exact List.nodup_nil
 |cons a l ih =>
  intro h
  simp only[nodupB,Bool.and_eq_true,Bool.not_eq_true',List.any_eq_false]at h
  rw[List.nodup_cons]
  refine⟨λhm=>h.1 a hm (by simp),ih h.2⟩
def CRS(foc:Foc)(v c:XV):Prop:=CR foc v c\/∃vs cs,v=.agg vs/\c=.agg cs/\au (CR foc) vs cs
theorem CRS.mono{foc bT:Foc}{v c:XV}(h:CRS foc v c)(hl:FLe foc bT):CRS bT v c:=by
 rcases h with h|⟨vs,cs,e1,e2,h⟩
 .exact .inl (h.mono hl)
 .exact .inr ⟨vs,cs,e1,e2,h.mono λx y q=>q.mono hl⟩
theorem Ko{t b:List XV}{foc:Foc}{s:Nat}{c:XV}(hb:∀(i:Nat) (c:XV),b[i]?=some c->CRS foc (t.getD i .any) c)(hc:CRS foc (t.getD s .any) c):∀(i:Nat) (c':XV),(b.set s c)[i]?=some c'->CRS foc (t.getD i .any) c':=by
 intro i c' q
 rw[List.getElem?_set]at q
 split at q
 .rename_i hi
  split at q
  .cases q;subst hi;exact hc
  .cases q
 .exact hb i c' q
theorem L9(t:List XV)(foc:Foc):∀(vs:List (Nat×Ty)) (r:List Ty) (y:Ty.aD r) (x:Ty.aD (sZ vs r)) (b:List XV),Jw t vs r y=some x->(∀(i:Nat) (c:XV),b[i]?=some c->CRS foc (t.getD i .any) c)->(qG vs r x b).2=y/\(qG vs r x b).1.length=b.length/\∀(i:Nat) (c:XV),(qG vs r x b).1[i]?=some c->CRS foc (t.getD i .any) c:=by
 intro vs
 induction vs with
 |nil=>intro r y x b h hb;simp only[Jw]at h;cases h;exact⟨rfl,rfl,hb⟩
 |cons p vs ih =>
  intro r y x b h hb
  obtain⟨s,T⟩:=p
  simp only[Jw]at h
  split at h
  .rename_i x1 z h1 h2
   cases h
   obtain⟨a,c,e⟩:=ih r y z (b.set s (.d T x1)) h2 (λi c q=>by
    rw[List.getElem?_set]at q
    split at q
    .rename_i hi
     split at q
     .cases q;subst hi;exact .inl (.d _ T x1 h1)
     .cases q
    .exact hb i c q)
   exact⟨a,by rw[List.length_set]at c;exact c,e⟩
  .cases h
theorem a4Q{k:IntKind}{m:Int}:toD [] (.int k) (.d (.int k) m)=some m:=by
 have hs:Ty.same (.int k) (.int k)=true:=by simp[Ty.same]
 show bC (a:=.int k) (b:=.int k) m=some m
 unfold bC;rw[dif_pos hs];rfl
theorem a8f{a b:Int}(h:iEq a b=true):a=b:=by simpa[iEq]using h
theorem a1R{k:IntKind}{n:Int}{v:XV}(h:isC k n v=true):v=.d (.int k) n:=by
 unfold isC at h
 split at h
 .rename_i k' m
  simp only[Bool.and_eq_true,decide_eq_true_eq]at h
  obtain⟨rfl,hb⟩:=h
  have hm:@Eq Int m n:=a8f hb
  exact congrArg (λz:Int=>XV.d (.int k) z) hm
 .cases h
theorem zD (t:List XV):∀ (refs:List (Nat × SR)) (r:List Ty) (foc bT:Foc) (g:Ty.aD r->Ty.aD (bX refs r)),jr t refs r foc=some (bT,g)->FLe foc bT/\∀ (y:Ty.aD r) (dQ:Foc) (b:List XV),FLe bT dQ->(∀ (i:Nat) (c:XV),b[i]?=some c->CRS dQ (t.getD i .any) c) ->
  (gV refs r (g y) b).2=y/\(gV refs r (g y) b).1.length=b.length/\∀(i:Nat) (c:XV),(gV refs r (g y) b).1[i]?=some c->CRS dQ (t.getD i .any) c:=by
 intro refs
 induction refs with
 |nil=>intro r foc bT g h;simp only[jr]at h;cases h;exact⟨FLe.refl _,λy dQ b _ hb=>⟨rfl,rfl,hb⟩⟩
 |cons p refs ih =>
  intro r foc bT g h
  obtain⟨s,sr⟩:=p
  have set1:∀(c:XV) (dV:Foc),FLe foc dV->(∀dQ,FLe dV dQ->CRS dQ (t.getD s .any) c)->(∀(g1:Ty.aD r->Ty.aD (bX refs r)),jr t refs r dV=some (bT,g1)->FLe foc bT/\∀(y:Ty.aD r) (dQ:Foc) (b:List XV),FLe bT dQ->(∀(i:Nat) (c:XV),b[i]?=some c->CRS dQ (t.getD i .any) c)->(gV refs r (g1 y) (b.set s c)).2=y/\(gV refs r (g1 y) (b.set s c)).1.length=b.length/\∀(i:Nat) (c':XV),(gV refs r (g1 y) (b.set s c)).1[i]?=some c'->CRS dQ (t.getD i .any) c'):=by
   intro c dV hl hc g1 h1
   obtain⟨a1,a2⟩:=ih r dV bT g1 h1
   refine⟨hl.trans a1,λy dQ b hf hb=>?_⟩
   obtain⟨b1,b2,b3⟩:=a2 y dQ (b.set s c) hf (Ko hb (hc dQ (a1.trans hf)))
   exact⟨b1,by rw[b2];simp,b3⟩
  cases sr with
  |row j =>
   simp only[jr]at h
   split at h
   .rename_i id hid
    split at h
    .rename_i dV h1
     obtain⟨a1,a2⟩:=r9 h1
     exact set1 (.row j) dV a1 (λdQ hf=>by rw[hid];exact .inl (.row id j (hf.2 _ _ a2))) g h
    .cases h
   .cases h
  |mp j =>
   simp only[jr]at h
   split at h
   .rename_i id hid
    split at h
    .rename_i dV h1
     obtain⟨a1,a2⟩:=r9 h1
     exact set1 (.mp j) dV a1 (λdQ hf=>by rw[hid];exact .inl (.mp id j (hf.2 _ _ a2))) g h
    .cases h
   .cases h
  |sub j o n =>
   simp only[jr]at h
   split at h
   .rename_i id o' n' hid
    split at h
    .rename_i hb
     simp only[Bool.and_eq_true]at hb
     have e1:=beq_eq hb.1
     have e2:=beq_eq hb.2
     subst e1 e2
     split at h
     .rename_i dV h1
      obtain⟨a1,a2⟩:=r9 h1
      exact set1 (.sub j o n) dV a1 (λdQ hf=>by rw[hid];exact .inl (.sub id j o n (hf.2 _ _ a2))) g h
     .cases h
    .cases h
   .cases h
  |ptr j i o =>
   simp only[jr]at h
   split at h
   .rename_i id i' o' hid
    split at h
    .rename_i hb
     simp only[Bool.and_eq_true]at hb
     have e1:=beq_eq hb.1
     have e2:=beq_eq hb.2
     subst e1 e2
     split at h
     .rename_i dV h1
      obtain⟨a1,a2⟩:=r9 h1
      exact set1 (.ptr j i o) dV a1 (λdQ hf=>by rw[hid];exact .inl (.ptr id j i o (hf.2 _ _ a2))) g h
     .cases h
    .cases h
   .cases h
  |nil =>
   by_cases hn:vK (t.getD s .any)=true
   .have h':jr t refs r foc=some (bT,g):=by simp only[jr,hn,if_true]at h;exact h
    exact set1 (.k (.slice none 0 0)) foc (FLe.refl _) (λdQ hf=>by rw[Fh hn];exact .inl .nil) g h'
   .simp only[jr,hn,if_false]at h
    cases h
  |cst k n =>
   by_cases hn:isC k n (t.getD s .any)=true
   .have h':jr t refs r foc=some (bT,g):=by simp only[jr,hn,if_true]at h;exact h
    exact set1 (.d (.int k) n) foc (FLe.refl _) (λdQ hf=>by rw[a1R hn];exact .inl (.d _ (.int k) n a4Q)) g h'
   .simp only[jr,hn,if_false]at h
    cases h
  |agg cs =>
   simp only[jr]at h
   split at h
   .rename_i vs hid
    split at h
    .rename_i dV g1 h1
     split at h
     .rename_i O6 g2 h2
      cases h
      obtain⟨c1,c2⟩:=La cs _ vs foc dV g1 h1
      obtain⟨a1,a2⟩:=ih r dV bT g2 h2
      refine⟨c1.trans a1,λy dQ b hf hb=>?_⟩
      obtain⟨d1,d2⟩:=c2 (g2 y)
      obtain⟨b1,b2,b3⟩:=a2 y dQ (b.set s (.agg (fI cs (bX refs r) (g1 (g2 y))).1)) hf (Ko hb (by rw[hid];exact .inr ⟨_,_,rfl,rfl,d2.mono λx y q=>q.mono (a1.trans hf)⟩))
      show(gV refs r (fI cs (bX refs r) (g1 (g2 y))).2 (b.set s (.agg (fI cs (bX refs r) (g1 (g2 y))).1))).2=y/\(gV refs r (fI cs (bX refs r) (g1 (g2 y))).2 (b.set s (.agg (fI cs (bX refs r) (g1 (g2 y))).1))).1.length=b.length/\∀(i:Nat) (c:XV),(gV refs r (fI cs (bX refs r) (g1 (g2 y))).2 (b.set s (.agg (fI cs (bX refs r) (g1 (g2 y))).1))).1[i]?=some c->CRS dQ (t.getD i .any) c
      rw[d1]
      exact⟨b1,by rw[b2];simp,b3⟩
     .cases h
    .cases h
   .cases h
theorem uJ(nf:Nat):∀(n j:Nat),(Gv nf j n).length=n:=by
 intro n
 induction n with
 |zero=>intro j;rfl
 |succ n ih=>intro j;simp only[Gv,List.length_cons,ih]
theorem vP {nf:Nat} {ρ:List Nat} {X:XS} {ts:List AV} {H:List ah} {sh:Sh} {foc:List Nat} {x:Ty.aD sh.tys} (ht:au (VT ρ X.h) X.t ts) (hs:HS ρ X.h H) (hn:X.t.length=sh.n) (hx:ext nf sh X=some (foc,x)) :
  Sim (foc.map λid=>ρ.getD id 0) (emb sh x) ⟨ts,H⟩/\(∀id∈foc,id<X.h.length)/\foc.length=sh.objs.length/\foc.Nodup:=by
 unfold ext at hx
 split at hx
 case h_2=>cases hx
 rename_i dV g h1
 split at hx
 case h_2=>cases hx
 rename_i dQ y h2
 split at hx
 case h_2=>cases hx
 rename_i O6 x3 h3 h4
 split at hx
 case isFalse=>cases hx
 rename_i hnd
 cases hx
 obtain⟨r1,r2⟩:=zD X.t _ _ _ _ _ h1
 obtain⟨o1,o2,o3⟩:=zF X.h _ _ _ _ _ h2
 obtain⟨s1,s2⟩:=sN h3
 obtain⟨v1,v2,v3⟩:=L9 X.t dQ sh.vars _ (g y) x (List.replicate sh.n .any) h4 (λi c q=>by
  have:=List.eq_of_mem_replicate (List.mem_of_getElem? q);subst this;exact .inl (.any _))
 obtain⟨w1,w2,w3⟩:=r2 y dQ (qG sh.vars (bX sh.refs (SO.tys sh.objs)) x (List.replicate sh.n .any)).1 o1 v3
 have hes:tZ sh x=gV sh.refs (SO.tys sh.objs) (g y) (qG sh.vars (bX sh.refs (SO.tys sh.objs)) x (List.replicate sh.n .any)).1:=by
  unfold tZ;rw[v1]
 have hfl:foc.length=sh.objs.length:=by rw[<- s1,<- o1.1,<- r1.1,uJ]
 have hh2:(emb sh x).h=fA sh.objs y:=by show fA sh.objs (tZ sh x).2=_;rw[hes,w1]
 have cor:∀(j:Nat) (ob:XO),(emb sh x).h[j]?=some ob->∃id o,foc[j]?=some id/\X.h[id]?=some o/\OR' dQ o ob:=λj ob q=>by
  rw[hh2]at q
  obtain⟨id,o,e1,e2,e3⟩:=o3 j ob q
  rw[Nat.zero_add]at e1
  exact⟨id,o,(s2 j id).1 e1,e2,e3⟩
 have hlen:(emb sh x).h.length=foc.length:=by rw[hh2,o2,hfl]
 have Ia:∀(j id:Nat),foc[j]?=some id->(foc.map λid=>ρ.getD id 0).getD j 0=ρ.getD id 0:=λj id q=>by
  simp[List.getD,List.getElem?_map,q]
 have TD:∀ (id j i o:Nat) (a:AV),dQ[j]?=some (some id)->(∃ ob,X.h[id]?=some ob/\a=.ptr (ρ.getD id 0) ob.len i o)->∃ ob,(emb sh x).h[j]?=some ob/\a=.ptr ((foc.map fun id=>ρ.getD id 0).getD j 0) ob.len i o:=by
   intro id j i o a hj hv
   obtain⟨ob,he,rfl⟩:=hv
   have hj':=(s2 j id).1 hj
   have hjl:j<(emb sh x).h.length:=by rw[hlen];exact(List.getElem?_eq_some_iff.1 hj').1
   obtain⟨id',o',e1,e2,e3⟩:=cor j _ (List.getElem?_eq_getElem hjl)
   rw[hj']at e1
   cases e1
   rw[he]at e2
   cases e2
   refine⟨_,List.getElem?_eq_getElem hjl,?_⟩
   rw[Ia j id hj']
   cases ob with
   |row ty T fz es=>have e3:(emb sh x).h[j]=.row ty T fz es:=e3;rw[e3]
   |vec ty vs=>exact e3.elim
   |map ty K V es=>have e3:(emb sh x).h[j]=.map ty K V es:=e3;rw[e3]
   |box ty vs=>obtain⟨cs,e3,_⟩:=e3;rw[e3];rfl
 have pX:∀(v c:XV) (a:AV),CR dQ v c->V1 ρ X.h v a->V1 (foc.map λid=>ρ.getD id 0) (emb sh x).h c a:=by
  intro v c a hc hv
  cases hc with
  |any=>trivial
  |d _ T z hz=>exact fJ hz (VA.of1 hv)
  |nil=>exact hv
  |row id j hj =>
   obtain⟨ty,T,fz,es,he,rfl⟩:=hv
   have hj':=(s2 j id).1 hj
   have hjl:j<(emb sh x).h.length:=by rw[hlen];exact(List.getElem?_eq_some_iff.1 hj').1
   obtain⟨id',o,e1,e2,e3⟩:=cor j _ (List.getElem?_eq_getElem hjl)
   rw[hj']at e1
   cases e1
   rw[he]at e2
   cases e2
   have e3:(emb sh x).h[j]=.row ty T fz es:=e3
   exact⟨ty,T,fz,es,by rw[List.getElem?_eq_getElem hjl,e3],by rw[Ia j id hj']⟩
  |sub id j o n hj =>
   obtain⟨ty,T,fz,es,he,rfl⟩:=hv
   have hj':=(s2 j id).1 hj
   have hjl:j<(emb sh x).h.length:=by rw[hlen];exact(List.getElem?_eq_some_iff.1 hj').1
   obtain⟨id',o',e1,e2,e3⟩:=cor j _ (List.getElem?_eq_getElem hjl)
   rw[hj']at e1
   cases e1
   rw[he]at e2
   cases e2
   have e3:(emb sh x).h[j]=.row ty T fz es:=e3
   exact⟨ty,T,fz,es,by rw[List.getElem?_eq_getElem hjl,e3],by rw[Ia j id hj']⟩
  |ptr id j i o hj=>exact TD id j i o a hj hv
  |me id j hj =>
   rcases hv with hv|hv
   .exact .inl hv
   .exact .inr (TD id j 0 0 a hj hv)
  |mep id j hj=>exact .inr (TD id j 0 0 a hj hv)
  |men j=>exact .inl hv
  |mp id j hj =>
   obtain⟨ty,K,V,es,he,rfl⟩:=hv
   have hj':=(s2 j id).1 hj
   have hjl:j<(emb sh x).h.length:=by rw[hlen];exact(List.getElem?_eq_some_iff.1 hj').1
   obtain⟨id',o,e1,e2,e3⟩:=cor j _ (List.getElem?_eq_getElem hjl)
   rw[hj']at e1
   cases e1
   rw[he]at e2
   cases e2
   have e3:(emb sh x).h[j]=.map ty K V es:=e3
   exact⟨ty,K,V,es,by rw[List.getElem?_eq_getElem hjl,e3],by rw[Ia j id hj']⟩
 refine⟨⟨?_,?_⟩,?_,hfl,EZ hnd⟩
 .refine⟨?_,λi c a p q=>?_⟩
  .show(tZ sh x).1.length=_
   rw[hes,w2,v2,List.length_replicate,<- hn]
   exact ht.1
  .have hc:=w3 i c (by rw[<- hes];exact p)
   have hil:i<X.t.length:=by rw[ht.1];exact(List.getElem?_eq_some_iff.1 q).1
   have hv:=ht.2 i X.t[i] a (List.getElem?_eq_getElem hil) q
   have hg:X.t.getD i .any=X.t[i]:=by simp[List.getD,List.getElem?_eq_getElem hil]
   rw[hg]at hc
   generalize X.t[i]=v at hc hv
   rcases hc with hc|⟨vs,cs,rfl,rfl,hcs⟩
   case inr =>
    obtain⟨as,rfl,hva⟩:=hv
    refine⟨as,rfl,by rw[<- hcs.1,hva.1],λj c' a' p' q'=>?_⟩
    obtain⟨v',hv',hcr⟩:=hcs.fU p'
    exact pX v' c' a' hcr (hva.2 j v' a' hv' q')
   cases hc with
   |any=>trivial
   |d _ T z hz =>
    refine Du (fJ hz (VT.jC hv λvs q=>?_))
    rw[q]at hz
    cases T<;>simp[toD,lst]at hz
   |row id j hj=>exact VT.of1 (pX _ _ a (.row id j hj) hv)
   |ptr id j i' o hj=>exact VT.of1 (pX _ _ a (.ptr id j i' o hj) hv)
   |nil=>exact hv
   |me id j hj=>exact VT.of1 (pX _ _ a (.me id j hj) hv)
   |mep id j hj=>exact VT.of1 (pX _ _ a (.mep id j hj) hv)
   |men j=>exact VT.of1 (pX _ _ a (.men j) hv)
   |mp id j hj=>exact VT.of1 (pX _ _ a (.mp id j hj) hv)
   |sub id j o n hj=>exact VT.of1 (pX _ _ a (.sub id j o n hj) hv)
 .refine⟨by rw[List.length_map,hlen],?_,λj ob q=>?_⟩
  .have:foc.Nodup:=EZ hnd
   rw[List.nodup_iff_pairwise_ne,List.pairwise_map]
   refine List.Pairwise.imp_of_mem (fun{a b} ha hb hab e=>?_) (List.nodup_iff_pairwise_ne.1 this)
   have lt:∀a∈foc,a<X.h.length:=λa ha=>by
    obtain⟨j,hj⟩:=List.mem_iff_getElem?.1 ha
    have hjl:j<(emb sh x).h.length:=by rw[hlen];exact(List.getElem?_eq_some_iff.1 hj).1
    obtain⟨id',o',e1,e2,e3⟩:=cor j _ (List.getElem?_eq_getElem hjl)
    rw[hj]at e1;cases e1
    exact(List.getElem?_eq_some_iff.1 e2).1
   exact hab (hs.inj (lt a ha) (lt b hb) e)
  .obtain⟨id,o,e1,e2,e3⟩:=cor j ob q
   obtain⟨O,hO,hR⟩:=hs.hr id o e2
   refine⟨O,by rw[Ia j id e1];exact hO,?_⟩
   cases o with
   |row ty T fz es=>have e3:ob=.row ty T fz es:=e3;subst e3;exact hR
   |map ty K V es=>have e3:ob=.map ty K V es:=e3;subst e3;exact hR
   |vec ty vs=>exact e3.elim
   |box ty vs =>
    obtain⟨cs,rfl,hc⟩:=e3
    obtain⟨q1,q2,q3,q4,e,q5,q6⟩:=hR
    refine⟨q1,by rw[q2,hc.1],q3,q4,e,q5,by rw[<- hc.1];exact q6.1,λi c a p q=>?_⟩
    obtain⟨v,hv,hcr⟩:=hc.fU p
    exact pX v c a hcr (q6.2 i v a hv q)
 .intro id hid
  obtain⟨j,hj⟩:=List.mem_iff_getElem?.1 hid
  have hjl:j<(emb sh x).h.length:=by rw[hlen];exact(List.getElem?_eq_some_iff.1 hj).1
  obtain⟨id',o',e1,e2,e3⟩:=cor j _ (List.getElem?_eq_getElem hjl)
  rw[hj]at e1;cases e1
  exact(List.getElem?_eq_some_iff.1 e2).1
theorem QT{nf:Nat}{X:XS}{sh:Sh}{foc:List Nat}{x:Ty.aD sh.tys}(hx:ext nf sh X=some (foc,x)):∀id∈foc,∀ty cs,X.h[id]?≠some (.vec ty cs):=by
 unfold ext at hx
 split at hx
 case h_2=>cases hx
 rename_i dV g h1
 split at hx
 case h_2=>cases hx
 rename_i dQ y h2
 split at hx
 case h_2=>cases hx
 rename_i O6 x3 h3 h4
 split at hx
 case isFalse=>cases hx
 rename_i hnd
 cases hx
 obtain⟨r1,r2⟩:=zD X.t _ _ _ _ _ h1
 obtain⟨o1,o2,o3⟩:=zF X.h _ _ _ _ _ h2
 obtain⟨s1,s2⟩:=sN h3
 intro id hid ty cs q
 obtain⟨j,hj⟩:=List.mem_iff_getElem?.1 hid
 have hfl:foc.length=sh.objs.length:=by rw[<- s1,<- o1.1,<- r1.1,uJ]
 have hjl:j<(fA sh.objs y).length:=by rw[o2,<- hfl];exact(List.getElem?_eq_some_iff.1 hj).1
 obtain⟨id',o,e1,e2,e3⟩:=o3 j _ (List.getElem?_eq_getElem hjl)
 rw[Nat.zero_add]at e1
 have:=(s2 j id').1 e1
 rw[hj]at this
 cases this
 rw[q]at e2
 cases e2
 exact e3
def kK:XO->Nat
 |.row ..=>0
 |.box ..=>1
 |.map ..=>2
 |.vec ..=>3
def kS:SO->Nat
 |.row ..=>0
 |.box ..=>1
 |.map ..=>2
theorem qX:∀(os:List SO) (y:Ty.aD (SO.tys os)),(fA os y).map kK=os.map kS:=by
 intro os
 induction os with
 |nil=>intro y;rfl
 |cons so os ih =>
  intro y
  cases so with
  |row ty T fz=>simp only[fA,List.map_cons,kK,kS,ih]
  |box ty cs=>simp only[fA,List.map_cons,kK,kS,ih]
  |map ty K V=>simp only[fA,List.map_cons,kK,kS,ih]
theorem V6{nf:Nat}{X:XS}{sh:Sh}{foc:List Nat}{x:Ty.aD sh.tys}(hx:ext nf sh X=some (foc,x)):∀(j id:Nat) (o:XO),foc[j]?=some id->X.h[id]?=some o->(sh.objs.map kS)[j]?=some (kK o):=by
 unfold ext at hx
 split at hx
 case h_2=>cases hx
 rename_i dV g h1
 split at hx
 case h_2=>cases hx
 rename_i dQ y h2
 split at hx
 case h_2=>cases hx
 rename_i O6 x3 h3 h4
 split at hx
 case isFalse=>cases hx
 rename_i hnd
 cases hx
 obtain⟨r1,r2⟩:=zD X.t _ _ _ _ _ h1
 obtain⟨o1,o2,o3⟩:=zF X.h _ _ _ _ _ h2
 obtain⟨s1,s2⟩:=sN h3
 intro j id ob hj q
 have hfl:foc.length=sh.objs.length:=by rw[<- s1,<- o1.1,<- r1.1,uJ]
 have hjl:j<(fA sh.objs y).length:=by rw[o2,<- hfl];exact(List.getElem?_eq_some_iff.1 hj).1
 obtain⟨id',o,e1,e2,e3⟩:=o3 j _ (List.getElem?_eq_getElem hjl)
 rw[Nat.zero_add]at e1
 have:=(s2 j id').1 e1
 rw[hj]at this
 cases this
 rw[q]at e2
 cases e2
 rw[<- qX sh.objs y,List.getElem?_map,List.getElem?_eq_getElem hjl]
 show some (kK _)=some (kK ob)
 congr 1
 cases ob with
 |row ty T fz es=>have e3:(fA sh.objs y)[j]=.row ty T fz es:=e3;rw[e3]
 |map ty K V es=>have e3:(fA sh.objs y)[j]=.map ty K V es:=e3;rw[e3]
 |vec ty cs=>exact e3.elim
 |box ty vs=>obtain⟨cs,e3,_⟩:=e3;rw[e3];rfl
theorem Yy{nf:Nat}{X:XS}{sh:Sh}{foc:List Nat}{x:Ty.aD sh.tys}(hx:ext nf sh X=some (foc,x)):∀(j id:Nat) (o:XO),foc[j]?=some id->X.h[id]?=some o->∀{ty:Nat} {T:Ty} {fz:Bool} {es:List T.den},(emb sh x).h[j]?=some (.row ty T fz es)->o=.row ty T fz es:=by
 unfold ext at hx
 split at hx
 case h_2=>cases hx
 rename_i dV g h1
 split at hx
 case h_2=>cases hx
 rename_i dQ y h2
 split at hx
 case h_2=>cases hx
 rename_i O6 x3 h3 h4
 split at hx
 case isFalse=>cases hx
 rename_i hnd
 cases hx
 obtain⟨r1,r2⟩:=zD X.t _ _ _ _ _ h1
 obtain⟨o1,o2,o3⟩:=zF X.h _ _ _ _ _ h2
 obtain⟨s1,s2⟩:=sN h3
 intro j id ob hj q ty T fz es hrow
 have hfl:foc.length=sh.objs.length:=by rw[<- s1,<- o1.1,<- r1.1,uJ]
 have hjl:j<(fA sh.objs y).length:=by rw[o2,<- hfl];exact(List.getElem?_eq_some_iff.1 hj).1
 obtain⟨v1,v2,v3⟩:=L9 X.t dQ sh.vars _ (g y) x (List.replicate sh.n .any) h4 (λi c q=>by
  have:=List.eq_of_mem_replicate (List.mem_of_getElem? q);subst this;exact .inl (.any _))
 obtain⟨w1,w2,w3⟩:=r2 y dQ (qG sh.vars (bX sh.refs (SO.tys sh.objs)) x (List.replicate sh.n .any)).1 o1 v3
 have hes:tZ sh x=gV sh.refs (SO.tys sh.objs) (g y) (qG sh.vars (bX sh.refs (SO.tys sh.objs)) x (List.replicate sh.n .any)).1:=by
  unfold tZ;rw[v1]
 have hh2:(emb sh x).h=fA sh.objs y:=by show fA sh.objs (tZ sh x).2=_;rw[hes,w1]
 rw[hh2,List.getElem?_eq_getElem hjl]at hrow
 have hrow:=Option.some.inj hrow
 obtain⟨id',o,e1,e2,e3⟩:=o3 j _ (List.getElem?_eq_getElem hjl)
 rw[Nat.zero_add]at e1
 have:=(s2 j id').1 e1
 rw[hj]at this
 cases this
 rw[q]at e2
 cases e2
 rw[hrow]at e3
 cases ob with
 |row ty' T' fz' es'=>have e3:XO.row ty T fz es=.row ty' T' fz' es':=e3;exact e3.symm
 |map ty' K V es'=>have e3:XO.row ty T fz es=.map ty' K V es':=e3;cases e3
 |vec ty cs=>exact e3.elim
 |box ty vs=>obtain⟨cs,e3,_⟩:=e3;cases e3
def encs:(ps:List Ty)->Ty.aD ps->List AV
 |[],_=>[]
 |T::ps,x=>Ty.enc T x.1::encs ps x.2
def lQ(l:List AV):AV:=match l with
 |[a]=>a
 |l=>.tup l
def POk(P:Program)(Gl:Nat->Option (List AV))(p:PI):Prop:=callable P p.f=true/\∀x y,p.run x=some y->Pure P Gl p.f (encs p.ps x) (lQ (encs p.rs y))
structure Frm (H0:List ah) (ρ0 ρ:List Nat) (H:List ah):Prop where
 pre:∃l,ρ=ρ0++l/\∀x∈l,H0.length<=x
 ge:H0.length<=H.length
 fr:∀j,j<H0.length->j∉ρ0->H[j]?=H0[j]?
def HOk(P:Program)(Gl:Nat->Option (List AV))(p:HI):Prop:=callable P p.f=true/\∀x y,p.run x=some y->∀(H:List ah) (ρ:List Nat) (as:List AV),Sim ρ (emb p.ish x) ⟨as,H⟩->
 gW P Gl p.f H as (λres H'=>∃ρ' rs,Sim ρ' (emb p.osh y) ⟨rs,H'⟩/\lQ rs=res/\Frm H ρ ρ' H')
theorem Frm.refl(H:List ah)(ρ:List Nat):Frm H ρ ρ H:=⟨⟨[],by simp,by simp⟩,Nat.le_refl _,λ_ _ _=>rfl⟩
theorem Frm.upd{H0 H H':List ah}{ρ0 ρ ρ' kl tch:List Nat}{h h':List XO}(hf:Frm H0 ρ0 ρ H)(hρ:ρ.length=h.length)(hu:Upd ρ h H ρ' h' H' kl tch):Frm H0 ρ0 ρ' H':=by
 obtain⟨l,e1,q1⟩:=hf.pre
 obtain⟨n,e2,q2⟩:=hu.ap
 refine⟨⟨l++n,by rw[e2,e1,List.append_assoc],λx hx=>?_⟩,Nat.le_trans hf.ge hu.ge,λj hj hn=>?_⟩
 .rcases List.mem_append.1 hx with q|q
  .exact q1 x q
  .exact Nat.le_trans hf.ge (q2 x q)
 .rw[hu.fr j (Nat.lt_of_lt_of_le hj hf.ge) (λid _ hid q=>?_),hf.fr j hj hn]
  have hmem:ρ.getD id 0∈ρ:=by
   have hl:id<ρ.length:=by rw[hρ];exact hid
   simp only[List.getD,List.getElem?_eq_getElem hl,Option.getD_some]
   exact List.getElem_mem _
  rw[q,e1]at hmem
  rcases List.mem_append.1 hmem with q'|q'
  .exact hn q'
  .have:=q1 j q';omega
section
variable{ρ:List Nat}{h:List XO}{H:List ah}
theorem J7:∀(rs:List Ty) (y:Ty.aD rs),au (VA ρ h) (zx rs y) (encs rs y):=by
 intro rs
 induction rs with
 |nil=>intro y;exact .nil
 |cons T rs ih=>intro y;exact .cons (Wp.refl _) (ih y.2)
theorem DK(rs:List Ty)(y:Ty.aD rs):VT ρ h (Al rs y) (lQ (encs rs y)):=by
 have hc:=J7 (ρ:=ρ) (h:=h) rs y
 unfold Al lQ
 generalize zx rs y=l at hc
 generalize encs rs y=m at hc
 match l,m,hc with
 |[],m,hc=>have:=hc.fK;subst this;exact⟨[],rfl,.nil⟩
 |[v],m,hc =>
  obtain⟨a,r,rfl,hv,ht⟩:=hc.dK
  have:=ht.fK
  subst this
  exact VT.ofA hv
 |v::w::l,m,hc =>
  obtain⟨a,r,rfl,hv,ht⟩:=hc.dK
  obtain⟨b,r',rfl,hw,ht'⟩:=ht.dK
  exact⟨_,rfl,hc⟩
theorem Mc(T:Ty):Jm T=false->∀x:T.den,((Ty.enc T x).cells.all kJ=yZ T):=by
 refine Ty.rec (motive_1:=λT=>Jm T=false->∀x:T.den,(Ty.enc T x).cells.all kJ=yZ T) (motive_2:=λfs=>nV fs=false->∀x:Ty.aD fs,(Ty.bM fs x).all kJ=qN fs) ?_ ?_ ?_ ?_ ?_ ?_ ?_ ?_ ?_ ?_ T
 .intro k _ x;rfl
 .intro _ x;rfl
 .intro _ x;rfl
 .intro e _ _ x;rfl
 .intro fs ih h x;exact ih h x
 .intro f _ x;rfl
 .intro e _ h;cases h
 .intro _ _ _ x;rfl
 .intro _ x;rfl
 .intro t ts h1 h2 h x
  simp only[nV,Bool.or_eq_false_iff]at h
  simp only[Ty.bM,List.all_append,h1 h.1,h2 h.2,qN]
theorem HV(T:Ty)(hF:Jm T=false)(x:T.den):(match Ty.enc T x with|.v _=>true|.agg cs=>cs.all kJ|_=>false)=yZ T:=by
 cases T with
 |tup fs=>exact Mc (.tup fs) hF x
 |cZ e=>cases hF
 |_=>rfl
theorem Tm:∀(rs:List Ty) (hF:nV rs=false) (y:Ty.aD rs),((encs rs y).all λa=>match a with|.v _=>true|.agg cs=>cs.all kJ|_=>false)=qN rs:=by
 intro rs
 induction rs with
 |nil=>intro _ y;rfl
 |cons T rs ih =>
  intro h y
  simp only[nV,Bool.or_eq_false_iff]at h
  simp only[encs,List.all_cons,HV T h.1,ih h.2,qN]
theorem Hz(rs:List Ty)(hF:nV rs=false)(y:Ty.aD rs):scalar (lQ (encs rs y))=qN rs:=by
 match rs,hF,y with
 |[],_,y=>rfl
 |[T],hF,y =>
  simp only[nV,Bool.or_false]at hF
  show scalar (Ty.enc T y.1)=(yZ T&&true)
  rw[Bool.and_true,<- HV T hF y.1]
  cases T with
  |cZ e=>cases hF
  |_=>rfl
 |T::U::rs,hF,y=>exact Tm (T::U::rs) hF y
mutual
theorem Tj:∀{T:Ty},yZ T=true->Jm T=false
 |.int _,_=>rfl
 |.bool,_=>rfl
 |.str,_=>rfl
 |.list _,_=>rfl
 |.tup fs,h=>xE (fs:=fs) h
 |.fnc _,_=>rfl
 |.cZ _,h=>by cases h
 |.rl _ _,_=>rfl
theorem xE:∀{fs:List Ty},qN fs=true->nV fs=false
 |[],_=>rfl
 |t::ts,h=>by
  simp only[qN,Bool.and_eq_true]at h
  simp only[nV,Tj h.1,xE h.2,Bool.or_self]
end
theorem JM(hs:HS ρ h H):∀(ps:List Ty) (vs:List XV) (x:Ty.aD ps) (as:List AV),sM h ps vs=some x->au (VT ρ h) vs as->∃bs,aX H as=some bs/\au Wp bs (encs ps x)/\as.flatMap aR=(vs.flatMap bq).map (λid=>ρ.getD id 0)/\∀id∈vs.flatMap bq,isRow h id:=by
 intro ps
 induction ps with
 |nil =>
  intro vs x as hx hv
  cases vs with
  |nil=>have:=hv.fK;subst this;exact⟨[],rfl,.nil,rfl,by simp⟩
  |cons=>simp[sM]at hx
 |cons T ps ih =>
  intro vs x as hx hv
  cases vs with
  |nil=>simp[sM]at hx
  |cons v vs =>
   simp only[sM]at hx
   split at hx
   .rename_i z l hz hl
    cases hx
    obtain⟨a,as',rfl,hv1,hv2⟩:=hv.dK
    have hnt:∀us,v≠.tup us:=λus q=>by
     subst q
     cases T<;>simp[toD,lst]at hz
    obtain⟨b,k1,k2,k3,k4⟩:=pY hs hz (hv1.jC hnt)
    obtain⟨bs,i1,i2,i3,i4⟩:=ih vs l as' hl hv2
    refine⟨b::bs,by simp only[aX,k1,i1],.cons k2 i2,by simp[k3,i3],λid hid=>?_⟩
    simp only[List.flatMap_cons,List.mem_append]at hid
    rcases hid with q|q
    .exact k4 id q
    .exact i4 id q
   .cases hx
theorem Yr:∀(ids:List Nat) (h:List XO),ids.all (AJ h)=true->dU h ids=h:=by
 intro ids
 induction ids with
 |nil=>intro h _;rfl
 |cons id ids ih =>
  intro h ha
  simp only[List.all_cons,Bool.and_eq_true]at ha
  have hset:(match h[id]? with|some o=>h.set id (Jq o)|none=>h)=h:=by
   have:=ha.1
   unfold AJ at this
   split at this
   .rename_i ty T fz es he
    rw[he]
    subst this
    simp only[Jq]
    apply List.ext_getElem?
    intro j
    rw[List.getElem?_set]
    split
    .rename_i hj
     subst hj
     split
     .rw[he]
     .rename_i hl;rw[List.getElem?_eq_none (by omega)]
    .rfl
   .cases this
  show dU (match h[id]? with|some o=>h.set id (Jq o)|none=>h) ids=h
  rw[hset];exact ih h ha.2
theorem Oc:∀(os:List SO) (y:Ty.aD (SO.tys os)) (ty:Nat) (cs:List XV),XO.vec ty cs∉fA os y:=by
 intro os
 induction os with
 |nil=>intro y ty cs q;simp[fA]at q
 |cons so os ih =>
  intro y ty cs q
  cases so with
  |row ty' T fz =>
   simp only[fA,List.mem_cons]at q
   rcases q with q|q
   .cases q
   .exact ih _ _ _ q
  |box ty' cs' =>
   simp only[fA,List.mem_cons]at q
   rcases q with q|q
   .cases q
   .exact ih _ _ _ q
  |map ty' K V =>
   simp only[fA,List.mem_cons]at q
   rcases q with q|q
   .cases q
   .exact ih _ _ _ q
theorem UC:∀{os os':List SO},kinds os os'=true->os.length<=os'.length/\∀(j:Nat),j<os.length->(os.map kS)[j]?=(os'.map kS)[j]?:=by
 intro os
 induction os with
 |nil=>intro os' _;exact⟨by simp,λj hj=>by simp at hj⟩
 |cons so os ih =>
  intro os' hk
  cases os' with
  |nil=>cases so<;>simp[kinds]at hk
  |cons so' os' =>
   have hk':kinds os os'=true/\kS so=kS so':=by cases so<;>cases so'<;>simp[kinds]at hk<;>first|exact⟨hk,rfl⟩|exact⟨hk.2,rfl⟩
   obtain⟨a,b⟩:=ih hk'.1
   refine⟨by simp;exact a,λj hj=>?_⟩
   cases j with
   |zero=>simp[hk'.2]
   |succ j=>simpa using b j (by simpa using hj)
theorem PL{kp:List Nat}:∀(foc:List Nat) (os:List SO) (k:Nat),foc.length=os.length->∀(j id:Nat),foc[j]?=some id->(os.map kS)[j]?=some 0->id∈iH kp k foc os\/k+j∈kp:=by
 intro foc
 induction foc with
 |nil=>intro os k _ j id q;simp at q
 |cons f foc ih =>
  intro os k hl j id q kk
  cases os with
  |nil=>simp at hl
  |cons so os =>
   have hl':foc.length=os.length:=by simpa using hl
   cases j with
   |zero =>
    simp at q kk
    subst q
    cases so with
    |row =>
     simp only[iH]
     split
     .rename_i hk
      obtain⟨a,ha,e⟩:=List.any_eq_true.1 hk
      rw[<- beq_eq e]at ha
      exact .inr ha
     .exact .inl (by simp)
    |box=>cases kk
    |map=>cases kk
   |succ j =>
    have:=ih os (k+1) hl' j id (by simpa using q) (by simpa using kk)
    rw[show k+1+j=k+(j+1) by omega]at this
    rcases this with this|this
    .left
     cases so with
     |row =>
      simp only[iH]
      split
      .exact this
      .exact List.mem_cons_of_mem _ this
     |box=>simp only[iH];exact this
     |map=>simp only[iH];exact this
    .exact .inr this
theorem Nv{hi ho:List XO}:∀{kp:List Nat},qB kp hi ho=true->∀j∈kp,∃ty T fz fz' es es',hi[j]?=some (.row ty T fz es)/\ho[j]?=some (.row ty T fz' es')/\es.length=es'.length:=by
 intro kp
 induction kp with
 |nil=>intro _ j hj;cases hj
 |cons a kp ih =>
  intro h j hj
  simp only[qB]at h
  split at h
  .rename_i ty T fz es ty' T' fz' es' h1 h2
   rw[Bool.and_eq_true]at h
   obtain⟨h3,h4⟩:=h
   rcases List.mem_cons.1 hj with rfl|hj
   .split at h3
    .rename_i hc
     simp only[Bool.and_eq_true]at hc
     have e1:=beq_eq hc.1
     have e2:=Ty.same_eq hc.2
     subst e1 e2
     exact⟨_,_,_,_,_,_,h1,h2,beq_eq h3⟩
    .cases h3
   .exact ih h4 j hj
  .cases h
theorem Pn (foc:List Nat) (base:Nat):∀ (l:List Nat) (h os:List XO),l.Nodup->(∀ id ∈ l,id < h.length)->l.length<=os.length ->
  (gY foc base l h os).length=h.length+(os.length-l.length)/\(∀(k id:Nat),l[k]?=some id->(gY foc base l h os)[id]?=(os[k]?).map (uR foc base))/\(∀id,id<h.length->id∉l->(gY foc base l h os)[id]?=h[id]?)/\∀k,l.length<=k->k<os.length->(gY foc base l h os)[h.length+(k-l.length)]?=(os[k]?).map (uR foc base):=by
 intro l
 induction l with
 |nil =>
  intro h os _ _ _
  refine⟨by simp[gY],λk id q=>by simp at q,λid hid _=>?_,λk _ hk=>?_⟩
  .simp only[gY];rw[List.getElem?_append_left hid]
  .simp only[gY,List.length_nil,Nat.sub_zero]
   rw[List.getElem?_append_right (by omega),Nat.add_sub_cancel_left,List.getElem?_map]
 |cons f l ih =>
  intro h os hn hlt hle
  cases os with
  |nil=>simp at hle
  |cons o os =>
   rw[List.nodup_cons]at hn
   have hf:=hlt f (by simp)
   obtain⟨a,b,c,d⟩:=ih (h.set f (uR foc base o)) os hn.2 (λid hid=>by simp;exact hlt id (by simp[hid])) (by simpa using hle)
   refine⟨by simp only[gY];rw[a];simp,λk id q=>?_,λid hid hn'=>?_,λk hk hk'=>?_⟩
   .cases k with
    |zero =>
     simp at q
     subst q
     simp only[gY]
     rw[c f (by simpa using hf) hn.1,List.getElem?_set_self hf]
     rfl
    |succ k =>
     simp only[gY]
     rw[b k id (by simpa using q)]
     simp
   .simp only[gY]
    simp only[List.mem_cons,not_or]at hn'
    rw[c id (by simpa using hid) hn'.2,List.getElem?_set_ne (λq=>hn'.1 q.symm)]
   .cases k with
    |zero=>simp at hk
    |succ k =>
     simp only[gY]
     have:=d k (by simpa using hk) (by simpa using hk')
     rw[List.length_set]at this
     simp only[List.length_cons,Nat.add_sub_add_right,List.getElem?_cons_succ]
     exact this
end
section
variable{ρ:List Nat}{h:List XO}{H H':List ah}
theorem getD_congr{a b:List Nat}{i k:Nat}(q:a[i]?=b[k]?):a.getD i 0=b.getD k 0:=by simp only[List.getD,q]
theorem Ob:∀(vs:List (Nat×Ty)) (r:List Ty) (x:Ty.aD (sZ vs r)) (b:List XV),(∀z∈b,∀us,z≠.tup us)->∀z∈(qG vs r x b).1,∀us,z≠.tup us:=by
 intro vs
 induction vs with
 |nil=>intro r x b hb;exact hb
 |cons p vs ih =>
  intro r x b hb
  obtain⟨s,T⟩:=p
  refine ih r x.2 _ λz hz us q=>?_
  rcases List.mem_or_eq_of_mem_set hz with hz|hz
  .exact hb z hz us q
  .rw[hz]at q;cases q
theorem Kg:∀(refs:List (Nat×SR)) (r:List Ty) (x:Ty.aD (bX refs r)) (b:List XV),(∀z∈b,∀us,z≠.tup us)->∀z∈(gV refs r x b).1,∀us,z≠.tup us:=by
 intro refs
 induction refs with
 |nil=>intro r x b hb;exact hb
 |cons p refs ih =>
  intro r x b hb
  obtain⟨s,sr⟩:=p
  have st:∀c:XV,(∀us,c≠.tup us)->∀z∈b.set s c,∀us,z≠.tup us:=λc hc z hz us q=>by
   rcases List.mem_or_eq_of_mem_set hz with hz|hz
   .exact hb z hz us q
   .rw[hz]at q;exact hc us q
  cases sr with
  |row j=>exact ih r x _ (st _ λus q=>by cases q)
  |ptr j i o=>exact ih r x _ (st _ λus q=>by cases q)
  |nil=>exact ih r x _ (st _ λus q=>by cases q)
  |mp j=>exact ih r x _ (st _ λus q=>by cases q)
  |sub j o n=>exact ih r x _ (st _ λus q=>by cases q)
  |cst k n=>exact ih r x _ (st _ λus q=>by cases q)
  |agg cs=>exact ih r _ _ (st _ λus q=>by cases q)
theorem R7(sh:Sh)(x:Ty.aD sh.tys):∀z∈(emb sh x).t,∀us,z≠.tup us:=by
 refine Kg _ _ _ _ (Ob _ _ _ _ λz hz us q=>?_)
 have:=List.eq_of_mem_replicate hz
 rw[this]at q;cases q
theorem Un {ish osh:Sh} {vs:List XV} {as rs:List AV} {foc ρ':List Nat} {x:Ty.aD ish.tys} {y:Ty.aD osh.tys} (hs:HS ρ h H) (hv:au (VT ρ h) vs as) (hn:vs.length=ish.n) {nf:Nat} (hx:ext nf ish ⟨vs,h⟩=some (foc,x)) (hk:kinds ish.objs osh.objs=true)
  {kp:List Nat} (hkp:qB kp (emb ish x).h (emb osh y).h=true) (hS:Sim ρ' (emb osh y) ⟨rs,H'⟩) (hF:Frm H (foc.map λid=>ρ.getD id 0) ρ' H') :
  ∃ρc,Upd ρ h H ρc (gY foc h.length foc (jV (iH kp 0 foc ish.objs) h) (emb osh y).h) H' (iH kp 0 foc ish.objs) foc/\VT ρc (gY foc h.length foc (jV (iH kp 0 foc ish.objs) h) (emb osh y).h) (TW foc h.length (emb osh y).t) (lQ rs):=by
 obtain⟨hS0,hlt,hfl,hnd⟩:=vP (X:=⟨vs,h⟩) hv hs hn hx
 have hnv:∀id∈foc,∀ty cs,h[id]?≠some (.vec ty cs):=QT hx
 obtain⟨l,hl1,hl2⟩:=hF.pre
 have hlt:∀id∈foc,id<h.length:=hlt
 obtain⟨kl1,kl2⟩:=UC hk
 have ho2:(emb osh y).h.map kK=osh.objs.map kS:=qX _ _
 have ho1:(emb ish x).h.map kK=ish.objs.map kS:=qX _ _
 have hol:(emb osh y).h.length=osh.objs.length:=by have:=congrArg List.length ho2;simpa using this
 have a9i:(emb ish x).h.length=ish.objs.length:=by have:=congrArg List.length ho1;simpa using this
 have hkl:(jV (iH kp 0 foc ish.objs) h).length=h.length:=by rw[mQ];simp
 obtain⟨s1,s2,s3,s4⟩:=Pn foc h.length foc (jV (iH kp 0 foc ish.objs) h) (emb osh y).h hnd (λid hid=>by rw[hkl];exact hlt id hid) (by rw[hol,hfl];exact kl1)
 rw[hkl]at s1 s3 s4
 generalize hkeq:iH kp 0 foc ish.objs=kl at *
 generalize a9l:gY foc h.length foc (jV kl h) (emb osh y).h=hc at *
 have hρ':ρ'.length=(emb osh y).h.length:=hS.h.rl
 have hll:l.length=(emb osh y).h.length-foc.length:=by
  have:=congrArg List.length hl1;simp at this;omega
 have hfo:foc.length<=(emb osh y).h.length:=by rw[hol,hfl];exact kl1
 have num:∀j,j<(emb osh y).h.length->(ρ++l).getD (if Nat.blt j foc.length=true then foc.getD j 0 else h.length+(j-foc.length)) 0=ρ'.getD j 0/\hc[if Nat.blt j foc.length=true then foc.getD j 0 else h.length+(j-foc.length)]?=((emb osh y).h[j]?).map (uR foc h.length):=by
  intro j hj
  by_cases hjf:Nat.blt j foc.length=true
  .have hj':=pJ hjf
   rw[if_pos hjf]
   have hg:foc[j]?=some (foc.getD j 0):=by simp[List.getD,List.getElem?_eq_getElem hj']
   refine⟨?_,s2 j _ hg⟩
   have hm:foc.getD j 0∈foc:=List.mem_of_getElem? hg
   rw[fD (by rw[hs.rl];exact hlt _ hm),hl1,fD (by simpa using hj')]
   simp[List.getD,List.getElem?_map,List.getElem?_eq_getElem hj']
  .have hj':=Ov hjf
   rw[if_neg hjf]
   refine⟨?_,s4 j hj' hj⟩
   rw[hl1]
   have e1:(ρ++l)[h.length+(j-foc.length)]?=l[j-foc.length]?:=by rw[List.getElem?_append_right (by rw[hs.rl];omega),hs.rl,Nat.add_sub_cancel_left]
   have e2:((foc.map λid=>ρ.getD id 0)++l)[j]?=l[j-foc.length]?:=by rw[List.getElem?_append_right (by simpa using hj')];simp
   exact getD_congr (e1.trans e2.symm)
 have pX:∀(v:XV) (a:AV),V1 ρ' (emb osh y).h v a->V1 (ρ++l) hc (Ie foc h.length v) a:=by
  intro v a hv
  cases v with
  |row j =>
   obtain⟨ty,T,fz,es,he,rfl⟩:=hv
   obtain⟨n1,n2⟩:=num j (List.getElem?_eq_some_iff.1 he).1
   exact⟨ty,T,fz,es,by rw[n2,he];rfl,by rw[n1]⟩
  |sub j off len=>trivial
  |nK j len=>trivial
  |pW j=>trivial
  |mp j =>
   obtain⟨ty,K,V,es,he,rfl⟩:=hv
   obtain⟨n1,n2⟩:=num j (List.getElem?_eq_some_iff.1 he).1
   exact⟨ty,K,V,es,by rw[n2,he];rfl,by rw[n1]⟩
  |ptr j i o =>
   obtain⟨ob,he,rfl⟩:=hv
   obtain⟨n1,n2⟩:=num j (List.getElem?_eq_some_iff.1 he).1
   refine⟨uR foc h.length ob,by rw[n2,he];rfl,?_⟩
   rw[n1]
   cases ob<;>rfl
  |me j =>
   rcases hv with hv|⟨ob,he,rfl⟩
   .exact .inl hv
   .obtain⟨n1,n2⟩:=num j (List.getElem?_eq_some_iff.1 he).1
    refine .inr ⟨uR foc h.length ob,by rw[n2,he];rfl,?_⟩
    rw[n1]
    cases ob<;>rfl
  |agg=>exact hv.elim
  |tup=>exact hv.elim
  |_=>exact hv
 have a7B:∀(v:XV) (a:AV),VA ρ' (emb osh y).h v a->VA (ρ++l) hc (Ic foc h.length v) a:=by
  intro v a hv
  by_cases ha:∃cs,v=.agg cs
  .obtain⟨cs,rfl⟩:=ha
   obtain⟨us,rfl,hcs⟩:=hv
   refine⟨us,rfl,by simp[hcs.1],λi z b p q=>?_⟩
   rw[List.getElem?_map]at p
   cases hz:cs[i]? with
   |none=>rw[hz]at p;cases p
   |some w=>rw[hz]at p;cases p;exact pX w b (hcs.2 i w b hz q)
  .have e1:Ic foc h.length v=Ie foc h.length v:=by cases v<;>first|rfl|exact absurd ⟨_,rfl⟩ ha
   rw[e1]
   exact VA.of1 (pX v a (by cases v<;>first|exact hv|exact absurd ⟨_,rfl⟩ ha))
 have nov:∀(j:Nat) (ty:Nat) (cs:List XV),(emb osh y).h[j]?≠some (.vec ty cs):=λj ty cs q=>Oc _ _ ty cs (List.mem_of_getElem? q)
 have a1i:∀(j:Nat) (o:XO) (O:ah),(emb osh y).h[j]?=some o->mW ρ' (emb osh y).h o O->mW (ρ++l) hc (uR foc h.length o) O:=by
  intro j o O hj hR
  cases o with
  |vec ty cs=>exact absurd hj (nov j ty cs)
  |row=>exact hR
  |map=>exact hR
  |box ty cs =>
   obtain⟨a,b,c,d,e,he,hcs⟩:=hR
   refine⟨a,by simpa using b,c,d,e,he,by simp[hcs.1],λi z w p q=>?_⟩
   rw[List.getElem?_map]at p
   cases hz:cs[i]? with
   |none=>rw[hz]at p;cases p
   |some u=>rw[hz]at p;cases p;exact pX u w (hcs.2 i u w hz q)
 have a4h:∀(j id:Nat) (o:XO),foc[j]?=some id->h[id]?=some o->(ish.objs.map kS)[j]?=some (kK o):=V6 hx
 have tr:Trn ρ h (ρ++l) hc kl:=by
  refine Trn.mk (λid o ho hn=>?_) (λid hid=>fD (by rw[hs.rl];exact hid))
  by_cases hf:id∈foc
  .obtain⟨j,hj⟩:=List.mem_iff_getElem?.1 hf
   have hjl:j<foc.length:=(List.getElem?_eq_some_iff.1 hj).1
   have hk1:=a4h j id o hj ho
   have hjo:j<(emb osh y).h.length:=by omega
   have hk2:=kl2 j (by rw[<- hfl];exact hjl)
   rw[hk1,<- ho2,List.getElem?_map,List.getElem?_eq_getElem hjo]at hk2
   have hk3:kK (emb osh y).h[j]=kK o:=by simpa using hk2.symm
   refine⟨uR foc h.length (emb osh y).h[j],by rw[s2 j id hj,List.getElem?_eq_getElem hjo];rfl,?_⟩
   by_cases hr:kK o=0
   .rw[hr]at hk1
    rcases PL (kp:=kp) foc ish.objs 0 hfl j id hj hk1 with q|q
    .rw[hkeq]at q;exact absurd q hn
    .rw[Nat.zero_add]at q
     obtain⟨ty,T,fz,fz',es,es',e1,e2,e3⟩:=Nv hkp j q
     rw[List.getElem?_eq_getElem hjo]at e2
     have e2:=Option.some.inj e2
     rw[e2]
     have:=Yy hx j id o hj ho e1
     rw[this]
     exact⟨rfl,rfl,e3⟩
   .generalize (emb osh y).h[j]=o2 at hk3 ⊢
    cases o with
    |row=>exact absurd rfl hr
    |vec ty cs=>exact absurd ho (hnv id hf ty cs)
    |box ty cs=>cases o2<;>first|(cases hk3;done)|trivial
    |map ty K V es=>cases o2<;>first|(cases hk3;done)|trivial
  .refine⟨eT kl o,?_,?_⟩
   .rw[s3 id (List.getElem?_eq_some_iff.1 ho).1 hf,mQ,List.getElem?_map,ho];rfl
   .cases o<;>simp[lW,eT]
 refine⟨ρ++l,⟨⟨?_,?_,λid o ho=>?_⟩,tr,hF.ge,λj hj hn=>?_,⟨l,rfl,hl2⟩,by rw[s1];omega⟩,?_⟩
 .rw[List.length_append,s1,hs.rl,hll]
 .have hnd':=hS.h.nd
  rw[hl1,List.nodup_append]at hnd'
  rw[List.nodup_append]
  refine⟨hs.nd,hnd'.2.1,λa ha b hb=>?_⟩
  have:=hs.Qq ha
  have:=hl2 b hb
  omega
 .by_cases hid:id<h.length
  .by_cases hf:id∈foc
   .obtain⟨j,hj⟩:=List.mem_iff_getElem?.1 hf
    have hjl:j<foc.length:=(List.getElem?_eq_some_iff.1 hj).1
    have hjo:j<(emb osh y).h.length:=by omega
    rw[s2 j id hj,List.getElem?_eq_getElem hjo]at ho
    cases ho
    obtain⟨O,hO,hR⟩:=hS.h.hr j _ (List.getElem?_eq_getElem hjo)
    refine⟨O,?_,a1i _ _ _ (List.getElem?_eq_getElem hjo) hR⟩
    rw[fD (by rw[hs.rl];exact hid)]
    have:ρ'.getD j 0=ρ.getD id 0:=by rw[hl1,fD (by simpa using hjl)];simp[List.getD,List.getElem?_map,hj]
    rw[this]at hO;exact hO
   .rw[s3 id hid hf,mQ,List.getElem?_map]at ho
    cases hx2:h[id]? with
    |none=>rw[hx2]at ho;cases ho
    |some ox =>
     rw[hx2]at ho;cases ho
     obtain⟨O,hO,hR⟩:=hs.hr id ox hx2
     refine⟨O,?_,tr.obj hR⟩
     rw[fD (by rw[hs.rl];exact hid),hF.fr _ (hs.lt hid) (λq=>?_)]
     .exact hO
     .obtain⟨id',a13,e⟩:=List.mem_map.1 q
      exact hf (hs.inj (hlt id' a13) hid e▸a13)
  .have jo:=(List.getElem?_eq_some_iff.1 ho).1
   rw[s1]at jo
   have hk':=s4 (id-h.length+foc.length) (by omega) (by omega)
   rw[Nat.add_sub_cancel,show h.length+(id-h.length)=id by omega,ho]at hk'
   have hjo:id-h.length+foc.length<(emb osh y).h.length:=by omega
   rw[List.getElem?_eq_getElem hjo]at hk'
   cases hk'
   obtain⟨O,hO,hR⟩:=hS.h.hr _ _ (List.getElem?_eq_getElem hjo)
   refine⟨O,?_,a1i _ _ _ (List.getElem?_eq_getElem hjo) hR⟩
   have e1:(ρ++l)[id]?=l[id-h.length]?:=by rw[List.getElem?_append_right (by rw[hs.rl];omega),hs.rl]
   have e2:ρ'[id-h.length+foc.length]?=l[id-h.length]?:=by rw[hl1,List.getElem?_append_right (by simp)];simp
   have:(ρ++l).getD id 0=ρ'.getD (id-h.length+foc.length) 0:=getD_congr (e1.trans e2.symm)
   rw[this];exact hO
 .refine hF.fr j hj (λq=>?_)
  obtain⟨id,hid,e⟩:=List.mem_map.1 q
  exact hn id hid (hlt id hid) e
 .have ht:=hS.t
  have hts:∀(z:XV) (a:AV),VT ρ' (emb osh y).h z a->(∀us,z≠.tup us)->VA (ρ++l) hc (Ic foc h.length z) a:=λz a q hz=>a7B z a (q.jC hz)
  have hnt:∀z∈(emb osh y).t,∀us,z≠.tup us:=R7 osh y
  unfold TW lQ
  generalize (emb osh y).t=tl at ht hnt
  match tl,rs,ht,hnt with
  |[],rs,ht,_=>have:=ht.fK;subst this;exact⟨[],rfl,.nil⟩
  |[v],rs,ht,hnt =>
   obtain⟨a,r,rfl,hv,htt⟩:=ht.dK
   have:=htt.fK
   subst this
   exact VT.ofA (hts v a hv (hnt v (by simp)))
  |v::w::tl,rs,ht,hnt =>
   obtain⟨a,r,rfl,hv,htt⟩:=ht.dK
   obtain⟨b,r',rfl,hw,a9h⟩:=htt.dK
   refine⟨_,rfl,by simpa using ht.1,λi z c p q=>?_⟩
   rw[List.getElem?_map]at p
   cases hz:(v::w::tl)[i]? with
   |none=>rw[hz]at p;cases p
   |some u=>rw[hz]at p;cases p;exact hts u c (ht.2 i u c hz q) (hnt u (List.mem_of_getElem? hz))
end
structure jH (P:Program) (c:Cfg):Prop where
 pis:∀p∈c.pis,POk P (gx c.GX) p
 his:∀p∈c.his,HOk P (gx c.GX) p
section
variable{P:Program}{c:Cfg}{ρ:List Nat}{h:List XO}{H:List ah}{σ:St}{rd:Opd->XV}{tt:Nat->Option Ty}{Gl:Nat->Option (List AV)}{β:Type}{r:β}
theorem x9{i:I}{p:Bool}{v:XV}{kl:Option Nat}{h':List XO}(hc:i.cls<=1)(hx:aY tt h rd i=some (p,v,kl,h')):kl=none/\h'=h:=by
 cases i<;>simp only[I.cls]at hc<;>first|omega|skip
 all_goals(simp only[aY]at hx)
 all_goals(repeat' (split at hx))
 all_goals first|(cases hx;done)|(cases hx;exact⟨rfl,rfl⟩)
theorem Hq{i:I}(hc:i.cls<=1){q:Prop}{a:AV}{H':List ah}(hx:step Gl σ i=some (q,a,H')):H'=σ.h:=by
 by_cases h0:i.cls=0
 .exact(xA (τ:=σ) h0 (λ_ _=>rfl) hx).1
 .cases i with
  |jf b st n x i =>
   simp only[step]at hx
   repeat' (split at hx)
   all_goals first
    |(cases hx;done)
    |(cases hx;rfl)
  |b2s x =>
   simp only[step]at hx
   split at hx
   .rw[Option.map_eq_some_iff]at hx;obtain⟨_,_,q⟩:=hx;cases q;rfl
   .cases hx
  |aslice b n x lo hi =>
   simp only[step]at hx
   repeat' (split at hx)
   all_goals first
    |(cases hx;done)
    |(rw[Option.map_eq_some_iff]at hx;obtain⟨_,_,q⟩:=hx;cases q;rfl)
  |load sz ag x =>
   simp only[step]at hx
   repeat' (split at hx)
   all_goals first
    |(cases hx;done)
    |(cases hx;rfl)
    |(rw[Option.map_eq_some_iff]at hx;obtain⟨_,_,q⟩:=hx;cases q;rfl)
  |og kt ok z x k =>
   simp only[step]at hx
   repeat' (split at hx)
   all_goals first
    |(cases hx;done)
    |(cases hx;rfl)
  |call f as=>cases hx
  |_=>first|exact absurd rfl h0|(simp[I.cls]at hc;done)
theorem sO {d:Bool} {dst:Option Nat} {K:St->Prop} {i:I} (hn:∀ f as,i ≠ .call f as):gF P Gl d σ dst K i=match step Gl σ i with
  |some (p,a,h')=>p/\K (St.put ⟨σ.t,h'⟩ dst a)
  |none=>False:=by
 cases i<;>first|rfl|exact absurd rfl (hn _ _)
theorem Ez{ρ':List Nat}{h':List XO}{H':List ah}{kl tch:List Nat}(hu:Upd ρ h H ρ' h' H' kl tch)(hρ:ρ.length=h.length)(he:h'.length=h.length):ρ'=ρ:=by
 obtain⟨n,e,_⟩:=hu.ap
 have:=hu.hs.rl
 rw[e,List.length_append]at this
 have hn:n=[]:=List.length_eq_zero_iff.1 (by omega)
 rw[e,hn,List.append_nil]
def Aft(ρ:List Nat)(h:List XO)(σ:St)(d:Bool)(ok:Nat->Bool)(rd:Opd->XV)(i:I)(K:XV->List Nat->List XO->Option β)(r:β)(a:AV)(H':List ah):Prop :=
 ∃ρ' v kl h' tch,Upd ρ h σ.h ρ' h' H' kl tch/\VT ρ' h' v a/\(leaves ok rd i=true->∀id∈tch,ok id=true)/\(i.cls<=1->d=true->ρ'=ρ/\H'=σ.h/\kl=[]/\h'=h)/\K v kl h'=some r
theorem OI (hs:HS ρ h H) {vs:List XV} {as:List AV} (hv:au (VT ρ h) vs as) {f:Nat} {d:Bool} {K:XV->List Nat->List XO->Option β} {o:Option β}:∀ (ps:List PI),(∀ p ∈ ps,POk P Gl p)->xg f d h vs K o ps=some r ->
  (∃bs res v h' tch,callable P f=true/\aX H as=some bs/\Pure P Gl f bs res/\(d=true->(if scalar res then H else freeze H (as.flatMap aR))=H)/\Upd ρ h H ρ h' (if scalar res then H else freeze H (as.flatMap aR)) [] tch/\(∀id∈tch,id∈vs.flatMap bq)/\VT ρ h' v res/\(d=true->h'=h)/\K v [] h'=some r)\/o=some r:=by
 intro ps
 induction ps with
 |nil=>intro _ hx;exact .inr hx
 |cons p ps ih =>
  intro hp hx
  simp only[xg]at hx
  split at hx
  .rename_i hf
   have hf:=beq_eq hf
   subst hf
   split at hx
   .rename_i x ha
    obtain⟨bs,k1,k2,k3,k4⟩:=JM hs _ _ _ _ ha hv
    have hpure:∀y,p.run x=some y->Pure P Gl p.f bs (lQ (encs p.rs y)):=λy hy =>
     ((hp p (by simp)).2 x y hy).weak k2.1 λj a b q q'=>(k2.2 j a b q q').wk
    split at hx
    .rename_i hsc
     cases hy:p.run x with
     |none=>rw[hy]at hx;cases hx
     |some y =>
      rw[hy]at hx
      have hsr:scalar (lQ (encs p.rs y))=true:=by rw[Hz _ (xE hsc)];exact hsc
      refine .inl ⟨bs,_,Al p.rs y,h,[],(hp p (by simp)).1,k1,hpure y hy,λ_=>by rw[hsr];rfl,?_,(λ_ q=>by simp at q),DK _ _,λ_=>rfl,hx⟩
      rw[hsr];exact Upd.same hs
    .rename_i hsc
     split at hx
     .rename_i hd
      cases hy:p.run x with
      |none=>rw[hy]at hx;cases hx
      |some y =>
       rw[hy]at hx
       have a2g:(vs.flatMap bq).all (AJ h)=true->freeze H (as.flatMap aR)=H/\dU h (vs.flatMap bq)=h:=by
        intro hd
        rw[k3]
        refine⟨?_,Yr _ _ hd⟩
        clear hx ih hpure
        have:∀(ids:List Nat),(∀id∈ids,isRow h id)->ids.all (AJ h)=true->freeze H (ids.map λid=>ρ.getD id 0)=H:=by
         intro ids
         induction ids with
         |nil=>intro _ _;rfl
         |cons id ids ih =>
          intro hr ha
          simp only[List.all_cons,Bool.and_eq_true]at ha
          obtain⟨ty,T,fz,es,he⟩:=hr id (by simp)
          have hfz:fz=true:=by have:=ha.1;simp only[AJ,he]at this;exact this
          obtain⟨O,hO,o1,o2,o3,o4,o5⟩:=hs.hr id _ he
          rw[hfz,if_pos rfl]at o4
          have hlen:O.es.length=es.length:=by have:=o5.1;simpa using this
          have hst:H.set (ρ.getD id 0) { O with fz:=O.es.length }=H:=by
           have:({ O with fz:=O.es.length }:ah)=O:=by rw[hlen,<- o4]
           rw[this]
           apply List.ext_getElem?
           intro j
           rw[List.getElem?_set]
           split
           .rename_i hj
            subst hj
            split
            .rw[hO]
            .rename_i hl;rw[List.getElem?_eq_none (by omega)]
           .rfl
          have e:freeze H ((id::ids).map λid=>ρ.getD id 0)=freeze H (ids.map λid=>ρ.getD id 0):=by
           simp only[List.map_cons,freeze,List.foldl_cons,hO];rw[hst]
          rw[e]
          exact ih (λj hj=>hr j (by simp[hj])) ha.2
        exact this _ k4 hd
       by_cases hall:(vs.flatMap bq).all (AJ h)=true
       .obtain⟨f1,f2⟩:=a2g hall
        have hif:(if scalar (lQ (encs p.rs y))=true then H else freeze H (as.flatMap aR))=H:=by rw[f1];split<;>rfl
        rw[f2]at hx
        exact .inl ⟨bs,_,Al p.rs y,h,[],(hp p (by simp)).1,k1,hpure y hy,λ_=>hif,by rw[hif];exact Upd.same hs,(λ_ q=>by simp at q),DK _ _,λ_=>rfl,hx⟩
       ·have hd':d=false/\nV p.rs=false:=by
         have:=Bool.not_eq_true _▸hall
         rw[this]at hd
         simpa using hd
        have hsr:scalar (lQ (encs p.rs y))=false:=by rw[Hz _ hd'.2];simpa using hsc
        have hu:=Upd.frz _ hs k4
        rw[<- k3]at hu
        refine .inl ⟨bs,_,Al p.rs y,_,_,(hp p (by simp)).1,k1,hpure y hy,λq=>?_,by rw[hsr];exact hu,(λ_ q=>q),DK _ _,λq=>?_,hx⟩
        .rw[hd'.1]at q;cases q
        .rw[hd'.1]at q;cases q
     .cases hx
   .exact ih (λq hq=>hp q (by simp[hq])) hx
  .exact ih (λq hq=>hp q (by simp[hq])) hx
theorem OJ (hs:HS ρ h H) {vs:List XV} {as:List AV} (hv:au (VT ρ h) vs as) {f:Nat} {ok:Nat->Bool} {K:XV->List Nat->List XO->Option β}:∀ (ps:List HI),(∀ p ∈ ps,HOk P Gl p)->xk f ok h vs K ps=some r ->
  callable P f=true/\gW P Gl f H as λres H'=>∃ρ' v kl h' tch,Upd ρ h H ρ' h' H' kl tch/\(∀id∈tch,ok id=true)/\VT ρ' h' v res/\K v kl h'=some r:=by
 intro ps
 induction ps with
 |nil=>intro _ hx;cases hx
 |cons p ps ih =>
  intro hp hx
  simp only[xk]at hx
  split at hx
  .rename_i hb
   simp only[Bool.and_eq_true]at hb
   have hf:=beq_eq hb.1.1
   have hn:=beq_eq hb.1.2
   subst hf
   split at hx
   .rename_i foc x he
    split at hx
    case isFalse=>cases hx
    rename_i hfo
    cases hy:p.run x with
    |none=>rw[hy]at hx;cases hx
    |some y =>
     rw[hy]at hx
     have hx:cond (qB p.kp (emb p.ish x).h (emb p.osh y).h) (K _ _ _) none=some r:=hx
     cases hkp:qB p.kp (emb p.ish x).h (emb p.osh y).h with
     |false=>rw[hkp]at hx;cases hx
     |true =>
     rw[hkp]at hx
     have hS:=(vP (X:=⟨vs,h⟩) hv hs hn.symm he).1
     refine⟨(hp p (by simp)).1,((hp p (by simp)).2 x y hy H _ as hS).mono ?_⟩
     rintro res H' ⟨ρ',rs,hS',rfl,hF⟩
     obtain⟨ρc,hu,hvt⟩:=Un hs hv hn.symm he hb.2 hkp hS' hF
     exact⟨ρc,_,_,_,_,hu,λid hid=>List.all_eq_true.1 hfo id hid,hvt,hx⟩
   .exact ih (λq hq=>hp q (by simp[hq])) hx
  .exact ih (λq hq=>hp q (by simp[hq])) hx
theorem Sn (hs:HS ρ h σ.h) (hrd:∀ o,VT ρ h (rd o) (σ.val Gl o)) {tt:Nat->Option Ty} {d:Bool} {ok:Nat->Bool} {K:XV->List Nat->List XO->Option β} {ty sz bytes:Nat} {s x:Opd} {id len:Nat} (h1:rd s=.nK id len)
  (hx:(match tt ty,h[id]? with
   | some T,some (.row _ T' _ es)=>if Nat.beq T.size sz=true then match qY h T (rd x),bC (a:=.list T') (b:=.list T) es with
     |some ys,some es=>cond (someE ys) (cond (fits (len+List.length ys) bytes) (K (.row h.length) [] (h++[.row ty T false (List.take len es++ys)])) none) (K (.sub id 0 len) [] h)
     |_,_=>none
    else none
   |_,_=>none)=some r):∃q a H',step Gl σ (.app ty sz bytes s x)=some (q,a,H')/\q/\Aft ρ h σ d ok rd (.app ty sz bytes s x) K r a H':=by
 have hv:=hrd s
 rw[h1]at hv
 split at hx
 case h_2=>cases hx
 rename_i T ty' T' fz es0 hT he
 split at hx
 case isFalse=>cases hx
 rename_i hz
 have hz:=beq_eq hz
 split at hx
 case h_2=>cases hx
 rename_i ys es hys hcast
 obtain⟨q,rfl⟩:=dR hcast
 cases q
 obtain⟨ty2,T2,fz2,es2,he2,hav,hle⟩:=hv
 rw[he]at he2
 cases he2
 obtain⟨as,ha,hc⟩:=wQ hs hz hys (hrd x)
 have hal:as.length=ys.length:=by rw[hc.1,List.length_map]
 obtain⟨O,hO,o1,o2,o3,o4,o5⟩:=hs.hr id _ he
 have hlen:O.es.length=es0.length:=by have:=o5.1;simpa using this
 cases hy:ys with
 |nil =>
  rw[hy]at hx
  have has:as=[]:=List.length_eq_zero_iff.1 (by rw[hal,hy];rfl)
  subst has
  refine⟨True,.row (ρ.getD id 0) es0.length sz 0 len,σ.h,?_,trivial,ρ,.sub id 0 len,[],h,[],Upd.same hs,?_,λ_ _ q=>by simp at q,λq=>?_,hx⟩
  .simp only[step,nL,ha,hav,hO,hlen,hz,o2,o3,and_self,if_true,List.isEmpty_nil]
  .exact VT.of1 ⟨ty',T,fz,es0,he,by rw[hz]⟩
  .simp[I.cls]at q
 |cons y0 ys0 =>
  have hse:someE ys=true:=by rw[hy];rfl
  rw[hse]at hx
  simp only[cond_true]at hx
  cases hf:fits (len+List.length ys) bytes with
  |false=>rw[hf]at hx;cases hx
  |true =>
   rw[hf]at hx
   simp only[cond_true]at hx
   have hf:=tX hf
   have hne:as.isEmpty=false:=by
    cases as with
    |nil=>rw[hy]at hal;simp at hal
    |cons=>rfl
   have hcc:au Wp (O.es.take len++as) ((es0.take len++ys).map (Ty.enc T)):=by
    rw[List.map_append,List.map_take];exact(o5.take len).append hc
   obtain⟨u1,u2⟩:=jv (ty:=ty) hs hz hcc
   have hl2:(O.es.take len++as).length=len+as.length:=by rw[List.length_append,List.length_take,hlen];omega
   rw[hl2]at u2
   refine⟨(len+as.length)*bytes<=fu/\len+as.length<=4611686018427387904,.row σ.h.length (len+as.length) sz 0 (len+as.length),σ.h++[⟨ty,sz,0,true,O.es.take len++as⟩],?_,⟨by rw[hal];exact hf.1,by rw[hal];exact hf.2⟩,_,.row h.length,[],_,[],u1,VT.of1 u2,λ_ _ q=>by simp at q,λq=>?_,hx⟩
   .simp only[step,nL,ha,hav,hO,hlen,hz,o2,o3,and_self,if_true,hne,Bool.false_eq_true,if_false]
   .simp[I.cls]at q
theorem Sj(hc:jH P c)(hs:HS ρ h σ.h)(hrd:∀o,VT ρ h (rd o) (σ.val (gx c.GX) o)){d:Bool}{ok:Nat->Bool}{K:XV->List Nat->List XO->Option β}{i:I}{dst:Option Nat}{Q:St->Prop}(hx:yS c d ok h rd K i=some r)(hQ:∀a H',Aft ρ h σ d ok rd i K r a H'->Q (St.put ⟨σ.t,H'⟩ dst a)):gF P (gx c.GX) d σ dst Q i:=by
 by_cases hcall:∃f as,i=.call f as
 .obtain⟨f,as,rfl⟩:=hcall
  simp only[yS]at hx
  split at hx
  case h_2=>cases hx
  rename_i fi u hfo
  have hfv:σ.val (gx c.GX) f=.v (.func (.func fi) #[] #[]):=by
   have:=hrd f
   rw[hfo]at this
   exact Zy this
  have hv:=yc (xs:=as) hrd
  rcases OI hs hv c.pis hc.pis hx with⟨bs,res,v,h',tch,k0,k1,k2,k3,k4,k4',k5,k6,k7⟩|ho
  .refine .inr ⟨fi,hfv,k0,.inl ⟨bs,res,k1,k2,k3,hQ _ _ ⟨ρ,v,[],h',tch,k4,k5,(λhm id hid=>List.all_eq_true.1 hm id (k4' id hid)),λ_ hd=>⟨rfl,k3 hd,rfl,k6 hd⟩,k7⟩⟩⟩
  .cases d with
   |true=>cases ho
   |false =>
    obtain⟨k0,kH⟩:=OJ hs hv c.his hc.his ho
    refine .inr ⟨fi,hfv,k0,.inr ⟨rfl,kH.mono ?_⟩⟩
    rintro res H' ⟨ρ',v,kl,h',tch,u1,u1',u2,u3⟩
    exact hQ _ _ ⟨ρ',v,kl,h',tch,u1,u2,(λ_=>u1'),(λ_ hd=>by cases hd),u3⟩
 .have hn:∀f as,i≠.call f as:=λf as q=>hcall ⟨f,as,q⟩
  rw[sO hn]
  by_cases happ:∃ty sz bytes s x id len,i=.app ty sz bytes s x/\rd s=.nK id len
  .obtain⟨ty,sz,bytes,s,x,id,len,rfl,h1⟩:=happ
   simp only[yS,h1]at hx
   obtain⟨q,a,H',e1,e2,e3⟩:=Sn (d:=d) (ok:=ok) hs hrd h1 hx
   rw[e1]
   exact⟨e2,hQ _ _ e3⟩
  have hx':(match aY c.tt h rd i with
    |some (p,v,kl,h')=>cond p (K v kl.toList (jV kl.toList h')) none
    |none=>none)=some r:=by
   rw[<- hx]
   cases i with
   |call f as=>exact absurd rfl (hn _ _)
   |app ty sz bytes s x =>
    simp only[yS]
    cases h1:rd s with
    |nK id len=>exact absurd ⟨ty,sz,bytes,s,x,id,len,rfl,h1⟩ happ
    |_=>rfl
   |_=>rfl
  split at hx'
  .rename_i p v kl h' hst
   cases p with
   |false=>cases hx'
   |true =>
    obtain⟨q,a,H',ρ',tch,e1,e2,e3,e4,e5⟩:=wZ i hs hrd _ _ _ _ hst rfl
    rw[e1]
    refine⟨e2,hQ _ _ ⟨ρ',v,kl.toList,_,tch,e3,e4,e5 ok,λhcl _=>?_,hx'⟩⟩
    obtain⟨c1,c2⟩:=x9 hcl hst
    subst c1 c2
    exact⟨Ez e3 hs.rl rfl,Hq hcl e1,rfl,rfl⟩
  .cases hx'
end
def SpR(ρ:List Nat)(h:List XO)(σ:St)(sp:Sp):Prop:=∀q∈sp,(σ.t.getD q.2.1 .any=.v (.bool q.2.2.1)/\VT ρ h q.2.2.2 (σ.t.getD q.1 .any))\/(σ.t.getD q.2.1 .any≠.v (.bool q.2.2.1)/\σ.t.getD q.1 .any=und)
section
variable{P:Program}{c:Cfg}{ρ:List Nat}{X:XS}{H:List ah}{σ:St}{β:Type}{r:β}{sp:Sp}
theorem lg{h:List XO}{t:List XV}{ts:List AV}(ht:au (VT ρ h) t ts)(i:Nat):VT ρ h (t.getD i .any) (ts.getD i .any):=by
 rcases Nat.lt_or_ge i ts.length with q|q
 .exact ht.getD q _ _
 .have:t[i]?=none:=List.getElem?_eq_none (by rw[ht.1];exact q)
  simp only[List.getD,this,Option.getD_none];trivial
theorem vC(hS:Sim ρ X σ)(o:Opd):VT ρ X.h (rdG c.GX X.t o) (σ.val (gx c.GX) o):=by
 cases o with
 |t i=>exact lg hS.t i
 |k v=>exact VT.of1 (G6 v)
 |g i =>
  simp only[rdG,St.val,gx]
  by_cases hb:Nat.blt i 1000000=true
  case neg=>rw[if_neg hb];trivial
  rw[if_pos hb,if_pos hb]
  cases c.GX i with
  |none=>trivial
  |some p =>
   obtain⟨T,x⟩:=p
   exact⟨_,rfl,by rw[List.drop_zero];exact au.rfl' .refl _⟩
theorem tL(hS:Sim ρ X σ)(hsp:SpR ρ X.h σ sp){ctx:List (Nat×Bool)}(hg:∀g∈ctx,σ.t.getD g.1 .any=.v (.bool g.2))(o:Opd):VT ρ X.h (rdC c.GX sp ctx X.t o) (σ.val (gx c.GX) o):=by
 cases o with
 |t i =>
  simp only[rdC]
  split
  .rename_i q hq
   have hm:=List.mem_of_find?_eq_some hq
   have hp:=List.find?_some hq
   simp only[Bool.and_eq_true,List.any_eq_true]at hp
   obtain⟨e1,g,hgm,hg2⟩:=hp
   have e1:=beq_eq e1
   simp only[Bool.and_eq_true,beq_iff_eq]at hg2
   have e2:=beq_eq hg2.1
   have hgg:=hg g hgm
   rw[e2,hg2.2]at hgg
   rcases hsp q hm with⟨_,h2⟩|⟨h1,_⟩
   .rw[e1]at h2;exact h2
   .exact absurd hgg h1
  .exact lg hS.t i
 |k v=>exact vC (c:=c) hS (.k v)
 |g i=>exact vC (c:=c) hS (.g i)
theorem EB{h:List XO}{t:List XV}{ts:List AV}(ht:au (VT ρ h) t ts){u:Nat}{x:XV}(hx:VT ρ h x (ts.getD u .any)):au (VT ρ h) (t.set u x) ts:=by
 refine⟨by simp[ht.1],λi y a p q=>?_⟩
 rw[List.getElem?_set]at p
 split at p
 .rename_i hi
  subst hi
  split at p
  .cases p
   have:ts.getD u .any=a:=by simp only[List.getD,q,Option.getD_some]
   rw[this]at hx;exact hx
  .cases p
 .exact ht.2 i y a p q
theorem a1z{h:List XO}{s:Nat}{v:Bool}(hg:σ.t.getD s .any=.v (.bool v)):∀(l:Sp) (t:List XV),au (VT ρ h) t σ.t->(∀q∈l,(σ.t.getD q.2.1 .any=.v (.bool q.2.2.1)/\VT ρ h q.2.2.2 (σ.t.getD q.1 .any))\/(σ.t.getD q.2.1 .any≠.v (.bool q.2.2.1)/\σ.t.getD q.1 .any=und))->au (VT ρ h) (l.foldl (λt q=>if Nat.beq q.2.1 s=true then t.set q.1 (if(q.2.2.1==v)=true then q.2.2.2 else kU) else t) t) σ.t:=by
 intro l
 induction l with
 |nil=>intro t ht _;exact ht
 |cons q l ih =>
  intro t ht hl
  refine ih _ ?_ (λq' hq'=>hl q' (by simp[hq']))
  dsimp only
  split
  .rename_i hb
   have hb:=beq_eq hb
   rcases hl q (by simp) with⟨h1,h2⟩|⟨h1,h2⟩
   .rw[hb,hg]at h1
    cases h1
    rw[if_pos (by simp)]
    exact EB ht h2
   .have hne:¬(q.2.2.1==v)=true:=λe=>h1 (by rw[hb,hg];simp only[beq_iff_eq]at e;rw[e])
    rw[if_neg hne]
    refine EB ht ?_
    rw[h2];exact rfl
  .exact ht
theorem HY{t:List XV}{ts:List AV}{h:List XO}(ht:au (VT ρ h) t ts){s:Nat}{b:Bool}(hb:ts.getD s .any=.v (.bool b)):au (VT ρ h) (t.set s (.d .bool b)) ts:=EB ht (by rw[hb];exact Wp.refl _)
theorem vH{s:Nat}{v:Bool}(hS:Sim ρ X σ)(hsp:SpR ρ X.h σ sp)(hg:σ.t.getD s .any=.v (.bool v)):Sim ρ ⟨mK s v sp X.t,X.h⟩ σ/\SpR ρ X.h σ (oW s sp) :=
 ⟨⟨a1z hg sp _ (HY hS.t hg) hsp,hS.h⟩,λq hq=>hsp q (List.mem_filter.1 hq).1⟩
theorem Qx(kl:List Nat):∀sp,zy kl sp=sp.map λq=>(q.1,q.2.1,q.2.2.1,nQ kl q.2.2.2):=by
 induction kl with
 |nil=>intro sp;show sp=_;simp[nQ]
 |cons k kl ih =>
  intro sp
  show zy kl (sp.map _)=_
  rw[ih,List.map_map];rfl
theorem Hf{h:List XO}(a:AV):VT ρ h .any a:=trivial
theorem lq{ρ':List Nat}{h':List XO}{H':List ah}{kl tch:List Nat}{t:List XV}(ht:au (VT ρ X.h) t σ.t)(hu:Upd ρ X.h H ρ' h' H' kl tch){v:XV}{a:AV}(hv:VT ρ' h' v a)(dst:Option Nat):Sim ρ' ⟨nH (zA kl t) dst v,h'⟩ (St.put ⟨σ.t,H'⟩ dst a):=by
 have h1:au (VT ρ' h') (zA kl t) σ.t:=by
  rw[Fb]
  exact⟨by simp[ht.1],λi y b p q=>by
   rw[List.getElem?_map]at p
   cases hy:t[i]? with
   |none=>rw[hy]at p;cases p
   |some z=>rw[hy]at p;cases p;exact hu.tr.T (ht.2 i z b hy q)⟩
 cases dst with
 |none=>exact⟨h1,hu.hs⟩
 |some i=>exact⟨h1.set hv i,hu.hs⟩
theorem AQ{σ:St}{H':List ah}{dst:Option Nat}{a:AV}{j:Nat}(hj:dst≠some j):(St.put ⟨σ.t,H'⟩ dst a).t.getD j .any=σ.t.getD j .any:=by
 cases dst with
 |none=>rfl
 |some i =>
  have:i≠j:=λq=>hj (by rw[q])
  simp only[St.put,List.getD,List.getElem?_set_ne this]
theorem vQ{ρ':List Nat}{h':List XO}{H H':List ah}{kl tch:List Nat}(hsp:SpR ρ X.h σ sp)(hu:Upd ρ X.h H ρ' h' H' kl tch)(dst:Option Nat)(a:AV):SpR ρ' h' (St.put ⟨σ.t,H'⟩ dst a) (dP dst (zy kl sp)):=by
 intro q hq
 have hne:dst≠some q.1/\dst≠some q.2.1/\q∈zy kl sp:=by
  cases dst with
  |none=>exact⟨by simp,by simp,hq⟩
  |some i =>
   simp only[dP,List.mem_filter,Bool.and_eq_true,Bool.not_eq_true']at hq
   refine⟨λe=>?_,λe=>?_,hq.1⟩
   .cases e;simp at hq
   .cases e;simp at hq
 rw[AQ hne.1,AQ hne.2.1]
 have hm:=hne.2.2
 rw[Qx]at hm
 obtain⟨q0,hq0,rfl⟩:=List.mem_map.1 hm
 rcases hsp q0 hq0 with⟨h1,h2⟩|⟨h1,h2⟩
 .exact .inl ⟨h1,hu.tr.T h2⟩
 .exact .inr ⟨h1,h2⟩
def a9d(c:Cfg)(ρ:List Nat)(X:XS)(σ:St)(d:Bool)(ok:Nat->Bool)(ins:Ins)(K:XS->Sp->Option β)(r:β)(τ:St):Prop :=
 ∃ρ' X' sp',Sim ρ' X' τ/\SpR ρ' X'.h τ sp'/\(∃kl tch,Upd ρ X.h σ.h ρ' X'.h τ.h kl tch/\(ins.gd=none->leaves ok (rdG c.GX X.t) ins.i=true->∀id∈tch,ok id=true))/\K X' sp'=some r
theorem zl{σ:St}{H':List ah}{dst:Option Nat}{a:AV}:(St.put ⟨σ.t,H'⟩ dst a).h=H':=by cases dst<;>rfl
theorem EJ{i:I}(h:BK i=true):i.cls<=1/\∀f as,i≠.call f as:=by
 cases i<;>simp[BK]at h<;>exact⟨by simp[I.cls],λf as q=>by cases q⟩
theorem Qo{t:Bool}{x y v:XV}{a b:AV}{h:List XO}(hm:mrg t x y=some v)(ha:t=true->VT ρ h x a)(hb:t=false->VT ρ h y b):VT ρ h v (if t=true then a else b):=by
 unfold mrg at hm
 split at hm
 .rename_i T x T' y
  split at hm
  .rename_i y' hy
   cases hm
   obtain⟨rfl,rfl⟩:=dR hy
   cases t with
   |true=>exact ha rfl
   |false=>exact hb rfl
  .cases hm
 .cases hm
theorem ER{Gl:Nat->Option (List AV)}{σ:St}{s:Nat}{a b:Opd}{t:Bool}(ht:σ.t.getD s .any=.v (.bool t)):step Gl σ (.pick (.t s) a b)=some (True,if t=true then σ.val Gl a else σ.val Gl b,σ.h):=by
 have hts:σ.val Gl (.t s)=.v (.bool t):=ht
 simp only[step,hts]
def a2H(c:Cfg)(ρ:List Nat)(X:XS)(σ:St)(d:Bool)(ok:Nat->Bool)(i:I)(K:XS->Sp->Option β)(r:β)(τ:St):Prop :=
 ∃ρ' X' sp',Sim ρ' X' τ/\SpR ρ' X'.h τ sp'/\(∃kl tch,Upd ρ X.h σ.h ρ' X'.h τ.h kl tch/\(leaves ok (rdG c.GX X.t) i=true->∀id∈tch,ok id=true)/\(i.cls<=1->d=true->ρ'=ρ/\X'.h=X.h/\τ.h=σ.h))/\K X' sp'=some r
theorem Bu(hc:jH P c)(hS:Sim ρ X σ)(hsp:SpR ρ X.h σ sp){d:Bool}{ok:Nat->Bool}{K:XS->Sp->Option β}{Q:St->Prop}{dst:Option Nat}{i:I}(hx:xun c d ok X sp dst K i=some r)(hQ:∀τ,a2H c ρ X σ d ok i K r τ->Q τ):gF P (gx c.GX) d σ dst Q i:=by
 by_cases hp:∃s a b,i=.pick (.t s) a b
 .obtain⟨s,a,b,rfl⟩:=hp
  simp only[xun,Vz]at hx
  have hvs:=lg hS.t s
  have go:∀t:Bool,σ.t.getD s .any=.v (.bool t)->(match(generalizing:=false) mrg t (rdC c.GX sp [(s,true)] X.t a) (rdC c.GX sp [(s,false)] X.t b) with
   |some v=>K ⟨nH X.t dst v,X.h⟩ (dP dst sp)
   |none=>cond t (K ⟨nH (mK s true sp X.t) dst (rdC c.GX sp [(s,true)] X.t a),X.h⟩ (dP dst (oW s sp))) (K ⟨nH (mK s false sp X.t) dst (rdC c.GX sp [(s,false)] X.t b),X.h⟩ (dP dst (oW s sp))))=some r->gF P (gx c.GX) d σ dst Q (.pick (.t s) a b):=by
   intro t ht hy
   rw[sO (by intro f as q;cases q),ER ht]
   refine⟨trivial,hQ _ ?_⟩
   have hva:t=true->VT ρ X.h (rdC c.GX sp [(s,true)] X.t a) (σ.val (gx c.GX) a):=λq=>tL hS hsp (by simp only[List.mem_singleton,forall_eq];rw[ht,q]) a
   have hvb:t=false->VT ρ X.h (rdC c.GX sp [(s,false)] X.t b) (σ.val (gx c.GX) b):=λq=>tL hS hsp (by simp only[List.mem_singleton,forall_eq];rw[ht,q]) b
   have hu:=Upd.same hS.h
   have fin:∀(t':List XV) (sp1:Sp) (v:XV),au (VT ρ X.h) t' σ.t->SpR ρ X.h σ sp1->VT ρ X.h v (if t=true then σ.val (gx c.GX) a else σ.val (gx c.GX) b)->K ⟨nH t' dst v,X.h⟩ (dP dst sp1)=some r->a2H c ρ X σ d ok (.pick (.t s) a b) K r (St.put ⟨σ.t,σ.h⟩ dst (if t=true then σ.val (gx c.GX) a else σ.val (gx c.GX) b)):=by
    intro t' sp1 v ht' hsp1 hv hK
    refine⟨ρ,⟨nH t' dst v,X.h⟩,dP dst sp1,lq (X:=X) (kl:=[]) ht' hu hv dst,vQ (kl:=[]) hsp1 hu dst _,⟨[],[],by rw[zl];exact hu,(λ_ _ q=>by simp at q),λ_ _=>⟨rfl,rfl,zl⟩⟩,hK⟩
   split at hy
   .rename_i v hm
    exact fin X.t sp v hS.t hsp (Qo hm hva hvb) hy
   .cases t with
    |true=>obtain⟨m1,m2⟩:=vH hS hsp ht;exact fin _ _ _ m1.t m2 (hva rfl) hy
    |false=>obtain⟨m1,m2⟩:=vH hS hsp ht;exact fin _ _ _ m1.t m2 (hvb rfl) hy
  split at hx
  .rename_i t hcb
   have hcb:X.t.getD s .any=.d .bool t:=hcb
   rw[hcb]at hvs
   exact go t (kg hvs) hx
  .cases hx
 ·have hx':yS c d ok X.h (rdG c.GX X.t) (fun x kl h'=>K ⟨nH (zA kl X.t) dst x,h'⟩ (dP dst (zy kl sp))) i=some r:=by
   rw[<- hx]
   unfold xun
   split
   .exact absurd ⟨_,_,_,rfl⟩ hp
   .rfl
  refine Sj hc hS.h (vC hS) hx' ?_
  rintro a H' ⟨ρ',v,kl,h',tch,u1,u2,u3,u4,u5⟩
  exact hQ _ ⟨ρ',_,_,lq hS.t u1 u2 dst,vQ hsp u1 dst a,⟨kl,tch,by rw[zl];exact u1,u3,λp q=>⟨(u4 p q).1,(u4 p q).2.2.2,by rw[zl];exact(u4 p q).2.1⟩⟩,u5⟩
theorem H7 {tt:Nat->Option Ty} (hS:Sim ρ X σ) (hsp:SpR ρ X.h σ sp) {s:Nat} {want:Bool} (hg:σ.t.getD s .any=.v (.bool want)) {i:I} (hcl:i.cls<=1) {p:Bool} {v:XV} (hx:Bv c.GX tt X.h X.t sp s want i=some (p,v)) (hp:p=true):∃ q a,step (gx c.GX) σ i=some (q,a,σ.h)/\q/\VT ρ X.h v a:=by
  by_cases hpk:∃s' a b,i=.pick (.t s') a b
  · obtain ⟨s',a,b,rfl⟩:=hpk
    simp only[Bv]at hx
    have hv1:=tL (c:=c) hS hsp (ctx:=[(s,want)]) (by simp only[List.mem_singleton,forall_eq];exact hg) (.t s')
    have go:∀ t:Bool,σ.t.getD s' .any=.v (.bool t)->(match (generalizing:=false) mrg t (rdC c.GX sp [(s',true),(s,want)] X.t a) (rdC c.GX sp [(s',false),(s,want)] X.t b) with
      |some v=>some (true,v)
      |none=>none)=some (p,v)->∃q a',step (gx c.GX) σ (.pick (.t s') a b)=some (q,a',σ.h)/\q/\VT ρ X.h v a':=by
      intro t ht hy
      split at hy
      · rename_i w hm
        cases hy
        refine⟨_,_,ER ht,trivial,?_⟩
        refine Qo hm (λq=>?_) (λq=>?_)
        .exact tL hS hsp (by simp only[List.mem_cons,List.not_mem_nil,or_false,forall_eq_or_imp,forall_eq];exact⟨by rw[ht,q],hg⟩) a
        .exact tL hS hsp (by simp only[List.mem_cons,List.not_mem_nil,or_false,forall_eq_or_imp,forall_eq];exact⟨by rw[ht,q],hg⟩) b
      .cases hy
    split at hx
    · rename_i t hcb
      rw[hcb]at hv1
      exact go t (kg hv1) hx
    .cases hx
  · have hx' : (match aY tt X.h (rdC c.GX sp [(s, want)] X.t) i with
        |some (p,v,_,_)=>some (p,v)
        |none=>none)=some (p,v):=by
      rw[<- hx]
      cases i with
      | pick c' a b=>cases c' with
        |t s'=>exact absurd ⟨_,_,_,rfl⟩ hpk
        |_=>rfl
      |_=>rfl
    split at hx'
    · rename_i p1 v1 q1 q2 hst
      cases hx'
      obtain⟨q,a,H',ρ2,tch,e1,e2,e3,e4,e5⟩:=wZ i hS.h (λo=>tL hS hsp (by simp only[List.mem_singleton,forall_eq];exact hg) o) _ _ _ _ hst hp
      obtain⟨c1,c2⟩:=x9 hcl hst
      subst c1 c2
      have hρ:=Ez e3 hS.h.rl rfl
      have hH:=Hq hcl e1
      subst hρ
      rw[hH]at e1
      exact⟨q,a,e1,e2,e4⟩
    .cases hx'
theorem vY{u s:Nat}{want b:Bool}{v:XV}{a:AV}(hsp:SpR ρ X.h σ sp)(hs:HS ρ X.h σ.h)(hul:u<σ.t.length)(hus:u≠s)(hg:σ.t.getD s .any=.v (.bool b))(hv:(b=want/\VT ρ X.h v a)\/(b≠want/\a=und)):SpR ρ X.h (St.put ⟨σ.t,σ.h⟩ (some u) a) ((u,s,want,v)::dP (some u) sp):=by
 intro q hq
 rcases List.mem_cons.1 hq with rfl|hq
 .have h1:(St.put ⟨σ.t,σ.h⟩ (some u) a).t.getD u .any=a:=by simp[St.put,List.getD,hul]
  have h2:(St.put ⟨σ.t,σ.h⟩ (some u) a).t.getD s .any=.v (.bool b):=by rw[AQ (by simpa using hus)];exact hg
  show((St.put ⟨σ.t,σ.h⟩ (some u) a).t.getD s .any=.v (.bool want)/\VT ρ X.h v ((St.put ⟨σ.t,σ.h⟩ (some u) a).t.getD u .any))\/((St.put ⟨σ.t,σ.h⟩ (some u) a).t.getD s .any≠.v (.bool want)/\(St.put ⟨σ.t,σ.h⟩ (some u) a).t.getD u .any=und)
  rw[h1,h2]
  rcases hv with⟨rfl,hv⟩|⟨hb,rfl⟩
  .exact .inl ⟨rfl,hv⟩
  .exact .inr ⟨λq=>by cases q;exact hb rfl,rfl⟩
 .exact vQ (kl:=[]) hsp (Upd.same hs) (some u) a q hq
theorem Dq(hc:jH P c){d:Bool}{ok:Nat->Bool}{K:XS->Sp->Option β}{ins:Ins}:∀(n:Nat) (X:XS) (sp:Sp) (Q:St->Prop),Sim ρ X σ->SpR ρ X.h σ sp->rC c d ok n X sp K ins=some r->(∀τ,a9d c ρ X σ d ok ins K r τ->Q τ)->bS P (gx c.GX) d σ ins Q:=by
 intro n
 induction n with
 |zero=>intro X sp Q _ _ hx;cases hx
 |succ n ih =>
  intro X sp Q hS hsp hx hQ
  obtain⟨dst,gd,i⟩:=ins
  cases gd with
  |none =>
   show gF P (gx c.GX) d σ dst Q i
   simp only[rC]at hx
   refine Bu hc hS hsp hx λτ hτ=>hQ τ ?_
   obtain⟨ρ',X',sp',a1,a2,⟨kl,tch,a3,a4,_⟩,a5⟩:=hτ
   exact⟨ρ',X',sp',a1,a2,⟨kl,tch,a3,λ_=>a4⟩,a5⟩
  |some g =>
   obtain⟨s,want⟩:=g
   simp only[rC]at hx
   have hvs:=lg hS.t s
   have hu:=Upd.same hS.h
   have skip:∀(X1:XS) (sp1:Sp),X1.h=X.h->Sim ρ X1 σ->SpR ρ X1.h σ sp1->K ⟨nH X1.t dst kU,X1.h⟩ (dP dst sp1)=some r->Q (σ.put dst und):=by
    intro X1 sp1 he hS1 hsp1 hK
    have hu1:=Upd.same hS1.h
    refine hQ _ ⟨ρ,⟨nH X1.t dst kU,X1.h⟩,dP dst sp1,lq (X:=X1) (kl:=[]) hS1.t hu1 (show VT ρ X1.h kU und from rfl) dst,vQ (kl:=[]) hsp1 hu1 dst und,⟨[],[],?_,λq=>by cases q⟩,hK⟩
    have:(σ.put dst und).h=σ.h:=zl (H':=σ.h)
    rw[this]
    show Upd ρ X.h σ.h ρ X1.h σ.h [] []
    rw[he];exact hu
   have a4E:∀ b:Bool,σ.t.getD s .any=.v (.bool b)->(match (generalizing:=false) BK i,dst,Bv c.GX c.tt X.h X.t sp s want i with
     |true,some u,some (p,v)=>if(Nat.blt u X.t.length&&!(Nat.beq u s))=true then cond (p||not (bEq b want)) (K ⟨X.t.set u .any,X.h⟩ ((u,s,want,v)::dP (some u) sp)) none else none
     |_,_,_=>cond b (vo c d ok X sp dst s want i K true) (vo c d ok X sp dst s want i K false))=some r->bS P (gx c.GX) d σ ⟨dst,some (s,want),i⟩ Q:=by
    clear hx
    intro b hg hx
    have hstep:bS P (gx c.GX) d σ ⟨dst,some (s,want),i⟩ Q=if b=want then gF P (gx c.GX) d σ dst Q i else Q (σ.put dst und):=by
     simp only[bS,hg]
    rw[hstep]
    have Hr:vo c d ok X sp dst s want i K b=some r->if b=want then gF P (gx c.GX) d σ dst Q i else Q (σ.put dst und):=by
     intro hy
     obtain⟨m1,m2⟩:=vH hS hsp hg
     unfold vo at hy
     by_cases hw:b=want
     .rw[if_pos hw]
      rw[if_pos (by rw[hw];simp)]at hy
      refine Bu hc m1 m2 hy λτ hτ=>hQ τ ?_
      obtain⟨ρ',X',sp',a1,a2,⟨kl,tch,a3,a4,_⟩,a5⟩:=hτ
      exact⟨ρ',X',sp',a1,a2,⟨kl,tch,a3,λq=>by cases q⟩,a5⟩
     .rw[if_neg hw]
      rw[if_neg (by simpa using hw)]at hy
      exact skip ⟨mK s b sp X.t,X.h⟩ _ rfl m1 m2 hy
    split at hx
    .rename_i u p v hsi hxs
     split at hx
     case isFalse=>cases hx
     rename_i hub
     simp only[Bool.and_eq_true,Bool.not_eq_true']at hub
     have hul:=pJ hub.1
     have hus:u≠s:=λq=>by subst q;simp at hub
     have Jg:u<σ.t.length:=by rw[<- hS.t.1];exact hul
     obtain⟨hcl,Ji⟩:=EJ hsi
     cases hpb:(p||not (bEq b want)) with
     |false=>rw[hpb]at hx;cases hx
     |true =>
      rw[hpb]at hx
      have hx:K ⟨X.t.set u .any,X.h⟩ ((u,s,want,v)::dP (some u) sp)=some r:=hx
      by_cases hw:b=want
      .rw[if_pos hw]
       have hp:p=true:=by
        subst hw
        simpa[bEq]using hpb
       obtain⟨q,a,e1,e2,e4⟩:=H7 hS hsp (by rw[hg,hw]) hcl hxs hp
       rw[sO Ji,e1]
       exact⟨e2,hQ _ ⟨ρ,_,_,lq (X:=X) (kl:=[]) hS.t hu (Hf _) (some u),vY hsp hS.h Jg hus hg (.inl ⟨hw,e4⟩),⟨[],[],hu,λq=>by cases q⟩,hx⟩⟩
      .rw[if_neg hw]
       exact hQ _ ⟨ρ,_,_,lq (X:=X) (kl:=[]) hS.t hu (Hf _) (some u),vY hsp hS.h Jg hus hg (.inr ⟨hw,rfl⟩),⟨[],[],hu,λq=>by cases q⟩,hx⟩
    .cases b with
     |true=>exact Hr hx
     |false=>exact Hr hx
   split at hx
   .rename_i b hb
    rw[hb]at hvs
    exact a4E b (kg hvs) hx
   .rename_i xs hb
    rw[hb]at hvs
    have hg:=Af hvs
    have hstep:bS P (gx c.GX) d σ ⟨dst,some (s,want),i⟩ Q=Q (σ.put dst und):=by simp only[bS,hg]
    rw[hstep]
    exact skip X sp rfl hS hsp hx
   .split at hx
    .rename_i q hq
     have hvq:=lg hS.t q.2.1
     have go:∀b:Bool,σ.t.getD q.2.1 .any=.v (.bool b)->cond b (rC c d ok n ⟨mK q.2.1 true sp X.t,X.h⟩ (oW q.2.1 sp) K ⟨dst,some (s,want),i⟩) (rC c d ok n ⟨mK q.2.1 false sp X.t,X.h⟩ (oW q.2.1 sp) K ⟨dst,some (s,want),i⟩)=some r->bS P (gx c.GX) d σ ⟨dst,some (s,want),i⟩ Q:=by
      intro b hb hy
      obtain⟨m1,m2⟩:=vH hS hsp hb
      have hy':rC c d ok n ⟨mK q.2.1 b sp X.t,X.h⟩ (oW q.2.1 sp) K ⟨dst,some (s,want),i⟩=some r:=by cases b<;>exact hy
      refine ih _ _ Q m1 m2 hy' λτ hτ=>hQ τ ?_
      obtain⟨ρ',X',sp',a1,a2,⟨kl,tch,a3,a4⟩,a5⟩:=hτ
      exact⟨ρ',X',sp',a1,a2,⟨kl,tch,a3,λq=>by cases q⟩,a5⟩
     split at hx
     .rename_i b hb
      rw[hb]at hvq
      exact go b (kg hvq) hx
     .cases hx
    .cases hx
   .cases hx
theorem WY(hc:jH P c){d:Bool}{K:XS->Option β}{H0:List ah}{ρ0:List Nat}:∀(l:List Ins) (X:XS) (sp:Sp) (ρ:List Nat) (σ:St),Sim ρ X σ->SpR ρ X.h σ sp->Frm H0 ρ0 ρ σ.h->Si c d K l X sp=some r->vk P (gx c.GX) d (λτ=>∃ρ' X',Sim ρ' X' τ/\Frm H0 ρ0 ρ' τ.h/\K X'=some r) l σ:=by
 intro l
 induction l with
 |nil=>intro X sp ρ σ hS _ hF hx;exact⟨ρ,X,hS,hF,hx⟩
 |cons i l ih =>
  intro X sp ρ σ hS hsp hF hx
  refine Dq hc 8 X sp _ hS hsp hx ?_
  rintro τ ⟨ρ',X',sp',s1,s2,⟨kl,tch,u,_⟩,hK⟩
  exact ih X' sp' ρ' τ s1 s2 (hF.upd hS.h.rl u) hK
end
section
variable{P:Program}{c:Cfg}{ρ:List Nat}{X:XS}{h:List XO}{H:List ah}{σ:St}{β:Type}{r:β}{sp:Sp}{m N:Nat}{U:List Nat}{Gl:Nat->Option (List AV)}{rd:Opd->XV}
theorem a0f{v:XV}{a:AV}(hv:V1 ρ h v a)(hp:Ce v=true):jc a=(dX v).map λid=>ρ.getD id 0:=by
 cases v with
 |d T x =>
  have hw:Wp a (Ty.enc T x):=hv
  have:=(yV hw []).2
  cases a with
  |agg cs=>rfl
  |_=>exact this
 |k y=>have:a=.v y:=hv;subst this;rfl
 |row id=>obtain⟨ty,T,fz,es,he,rfl⟩:=hv;rfl
 |sub id o l=>obtain⟨ty,T,fz,es,he,rfl⟩:=hv;rfl
 |_=>cases hp
theorem a0e{v:XV}{a:AV}(hv:VT ρ h v a)(hp:Im v=true):aR a=(bq v).map λid=>ρ.getD id 0:=by
 cases v with
 |agg cs =>
  obtain⟨as,rfl,hl⟩:=hv
  show as.flatMap jc=(cs.flatMap dX).map _
  have hp':cs.all Ce=true:=hp
  clear hp
  induction cs generalizing as with
  |nil=>rw[hl.fK];rfl
  |cons c cs ih =>
   obtain⟨a,as',rfl,h1,h2⟩:=hl.dK
   simp only[List.all_cons,Bool.and_eq_true]at hp'
   rw[List.flatMap_cons,List.flatMap_cons,List.map_append,a0f h1 hp'.1,ih as' h2 hp'.2]
 |d T x=>exact(yV (show Wp a (Ty.enc T x) from hv) []).2
 |k y=>have:a=.v y:=hv;subst this;rfl
 |row id=>obtain⟨ty,T,fz,es,he,rfl⟩:=hv;rfl
 |sub id o l=>obtain⟨ty,T,fz,es,he,rfl⟩:=hv;rfl
 |_=>cases hp
theorem a0d:∀{vs:List XV} {as:List AV},au (VT ρ h) vs as->vs.all Im=true->as.flatMap aR=(vs.flatMap bq).map λid=>ρ.getD id 0:=by
 intro vs
 induction vs with
 |nil=>intro as hl _;rw[hl.fK];rfl
 |cons v vs ih =>
  intro as hl hp
  obtain⟨a,as',rfl,h1,h2⟩:=hl.dK
  simp only[List.all_cons,Bool.and_eq_true]at hp
  rw[List.flatMap_cons,List.flatMap_cons,List.map_append,a0e h1 hp.1,ih h2 hp.2]
theorem KU{ok:Nat->Bool}(hrd:∀o,VT ρ h (rd o) (σ.val Gl o)){i:I}(hx:Eb ok rd i=true):∀id∈i.ids Gl σ,∃j,id=ρ.getD j 0/\ok j=true/\j<h.length:=by
 have one:∀x:Opd,(match rd x with|.ptr id _ _=>ok id|.lp _ _ _=>true|_=>false)=true->∀id∈(match σ.val Gl x with|.ptr id _ _ _=>[id]|_=>[]),∃j,id=ρ.getD j 0/\ok j=true/\j<h.length:=by
  intro x hb id hid
  have hv:=hrd x
  split at hb
  .rename_i j i o hj
   rw[hj]at hv
   obtain⟨ob,he,ha⟩:=hv
   rw[ha]at hid
   simp only[List.mem_singleton]at hid
   exact⟨j,hid,hb,(List.getElem?_eq_some_iff.1 he).1⟩
  .rename_i T y o hj
   rw[hj]at hv
   obtain⟨cs,ha,_⟩:=hv
   rw[ha]at hid
   cases hid
  .cases hb
 have two:∀x:Opd,(match rd x with|.ptr id _ _=>ok id|_=>false)=true->(match rd x with|.ptr id _ _=>ok id|.lp _ _ _=>true|_=>false)=true:=by
  intro x hb
  split at hb
  .rename_i h1;rw[h1];exact hb
  .cases hb
 cases i with
 |load sz ag x=>exact one x hx
 |jf b st n x k=>exact one x hx
 |b2s x =>
  intro id hid
  have hv:=hrd x
  simp only[Eb]at hx
  simp only[I.ids]at hid
  split at hx
  .rename_i j hj
   rw[hj]at hv
   obtain⟨ty,T,fz,es,he,ha⟩:=hv
   rw[ha]at hid
   simp only[List.mem_singleton]at hid
   exact⟨j,hid,hx,(List.getElem?_eq_some_iff.1 he).1⟩
  .rename_i j o l hj
   rw[hj]at hv
   obtain⟨ty,T,fz,es,he,ha⟩:=hv
   rw[ha]at hid
   simp only[List.mem_singleton]at hid
   exact⟨j,hid,hx,(List.getElem?_eq_some_iff.1 he).1⟩
  .rename_i T y hj
   rw[hj]at hv
   have hw:Wp (σ.val Gl x) (Ty.enc T y):=hv
   split at hid
   .rename_i q
    rw[q]at hw
    exfalso
    cases T<;>first|(cases hw;done)|(cases y<;>cases hw)
   .cases hid
  .rename_i v hj
   rw[hj]at hv
   rw[show σ.val Gl x=.v v from hv]at hid
   cases hid
  .cases hx
 |aslice b n x lo hi=>exact one x (two x hx)
 |og kt k z x y =>
  intro id hid
  have hv:=hrd x
  simp only[Eb]at hx
  simp only[I.ids]at hid
  split at hx
  .rename_i j hj
   rw[hj]at hv
   obtain⟨ty,K,V,es,he,ha⟩:=hv
   rw[ha]at hid
   simp only[List.mem_singleton]at hid
   exact⟨j,hid,hx,(List.getElem?_eq_some_iff.1 he).1⟩
  .cases hx
 |call fo args =>
  simp only[Eb,Bool.and_eq_true]at hx
  intro id hid
  simp only[I.ids]at hid
  rw[a0d (yc (xs:=args) hrd) hx.1]at hid
  obtain⟨j,hj,rfl⟩:=List.mem_map.1 hid
  refine⟨j,rfl,List.all_eq_true.1 hx.2 j hj,?_⟩
  obtain⟨v,hv,hjv⟩:=List.mem_flatMap.1 hj
  obtain⟨o,ho,rfl⟩:=List.mem_map.1 hv
  have hV:=hrd o
  have lt1:∀{v:XV} {a:AV},V1 ρ h v a->∀j∈dX v,j<h.length:=by
   intro v a hv j hj
   cases v with
   |row id=>obtain⟨ty,T,fz,es,he,_⟩:=hv;simp only[dX,List.mem_singleton]at hj;subst hj;exact(List.getElem?_eq_some_iff.1 he).1
   |sub id o l=>obtain⟨ty,T,fz,es,he,_⟩:=hv;simp only[dX,List.mem_singleton]at hj;subst hj;exact(List.getElem?_eq_some_iff.1 he).1
   |_=>cases hj
  generalize rd o=v at hV hjv
  cases v with
  |agg cs =>
   obtain⟨as,_,hl⟩:=hV
   obtain⟨c',hc',hj'⟩:=List.mem_flatMap.1 hjv
   obtain⟨k,hk⟩:=List.getElem?_of_mem hc'
   obtain⟨b,_,hb⟩:=hl.eD hk
   exact lt1 hb j hj'
  |row id=>exact lt1 (show V1 ρ h (.row id) _ from hV) j hjv
  |sub id o l=>exact lt1 (show V1 ρ h (.sub id o l) _ from hV) j hjv
  |_=>cases hjv
 |_=>intro id hid;cases hid
theorem a06{j:Nat}(h:(Nat.blt j m&&!(U.any (Nat.beq j)))=true):j<m/\j∉U:=by
 simp only[Bool.and_eq_true,Bool.not_eq_true']at h
 refine⟨pJ h.1,λq=>?_⟩
 have:U.any (Nat.beq j)=true:=List.any_eq_true.2 ⟨j,q,Nat.beq_refl j⟩
 rw[this]at h;cases h.2
theorem a3W{j:Nat}(h:(Nat.ble m j||U.any (Nat.beq j))=true):m<=j\/j∈U:=by
 simp only[Bool.or_eq_true,List.any_eq_true]at h
 rcases h with q|⟨x,hx,q⟩
 .exact .inl (Nat.le_of_ble_eq_true q)
 .have:=beq_eq q;subst this;exact .inr hx
theorem getD_inj(hnd:ρ.Nodup){i j:Nat}(hi:i<ρ.length)(hj:j<ρ.length)(h:ρ.getD i 0=ρ.getD j 0):i=j:=by
 simp only[List.getD,List.getElem?_eq_getElem hi,List.getElem?_eq_getElem hj,Option.getD_some]at h
 exact(List.getElem_inj hnd).1 h
theorem Zr (hc:jH P c) {ok:Nat->Bool} (hS:Sim ρ X σ) (hsp:SpR ρ X.h σ sp) {K:XS->Sp->Option β} {ins:Ins} {Q:St->Prop} (hcl:ins.i.cls<=1) (hx:xrd c ok X sp K ins=some r)
  (hQ:∀(X':XS) (sp':Sp) (τ:St),Sim ρ X' τ->SpR ρ X'.h τ sp'->X'.h=X.h->τ.h=σ.h->K X' sp'=some r->Q τ):(wants σ ins->∀id∈ins.i.ids (gx c.GX) σ,∃j,id=ρ.getD j 0/\ok j=true/\j<X.h.length)/\bS P (gx c.GX) true σ ins Q:=by
 have hu:=Upd.same hS.h
 obtain⟨dst,gd,i⟩:=ins
 cases gd with
 |none =>
  simp only[xrd]at hx
  split at hx
  case isFalse=>cases hx
  rename_i hid
  refine⟨λ_=>KU (vC hS) hid,?_⟩
  show gF P (gx c.GX) true σ dst Q i
  refine Bu hc hS hsp hx λτ hτ=>?_
  obtain⟨ρ',X',sp',a1,a2,⟨kl,tch,a3,_,a4⟩,a5⟩:=hτ
  obtain⟨rfl,e1,e2⟩:=a4 hcl rfl
  exact hQ X' sp' τ a1 a2 e1 e2 a5
 |some g =>
  obtain⟨s,want⟩:=g
  simp only[xrd]at hx
  have hvs:=lg hS.t s
  split at hx
  case h_2=>cases hx
  rename_i b hb
  change Bool at b
  rw[hb]at hvs
  have hg:=kg hvs
  split at hx
  case h_2=>cases hx
  rename_i u p v hsi hxs
  split at hx
  case isFalse=>cases hx
  rename_i hub
  simp only[Bool.and_eq_true,Bool.not_eq_true']at hub
  obtain⟨⟨hu1,hu2⟩,hid⟩:=hub
  have hul:=pJ hu1
  have hus:u≠s:=λq=>by subst q;simp at hu2
  have Jg:u<σ.t.length:=by rw[<- hS.t.1];exact hul
  refine⟨λhw=>KU (λo=>tL hS hsp (by simp only[List.mem_singleton,forall_eq];exact hw) o) hid,?_⟩
  have hstep:bS P (gx c.GX) true σ ⟨some u,some (s,want),i⟩ Q=if b=want then gF P (gx c.GX) true σ (some u) Q i else Q (St.put σ (some u) und):=by
   simp only[bS,hg]
  rw[hstep]
  cases hpb:(p||not (bEq b want)) with
  |false=>rw[hpb]at hx;cases hx
  |true =>
   rw[hpb]at hx
   have hx:K ⟨X.t.set u .any,X.h⟩ ((u,s,want,v)::dP (some u) sp)=some r:=hx
   obtain⟨_,Ji⟩:=EJ hsi
   have hany:∀a,Sim ρ ⟨X.t.set u .any,X.h⟩ (St.put ⟨σ.t,σ.h⟩ (some u) a):=λa=>lq (X:=X) (kl:=[]) hS.t hu (Hf a) (some u)
   by_cases hw:b=want
   .rw[if_pos hw]
    have hp:p=true:=by
     subst hw
     simpa[bEq]using hpb
    obtain⟨q,a,e1,e2,e4⟩:=H7 hS hsp (by rw[hg,hw]) hcl hxs hp
    rw[sO Ji,e1]
    exact⟨e2,hQ _ _ (St.put ⟨σ.t,σ.h⟩ (some u) a) (hany a) (vY hsp hS.h Jg hus hg (.inl ⟨hw,e4⟩)) rfl rfl hx⟩
   .rw[if_neg hw]
    exact hQ _ _ (St.put ⟨σ.t,σ.h⟩ (some u) und) (hany und) (vY hsp hS.h Jg hus hg (.inr ⟨hw,rfl⟩)) rfl rfl hx
theorem Sg (hc:jH P c) {K:XS->Option β} {H0:List ah} {ρ0:List Nat} {V:List Nat}:∀ (l:List (Nat × Ins)) (X:XS) (sp:Sp) (ρ:List Nat) (σ:St),Sim ρ X σ->SpR ρ X.h σ sp->Frm H0 ρ0 ρ σ.h->(∀ i,i < m->i < ρ.length->ρ.getD i 0 < N/\(ρ.getD i 0 ∈ V ↔ i ∈ U))->(∀ i,m<=i->i < ρ.length->N<=ρ.getD i 0)->N<=σ.h.length->m<=X.h.length ->
  kM c m U K l X sp=some r->bH P (gx c.GX) N V (λτ=>∃ρ' X',Sim ρ' X' τ/\Frm H0 ρ0 ρ' τ.h/\K X'=some r) l σ:=by
 intro l
 induction l with
 |nil=>intro X sp ρ σ hS _ hF _ _ _ _ hx;exact⟨ρ,X,hS,hF,hx⟩
 |cons p l ih =>
  intro X sp ρ σ hS hsp hF hA hB hN hM hx
  obtain⟨mk,i⟩:=p
  have next:∀(ρ':List Nat) (X':XS) (sp':Sp) (τ:St) (kl tch:List Nat),Sim ρ' X' τ->SpR ρ' X'.h τ sp'->Upd ρ X.h σ.h ρ' X'.h τ.h kl tch->kM c m U K l X' sp'=some r->bH P (gx c.GX) N V (λτ=>∃ρ' X',Sim ρ' X' τ/\Frm H0 ρ0 ρ' τ.h/\K X'=some r) l τ:=by
   intro ρ' X' sp' τ kl tch s1 s2 u hK
   obtain⟨n,e,q⟩:=u.ap
   have hml:m<=ρ.length:=by rw[hS.h.rl];exact hM
   refine ih X' sp' ρ' τ s1 s2 (hF.upd hS.h.rl u) (λj hj hj'=>?_) (λj hj hj'=>?_) (Nat.le_trans hN u.ge) (Nat.le_trans hM u.hl) hK
   .rw[e,fD (by omega)];exact hA j hj (by omega)
   .rcases Nat.lt_or_ge j ρ.length with hl|hl
    .rw[e,fD hl];exact hB j hj hl
    .rw[e]at hj' ⊢
     simp only[List.length_append]at hj'
     have:(ρ++n).getD j 0=n[j-ρ.length]'(by omega):=by
      simp only[List.getD]
      rw[List.getElem?_append_right hl,List.getElem?_eq_getElem (by omega)];rfl
     rw[this]
     exact Nat.le_trans hN (q _ (List.getElem_mem _))
  match mk with
  |0 =>
   simp only[kM]at hx
   refine Dq hc 8 X sp _ hS hsp hx ?_
   rintro τ ⟨ρ',X',sp',s1,s2,⟨kl,tch,u,_⟩,hK⟩
   exact next ρ' X' sp' τ kl tch s1 s2 u hK
  |1 =>
   simp only[kM]at hx
   split at hx
   case isFalse=>cases hx
   rename_i hcl
   obtain⟨k1,k2⟩:=Zr (Q:=bH P (gx c.GX) N V (λτ=>∃ρ' X',Sim ρ' X' τ/\Frm H0 ρ0 ρ' τ.h/\K X'=some r) l) hc hS hsp (Nat.le_of_ble_eq_true hcl) hx (λX' sp' τ s1 s2 he hh hK=>ih X' sp' ρ τ s1 s2 (by rw[hh];exact hF) hA hB (by rw[hh];exact hN) (by rw[he];exact hM) hK)
   refine⟨λhw id hid=>?_,k2⟩
   obtain⟨j,rfl,hok,hj⟩:=k1 hw id hid
   obtain⟨o1,o2⟩:=a06 hok
   have:=hA j o1 (by rw[hS.h.rl];exact hj)
   exact⟨this.1,λq=>o2 (this.2.1 q)⟩
  |k+2 =>
   show bS P (gx c.GX) false σ i (λρ=>agree N V σ.h ρ.h/\bH P (gx c.GX) N V _ l ρ)
   have fin:∀(ρ':List Nat) (X':XS) (sp':Sp) (τ:St) (kl tch:List Nat),Sim ρ' X' τ->SpR ρ' X'.h τ sp'->Upd ρ X.h σ.h ρ' X'.h τ.h kl tch->(∀id∈tch,(Nat.ble m id||U.any (Nat.beq id))=true)->kM c m U K l X' sp'=some r->agree N V σ.h τ.h/\bH P (gx c.GX) N V (λτ=>∃ρ' X',Sim ρ' X' τ/\Frm H0 ρ0 ρ' τ.h/\K X'=some r) l τ:=by
    intro ρ' X' sp' τ kl tch s1 s2 u hlv hK
    refine⟨?_,next ρ' X' sp' τ kl tch s1 s2 u hK⟩
    intro j hj hjV
    refine u.fr j (by omega) (λid hid hil q=>?_)
    have UN:id<ρ.length:=by rw[hS.h.rl];exact hil
    rcases a3W (hlv id hid) with r1|r1
    .have:=hB id r1 UN;omega
    .rcases Nat.lt_or_ge id m with r2|r2
     .exact hjV (q▸(hA id r2 UN).2.2 r1)
     .have:=hB id r2 UN;omega
   obtain⟨dst,gd,ii⟩:=i
   cases gd with
   |none =>
    have hx:(if leaves (λid=>Nat.ble m id||U.any (Nat.beq id)) (rdG c.GX X.t) ii=true then rC c false (λid=>Nat.ble m id||U.any (Nat.beq id)) 8 X sp (λX' sp'=>kM c m U K l X' sp') ⟨dst,none,ii⟩ else none)=some r:=hx
    split at hx
    case isFalse=>cases hx
    rename_i hb
    refine Dq hc 8 X sp _ hS hsp hx ?_
    rintro τ ⟨ρ',X',sp',s1,s2,⟨kl,tch,u,hlv⟩,hK⟩
    exact fin ρ' X' sp' τ kl tch s1 s2 u (hlv rfl hb) hK
   |some g =>
    obtain⟨s,want⟩:=g
    have hx:(match X.t.getD s .any with
     |.d .bool b=>cond b (xwr c (λid=>Nat.ble m id||U.any (Nat.beq id)) X sp dst s want ii (λX' sp'=>kM c m U K l X' sp') true) (xwr c (λid=>Nat.ble m id||U.any (Nat.beq id)) X sp dst s want ii (λX' sp'=>kM c m U K l X' sp') false)
     |_=>none)=some r:=hx
    have hvs:=lg hS.t s
    split at hx
    case h_2=>cases hx
    rename_i b hb
    change Bool at b
    rw[hb]at hvs
    have hg:=kg hvs
    have hw:xwr c (λid=>Nat.ble m id||U.any (Nat.beq id)) X sp dst s want ii (λX' sp'=>kM c m U K l X' sp') b=some r:=by
     cases b<;>exact hx
    obtain⟨m1,m2⟩:=vH hS hsp hg
    have hstep:∀Q,bS P (gx c.GX) false σ ⟨dst,some (s,want),ii⟩ Q=if b=want then gF P (gx c.GX) false σ dst Q ii else Q (σ.put dst und):=by
     intro Q;simp only[bS,hg]
    rw[hstep]
    unfold xwr at hw
    by_cases hbw:b=want
    .rw[if_pos hbw]
     rw[if_pos (by rw[hbw];simp)]at hw
     split at hw
     case isFalse=>cases hw
     rename_i hlv
     refine Bu hc m1 m2 hw λτ hτ=>?_
     obtain⟨ρ',X',sp',a1,a2,⟨kl,tch,a3,a4,_⟩,a5⟩:=hτ
     exact fin ρ' X' sp' τ kl tch a1 a2 a3 (a4 hlv) a5
    .rw[if_neg hbw]
     rw[if_neg (by simpa using hbw)]at hw
     have hu1:=Upd.same m1.h
     refine fin ρ _ _ _ [] [] (lq (X:=⟨mK s b sp X.t,X.h⟩) (kl:=[]) m1.t hu1 (show VT ρ X.h kU und from rfl) dst) (vQ (kl:=[]) m2 hu1 dst und) ?_ (λid q=>by simp at q) hw
     have:(σ.put dst und).h=σ.h:=zl (H':=σ.h)
     show Upd ρ X.h σ.h ρ X.h (σ.put dst und).h [] []
     rw[this];exact Upd.same hS.h
end
section
variable{Gl:Nat->Option (List AV)}{F:Addr->Option Value}{own own':List Ent}{B:Nat}{w0:W0}{σ:St}{act:Act}{w:World}
def Okc(F:Addr->Option Value)(own own':List Ent)(a:AV):Prop:=∀v,R F own v a->R F own' v a
def Cl(n:Nat)(a:AV):Prop:=∀(F:Addr->Option Value) (own own':List Ent),(∀i,i<n->own'[i]?=own[i]?)->Okc F own own' a
theorem a4N{x:Value}{a:AV}(h:RP F x a)(n:Nat):Cl n a:=by
 induction h with
 |any x=>exact λ_ _ _ _ v _=>.pure (.any v)
 |v x=>exact λF own own' _ v h=>by rw[h.aH];exact .pure (.v _)
 |nil sz=>exact λF own own' _ v h=>.pure h.dw
 |list ad n cap sz xs cv hn hc hz hF hR ih=>exact λF own own' _ v h=>.pure h.dw
 |bO ad cs cv hF hR ih=>exact λF own own' _ v h=>.pure h.jM
 |agg xs cs hl h1 hR ih =>
  intro F own own' hw v h
  obtain⟨ys,rfl,hl',h1',hR'⟩:=h.bB
  refine .agg ys cs hl' h1' λj y a p q=>?_
  have hj:j<xs.size:=by rw[hl];exact(List.getElem?_eq_some_iff.1 q).1
  exact ih j _ a (Array.getElem?_eq_getElem hj) q F own own' hw y (hR' j y a p q)
 |tup xs cs hl hR ih =>
  intro F own own' hw v h
  obtain⟨ys,rfl,hl',hR'⟩:=h.mY
  refine .tup ys cs hl' λj y a p q=>?_
  have hj:j<xs.size:=by rw[hl];exact(List.getElem?_eq_some_iff.1 q).1
  exact ih j _ a (Array.getElem?_eq_getElem hj) q F own own' hw y (hR' j y a p q)
theorem zo{id G sz off len:Nat}(h:own'[id]?=own[id]?):Okc F own own' (.row id G sz off len):=λv hv=>by
 obtain⟨e,he,hG,hs,hx⟩:=hv.fP
 exact .row _ _ _ _ _ _ e (by rw[h];exact he) hG hs hx (hv.iG he)
theorem IC{id G sz len:Nat}(h:own'[id]?=own[id]?):Okc F own own' (.iX id G sz len):=λv hv=>by
 obtain⟨e,he,hG,hs,hx⟩:=hv.Bb
 exact .iX _ _ _ _ _ e (by rw[h];exact he) hG hs hx (hv.lG he)
theorem DL{id G i off:Nat}(h:own'[id]?=own[id]?):Okc F own own' (.ptr id G i off):=λv hv=>by
 obtain⟨e,he,hG,hs,hx⟩:=hv.iT
 exact .ptr _ _ _ _ _ e (by rw[h];exact he) hG hs hx (hv.gH he)
theorem Qg{id:Nat}(h:own'[id]?=own[id]?):Okc F own own' (.mp id):=λv hv=>by
 obtain⟨e,he,h0,hx⟩:=hv.vG
 exact .mp _ _ e (by rw[h];exact he) h0 hx
theorem a81{n:Nat}{x:Value}{a:AV}(h:R F own x a)(hn:own.length<=n):Cl n a:=by
 have lt:∀{id:Nat} {e:Ent},own[id]?=some e->id<n:=λq=>Nat.lt_of_lt_of_le (List.getElem?_eq_some_iff.1 q).1 hn
 induction h with
 |pure h=>exact a4N h n
 |mp x id e he h0 hx=>exact λF own own' hw=>Qg (hw id (lt he))
 |row x id G sz off len e he hG hs hx hz=>exact λF own own' hw=>zo (hw id (lt he))
 |iX x id G sz len e he hG hs hx hz=>exact λF own own' hw=>IC (hw id (lt he))
 |ptr x id G i off e he hG hs hx hz=>exact λF own own' hw=>DL (hw id (lt he))
 |clo f xs cs hl hR ih =>
  intro F own own' hw v h
  obtain⟨ys,rfl,hl',hR'⟩:=h.sQ
  refine .clo f ys cs hl' λj y a p q=>?_
  have hj:j<xs.size:=by rw[hl];exact(List.getElem?_eq_some_iff.1 q).1
  exact ih j _ a (Array.getElem?_eq_getElem hj) q F own own' hw y (hR' j y a p q)
 |agg xs cs hl h1 hR ih =>
  intro F own own' hw v h
  obtain⟨ys,rfl,hl',h1',hR'⟩:=h.bB
  refine .agg ys cs hl' h1' λj y a p q=>?_
  have hj:j<xs.size:=by rw[hl];exact(List.getElem?_eq_some_iff.1 q).1
  exact ih j _ a (Array.getElem?_eq_getElem hj) q F own own' hw y (hR' j y a p q)
 |tup xs cs hl hR ih =>
  intro F own own' hw v h
  obtain⟨ys,rfl,hl',hR'⟩:=h.mY
  refine .tup ys cs hl' λj y a p q=>?_
  have hj:j<xs.size:=by rw[hl];exact(List.getElem?_eq_some_iff.1 q).1
  exact ih j _ a (Array.getElem?_eq_getElem hj) q F own own' hw y (hR' j y a p q)
def ClH(n:Nat)(H:List ah):Prop:=∀(j:Nat) (O:ah),H[j]?=some O->O.pr=false->∀(i k:Nat) (e a:AV),O.es[i]?=some e->e.cells[k]?=some a->Cl n a
theorem Inv.clH(h:Inv Gl F own B w0 σ act w):ClH σ.h.length σ.h:=by
 intro j O hO hpr i k e a hi hk
 obtain⟨en,hen,hOr⟩:=h.vE hO
 rcases hOr with⟨_,k1,k2,k3,k4,k5,k6,k7,k8⟩|⟨_,_,m2,_⟩
 case inr=>rw[hpr]at m2;cases m2
 cases hg:en.g with
 |none =>
  rw[hg]at k8
  have:O.es.length=0:=by have k8:en.cap=0:=k8;omega
  have:=(List.getElem?_eq_some_iff.1 hi).1
  omega
 |some g =>
  rw[hg]at k8
  obtain⟨cs,a1,a2,a3,a4⟩:=k8
  obtain⟨y,b1,b2,b3⟩:=a3 i k e a hi hk
  unfold RC at b3
  rw[if_neg (by rw[hpr];simp)]at b3
  exact a81 b3 (Nat.le_of_eq h.hl)
open Classical in
def off1(F:Addr->Option Value)(own own':List Ent)(a:AV):AV:=if Okc F own own' a then a else .any
def jL(F:Addr->Option Value)(own own':List Ent):AV->AV
 |.agg cs=>.agg (cs.map (off1 F own own'))
 |a=>off1 F own own' a
def xV(F:Addr->Option Value)(own own':List Ent):AV->AV
 |.tup vs=>.tup (vs.map (jL F own own'))
 |a=>jL F own own' a
def kE(F:Addr->Option Value)(own own':List Ent)(o:ah):ah:=if o.pr=true then o else{ o with es:=o.es.map (jL F own own') }
theorem DN{a:AV}(h:Okc F own own' a):off1 F own own' a=a:=by unfold off1;rw[if_pos h]
theorem KI(a:AV):off1 F own own' a=a\/off1 F own own' a=.any:=by
 unfold off1;split
 .exact .inl rfl
 .exact .inr rfl
theorem R.off1{x:Value}{a:AV}(h:R F own x a):R F own' x (off1 F own own' a):=by
 unfold Abs.off1
 split
 .rename_i hk;exact hk x h
 .exact .pure (.any x)
theorem qV{a:AV}(h:∀cs,a≠.agg cs):jL F own own' a=Abs.off1 F own own' a:=by
 cases a<;>first|rfl|exact absurd rfl (h _)
theorem EY{a:AV}(h:∀cs,a≠.tup cs):xV F own own' a=jL F own own' a:=by
 cases a<;>first|rfl|exact absurd rfl (h _)
theorem R.jL{x:Value}{a:AV}(h:R F own x a):R F own' x (jL F own own' a):=by
 by_cases ha:∃cs,a=.agg cs
 .obtain⟨cs,rfl⟩:=ha
  obtain⟨xs,rfl,hl,h1,hR⟩:=h.bB
  refine .agg xs _ (by simp[hl]) h1 λj x a p q=>?_
  rw[List.getElem?_map]at q
  cases hc:cs[j]? with
  |none=>rw[hc]at q;cases q
  |some c=>rw[hc]at q;cases q;exact(hR j x c p hc).off1
 .rw[qV λcs q=>ha ⟨cs,q⟩];exact h.off1
theorem R.xV{x:Value}{a:AV}(h:R F own x a):R F own' x (xV F own own' a):=by
 by_cases ha:∃cs,a=.tup cs
 .obtain⟨cs,rfl⟩:=ha
  obtain⟨xs,rfl,hl,hR⟩:=h.mY
  refine .tup xs _ (by simp[hl]) λj x a p q=>?_
  rw[List.getElem?_map]at q
  cases hc:cs[j]? with
  |none=>rw[hc]at q;cases q
  |some c=>rw[hc]at q;cases q;exact(hR j x c p hc).jL
 .rw[EY λcs q=>ha ⟨cs,q⟩];exact h.jL
theorem wE(a:AV):(jL F own own' a).cells=a.cells.map (off1 F own own'):=by
 by_cases ha:∃cs,a=.agg cs
 .obtain⟨cs,rfl⟩:=ha;rfl
 .rw[qV λcs q=>ha ⟨cs,q⟩]
  have hc:a.cells=[a]:=by cases a<;>first|rfl|exact absurd ⟨_,rfl⟩ ha
  rw[hc]
  rcases KI (F:=F) (own:=own) (own':=own') a with q|q
  .rw[q,hc];simp[q]
  .rw[q];simp[q,AV.cells]
theorem Inv.off (h:Inv Gl F own B w0 σ act w) {k:Nat} {e e':Ent} {ob':ah} (he:own[k]?=some e) (hN:w0.N<=k) (hg:e'.g=e.g) (hO':iN F (own.set k e') w e' ob') :
  Inv Gl F (own.set k e') B w0 ⟨σ.t.map (xV F own (own.set k e')),(σ.h.map (kE F own (own.set k e'))).set k ob'⟩ act w:=by
 have hk:k<own.length:=(List.getElem?_eq_some_iff.1 he).1
 have hk':k<σ.h.length:=by rw[<- h.hl];exact hk
 have get:∀{id:Nat} {f:Ent},(own.set k e')[id]?=some f->(id=k/\f=e')\/(id≠k/\own[id]?=some f):=fun{id f} q=>by
  by_cases hi:k=id
  .subst hi;rw[List.getElem?_set_self hk]at q;cases q;exact .inl ⟨rfl,rfl⟩
  .rw[List.getElem?_set_ne hi]at q;exact .inr ⟨λq=>hi q.symm,q⟩
 have NY:∀{id:Nat} {f:Ent},(own.set k e')[id]?=some f->∃f0,own[id]?=some f0/\f0.g=f.g:=fun{id f} q=>by
  rcases get q with⟨rfl,rfl⟩|⟨_,q⟩
  .exact⟨e,he,hg.symm⟩
  .exact⟨f,q,rfl⟩
 refine{ tl:=by simp[h.tl],tr:=λi x a p q=>?_,defers:=h.defers,sub:=h.sub,hl:=by simp[h.hl],objs:=λid f o p q=>?_,inj:=λi j f f' g p q r s=>?_,below:=h.below,base:=λid f g p q=>?_,gl:=h.gl,gw:=h.gw,room:=h.room,ext:=h.ext,dW:=h.dW,nl:=by have:=h.nl;simpa using this,fr:=λq hq=>?_,pd:=yQ.turn h.pd (λ_ _ _=>rfl) (λ_ _ _ q=>.inl q) (λid f g p q=>by obtain⟨f0,q1,q2⟩:=NY p;exact .inl λr=>r id f0 q1 (q2.trans q)) }
 .have q:(σ.t.map (Abs.xV F own (own.set k e')))[i]?=some a:=q
  rw[List.getElem?_map]at q
  cases hc:σ.t[i]? with
  |none=>rw[hc]at q;cases q
  |some c=>rw[hc]at q;cases q;exact(h.tr i x c p hc).xV
 .have q:((σ.h.map (kE F own (own.set k e'))).set k ob')[id]?=some o:=q
  rcases get p with⟨rfl,rfl⟩|⟨hid,hf⟩
  .rw[List.getElem?_set_self (by simpa using hk')]at q
   cases q
   exact hO'
  .rw[List.getElem?_set_ne (λq=>hid q.symm),List.getElem?_map]at q
   cases ho:σ.h[id]? with
   |none=>rw[ho]at q;cases q
   |some O =>
    rw[ho]at q;cases q
    rcases h.objs id f O hf ho with⟨k0,k1,k2,k3,k4,k5,k6,k7,k8⟩|hm
    case inr =>
     have:kE F own (own.set k e') O=O:=by simp[kE,hm.2.2.1]
     rw[this]
     exact .inr hm
    by_cases hpr:O.pr=true
    .have:kE F own (own.set k e') O=O:=by simp[kE,hpr]
     rw[this]
     refine .inl ⟨k0,k1,k2,k3,k4,k5,k6,k7,?_⟩
     cases hg:f.g with
     |none=>rw[hg]at k8;exact k8
     |some g =>
      rw[hg]at k8
      obtain⟨cs,a1,a2,a3,a4⟩:=k8
      refine⟨cs,a1,a2,λi j x a r s=>?_,a4⟩
      obtain⟨y,b1,b2,b3⟩:=a3 i j x a r s
      refine⟨y,b1,b2,?_⟩
      unfold RC at b3 ⊢
      rw[if_pos hpr]at b3 ⊢
      exact b3
    .have e1:kE F own (own.set k e') O={ O with es:=O.es.map (Abs.jL F own (own.set k e')) }:=by simp[kE,hpr]
     rw[e1]
     have el:∀(i:Nat) (x:AV),(O.es.map (Abs.jL F own (own.set k e')))[i]?=some x->∃z,O.es[i]?=some z/\x=Abs.jL F own (own.set k e') z:=λi x q=>by
      rw[List.getElem?_map]at q
      cases hz:O.es[i]? with
      |none=>rw[hz]at q;cases q
      |some z=>rw[hz]at q;cases q;exact⟨z,rfl,rfl⟩
     refine .inl ⟨k0,by simp[k1],k2,k3,k4,⟨k5.1,by simpa using k5.2⟩,by simpa using k6,λi x q=>?_,?_⟩
     .obtain⟨z,hz,rfl⟩:=el i x q
      rw[wE,List.length_map];exact k7 i z hz
     .cases hg:f.g with
      |none=>rw[hg]at k8;exact k8
      |some g =>
       rw[hg]at k8
       obtain⟨cs,a1,a2,a3,a4⟩:=k8
       obtain⟨fr,a1,af⟩:=a1
       refine⟨cs,⟨fr,a1,by rw[List.length_map];exact af⟩,a2,λi j x a r s=>?_,a4⟩
       obtain⟨z,hz,rfl⟩:=el i x r
       rw[wE,List.getElem?_map]at s
       cases hc:z.cells[j]? with
       |none=>rw[hc]at s;cases s
       |some c =>
        rw[hc]at s;cases s
        obtain⟨y,b1,b2,b3⟩:=a3 i j z c hz hc
        refine⟨y,b1,b2,?_⟩
        unfold RC at b3 ⊢
        rw[if_neg hpr]at b3 ⊢
        exact b3.off1
 .obtain⟨f0,q1,q2⟩:=NY p
  obtain⟨f1,q3,q4⟩:=NY q
  exact h.inj i j f0 f1 g q1 q3 (by rw[q2];exact r) (by rw[q4];exact s)
 .obtain⟨f0,q1,q2⟩:=NY p
  exact h.base id f0 g q1 (by rw[q2];exact q)
 ·have:(own.set k e').take q.1=own.take q.1:=by
   apply List.ext_getElem?
   intro j
   rw[List.getElem?_take,List.getElem?_take]
   split
   .rename_i hj
    have:=w0.hfr q hq
    rw[List.getElem?_set_ne (by omega)]
   .rfl
  rw[this];exact h.fr q hq
theorem Inv.cut (h:Inv Gl F own B w0 σ act w) {k s len:Nat} {ob:ah} {sz:Nat} (hob:σ.h[k]?=some ob) (hpr:ob.pr=true) (hfz:ob.fz=0) (hN:w0.N<=k) (hs:σ.t[s]?=some (.row k ob.es.length sz 0 len)) :
  ∃e',len<=ob.es.length/\Inv Gl F (own.set k e') B w0 ⟨(σ.t.map (xV F own (own.set k e'))).set s (.row k len sz 0 len),(σ.h.map (kE F own (own.set k e'))).set k { ob with es:=ob.es.take len }⟩ act w:=by
 obtain⟨e,he,hOr⟩:=h.vE hob
 have hk:k<own.length:=(List.getElem?_eq_some_iff.1 he).1
 have hlt:s<act.tmps.size:=by rw[h.tl];exact(List.getElem?_eq_some_iff.1 hs).1
 have hR:=h.tr s _ _ (Array.getElem?_eq_getElem hlt) hs
 obtain⟨k1,k2,k3,k4,k5,k6,k7,k8⟩:=hOr.qx (hR.iG he)
 obtain⟨e2,he2,hG,hsl,hx⟩:=hR.fP
 rw[he]at he2
 cases he2
 obtain⟨x1,x2,x3⟩:=hx k1.symm
 obtain⟨cp,c1,c2⟩:=x3 (.inr rfl)
 have hle:len<=ob.es.length:=by omega
 have hO':iN F (own.set k { e with G:=len }) w { e with G:=len } { ob with es:=ob.es.take len }:=by
  refine iO.r ⟨by simp[hle],k2,k3,by show len<=e.cap;omega,⟨k5.1,λq=>by have q:ob.pr=false:=q;rw[hpr]at q;cases q⟩,by show ob.fz<=_;omega,λi x q=>?_,?_⟩
  .have q:(ob.es.take len)[i]?=some x:=q
   rw[List.getElem?_take]at q
   split at q
   .exact k7 i x q
   .cases q
  ·show match e.g with
    |none=>e.cap=0
    |some g=>_
   cases hg:e.g with
   |none=>rw[hg]at k8;exact k8
   |some g =>
    rw[hg]at k8
    obtain⟨cs,a1,a2,a3,a4⟩:=k8
    obtain⟨fr,a1,af⟩:=a1
    refine⟨cs,⟨fr,a1,af.imp id (λq=>by exfalso;omega)⟩,a2,λi j x a r s=>?_,a4⟩
    have r:(ob.es.take len)[i]?=some x:=r
    rw[List.getElem?_take]at r
    split at r
    .obtain⟨y,b1,b2,b3⟩:=a3 i j x a r s
     refine⟨y,b1,b2,?_⟩
     unfold RC at b3 ⊢
     rw[if_pos hpr]at b3
     rw[if_pos (show({ ob with es:=ob.es.take len }:ah).pr=true from hpr)]
     exact b3
    .cases r
 refine⟨{ e with G:=len },hle,?_⟩
 have hI:=h.off (e':={ e with G:=len }) he hN rfl hO'
 have hrow:R F (own.set k { e with G:=len }) act.tmps[s] (.row k len sz 0 len) :=
  .row _ _ _ _ _ _ { e with G:=len } (by rw[List.getElem?_set_self hk]) (Nat.le_refl _) hsl (λ_=>⟨x1,by omega,λ_=>⟨cp,c1,c2⟩⟩) (by show 0<e.sz;rw[k2];exact k3)
 have:=hI.put hrow (some s)
 have e1:act.put (some s) act.tmps[s]=act:=by
  have hs:act.tmps.setIfInBounds s act.tmps[s]=act.tmps:=by
   apply Array.ext_getElem?
   intro j
   rw[Array.getElem?_setIfInBounds]
   split
   .rename_i hj
    subst hj
    rw[Array.getElem?_eq_getElem hlt]
   .rfl
  show({ act with tmps:=act.tmps.setIfInBounds s act.tmps[s] }:Act)=act
  rw[hs]
 rw[e1]at this
 exact this
def w9(e:AV)(o:Nat)(a:AV):AV:=match e with
 |.agg us=>.agg (us.set o a)
 |_=>a
theorem vZ{e a b:AV}{o:Nat}(ha:a.cells=[a])(ho:e.cells[o]?=some b):(w9 e o a).cells=e.cells.set o a:=by
 by_cases h:∃us,e=.agg us
 .obtain⟨us,rfl⟩:=h;rfl
 .have hc:e.cells=[e]:=by cases e<;>first|rfl|exact absurd ⟨_,rfl⟩ h
  have hs:w9 e o a=a:=by cases e<;>first|rfl|exact absurd ⟨_,rfl⟩ h
  rw[hc]at ho ⊢
  have:o=0:=by
   have:=(List.getElem?_eq_some_iff.1 ho).1
   simp at this;exact this
  subst this
  rw[hs,ha];rfl
theorem Inv.Rm (h:Inv Gl F own B w0 σ act w) {k o:Nat} {ob:ah} {e0 a0 a':AV} (hob:σ.h[k]?=some ob) (hes:ob.es=[e0]) (hpr:ob.pr=false) (ho:e0.cells[o]?=some a0) (ha:∀ (e:Ent) (g:Nat) (cs:Array Value) (fr:Nat × Nat) (y:Value),own[k]?=some e->e.g=some g->w.heap[g]?=some (.cells cs ob.ty fr)->cs[0 * ob.sz + o]?=some y->R F own y a0->R F own y a') (hac:a'.cells=[a']) :
  Inv Gl F own B w0 ⟨σ.t,σ.h.set k { ob with es:=[w9 e0 o a'] }⟩ act w:=by
 have hk:k<σ.h.length:=(List.getElem?_eq_some_iff.1 hob).1
 refine h.turn (λ_ _ q=>q) (Le.refl _) h.sub (by simp[h.hl]) (λid e o' p q=>?_) h.inj h.below h.base
 have q:(σ.h.set k { ob with es:=[w9 e0 o a'] })[id]?=some o':=q
 by_cases hid:k=id
 .subst hid
  rw[List.getElem?_set_self hk]at q
  cases q
  rcases h.objs k e ob p hob with⟨k0,k1,k2,k3,k4,k5,k6,k7,k8⟩|⟨_,_,m2,_⟩
  case inr=>rw[hpr]at m2;cases m2
  have hcl:=vZ hac ho
  refine iO.r ⟨by rw[k1,hes];rfl,k2,k3,k4,⟨k5.1,λq=>by rw[k5.2 q,hes];rfl⟩,by rw[hes]at k6;exact k6,λi x q=>?_,?_⟩
  .have q:[w9 e0 o a'][i]?=some x:=q
   have hi:i=0:=by have:=(List.getElem?_eq_some_iff.1 q).1;simpa using this
   subst hi
   cases q
   rw[hcl,List.length_set]
   exact k7 0 e0 (by rw[hes];rfl)
  .cases hg:e.g with
   |none=>rw[hg]at k8;exact k8
   |some g =>
    rw[hg]at k8
    obtain⟨cs,a1,a2,a3,a4⟩:=k8
    obtain⟨fr,a1,af⟩:=a1
    refine⟨cs,⟨fr,a1,by rw[hes]at af;exact af⟩,a2,λi j x a r s=>?_,a4⟩
    have r:[w9 e0 o a'][i]?=some x:=r
    have hi:i=0:=by have:=(List.getElem?_eq_some_iff.1 r).1;simpa using this
    subst hi
    cases r
    rw[hcl,List.getElem?_set]at s
    split at s
    .rename_i hj
     subst hj
     split at s
     .cases s
      obtain⟨y,b1,b2,b3⟩:=a3 0 o e0 _ (by rw[hes];rfl) ho
      refine⟨y,b1,b2,?_⟩
      unfold RC at b3 ⊢
      rw[if_neg (by rw[hpr];simp)]at b3
      rw[if_neg (by show ¬ob.pr=true;rw[hpr];simp)]
      exact ha e g cs fr y p hg a1 b1 b3
     .cases s
    .exact a3 0 j e0 a (by rw[hes];rfl) s
 .rw[List.getElem?_set_ne hid]at q
  exact h.objs id e o' p q
theorem Inv.YS (h:Inv Gl F own B w0 σ act w) {k o:Nat} {ob:ah} {e0 a':AV} {v:Value} (hob:σ.h[k]?=some ob) (hes:ob.es=[e0]) (hpr:ob.pr=false) (ho:e0.cells[o]?=some (.v v)) (ha:R F own v a') (hac:a'.cells=[a']) :
  Inv Gl F own B w0 ⟨σ.t,σ.h.set k { ob with es:=[w9 e0 o a'] }⟩ act w:=h.Rm hob hes hpr ho (λe g cs fr y _ _ _ _ q=>by rw[q.aH];exact ha) hac
end
section
variable{ρ:List Nat}{h h':List XO}{H:List ah}{F:Addr->Option Value}{own:List Ent}{e':Ent}{id:Nat}
theorem a01{own':List Ent}{T:Ty}{y:T.den}{a:AV}(hw:Wp a (Ty.enc T y)):Okc F own own' a:=by
 have one:∀{a:AV},Pl1 a->Okc F own own' a:=fun{a} hp v hv=>by
  rcases hp with⟨y,rfl,hy⟩|⟨sz,xs,rfl⟩
  .rw[hv.aH];exact .pure (.v _)
  .exact .pure hv.dw
 by_cases ha:∃cs,a=.agg cs
 .obtain⟨cs,rfl⟩:=ha
  intro v hv
  obtain⟨xs,rfl,hl,h1,hR⟩:=hv.bB
  exact .agg xs cs hl h1 λj x a p q=>one (yU hw (List.mem_of_getElem? q)) x (hR j x a p q)
 .have hc:a.cells=[a]:=by cases a<;>first|rfl|exact absurd ⟨_,rfl⟩ ha
  exact one (yU hw (by rw[hc];simp))
theorem V1.okc(hs:HS ρ h H)(hid:id<h.length){x:XV}{a:AV}(hv:V1 ρ h x a)(hn:x≠.any)(hh:hit [id] x=false):Okc F own (own.set (ρ.getD id 0) e') a:=by
 have ne:∀{j:Nat} {o:XO},h[j]?=some o->[id].contains j=false->(own.set (ρ.getD id 0) e')[ρ.getD j 0]?=own[ρ.getD j 0]?:=fun{j o} q hj=>by
  rw[List.getElem?_set_ne (λq'=>?_)]
  have:=hs.inj hid (List.getElem?_eq_some_iff.1 q).1 q'
  subst this
  simp at hj
 cases x with
 |any=>exact absurd rfl hn
 |d T y=>exact a01 hv
 |k v =>
  have hv:a=.v v:=hv
  subst hv
  intro v h;rw[h.aH];exact .pure (.v _)
 |row j=>obtain⟨_,_,_,_,q,rfl⟩:=hv;exact zo (ne q hh)
 |sub j o l=>obtain⟨_,_,_,_,q,rfl⟩:=hv;exact zo (ne q hh)
 |nK j l=>obtain⟨_,_,_,_,q,rfl,_⟩:=hv;exact IC (ne q hh)
 |pW j=>obtain⟨_,_,q,rfl⟩:=hv;exact zo (ne q hh)
 |me j =>
  rcases hv with rfl|⟨_,q,rfl⟩
  .intro v h;rw[h.aH];exact .pure (.v _)
  .exact DL (ne q hh)
 |ptr j i o=>obtain⟨_,q,rfl⟩:=hv;exact DL (ne q hh)
 |mp j=>obtain⟨_,_,_,_,q,rfl⟩:=hv;exact Qg (ne q hh)
 |lp T y o=>obtain⟨_,rfl,_⟩:=hv;intro v h;exact .pure h.jM
 |agg=>exact hv.elim
 |tup=>exact hv.elim
theorem V1.off(hs:HS ρ h H)(hid:id<h.length)(ht:Trn ρ h ρ h' [id]){x:XV}{a:AV}(hv:V1 ρ h x a):V1 ρ h' (iq [id] x) (off1 F own (own.set (ρ.getD id 0) e') a):=by
 have hv':=ht x a hv
 by_cases hn:x=.any
 .subst hn;trivial
 .rw[Fe]at hv' ⊢
  cases hh:hit [id] x with
  |true=>simp only[if_true];trivial
  |false =>
   rw[hh]at hv'
   simp only[Bool.false_eq_true,if_false]at hv' ⊢
   rw[DN (hv.okc hs hid hn hh)];exact hv'
theorem FK(hs:HS ρ h H)(hid:id<h.length)(ht:Trn ρ h ρ h' [id]){cs:List XV}{as:List AV}(hc:au (V1 ρ h) cs as):au (V1 ρ h') (cs.map (iq [id])) (as.map (off1 F own (own.set (ρ.getD id 0) e'))) :=
 ⟨by simp[hc.1],λi y b p q=>by
  rw[List.getElem?_map]at p q
  cases hy:cs[i]? with
  |none=>rw[hy]at p;cases p
  |some z =>
   cases hb:as[i]? with
   |none=>rw[hb]at q;cases q
   |some c=>rw[hy]at p;rw[hb]at q;cases p;cases q;exact(hc.2 i z c hy hb).off hs hid ht⟩
theorem VA.off(hs:HS ρ h H)(hid:id<h.length)(ht:Trn ρ h ρ h' [id]){x:XV}{a:AV}(hv:VA ρ h x a):VA ρ h' (nR [id] x) (jL F own (own.set (ρ.getD id 0) e') a):=by
 by_cases ha:∃cs,x=.agg cs
 .obtain⟨cs,rfl⟩:=ha
  obtain⟨as,rfl,hc⟩:=hv
  rw[CG]
  exact⟨_,rfl,FK hs hid ht hc⟩
 .rw[zT _ x λcs q=>ha ⟨cs,q⟩]
  have hv1:V1 ρ h x a:=by cases x<;>first|exact hv|exact absurd ⟨_,rfl⟩ ha
  by_cases hag:∃cs,a=.agg cs
  .obtain⟨cs,rfl⟩:=hag
   cases x with
   |d T y =>
    have hv1:Wp (.agg cs) (Ty.enc T y):=hv1
    have he:jL F own (own.set (ρ.getD id 0) e') (.agg cs)=.agg cs:=by
     show AV.agg (cs.map _)=_
     congr 1
     refine(List.map_congr_left λc hc=>?_).trans (List.map_id cs)
     refine DN λv hv=>?_
     rcases yU hv1 hc with⟨y,rfl,hy⟩|⟨sz,xs,rfl⟩
     .rw[hv.aH];exact .pure (.v _)
     .exact .pure hv.dw
    rw[he];exact hv1
   |any=>trivial
   |k v=>cases hv1
   |row j=>obtain⟨_,_,_,_,_,q⟩:=hv1;cases q
   |sub j o l=>obtain⟨_,_,_,_,_,q⟩:=hv1;cases q
   |nK j l=>obtain⟨_,_,_,_,_,q,_⟩:=hv1;cases q
   |pW j=>obtain⟨_,_,_,q⟩:=hv1;cases q
   |ptr j i o=>obtain⟨_,_,q⟩:=hv1;cases q
   |mp j=>obtain⟨_,_,_,_,_,q⟩:=hv1;cases q
   |me j=>rcases hv1 with q|⟨_,_,q⟩<;>cases q
   |lp T y o=>obtain⟨_,q,_⟩:=hv1;cases q
   |agg=>exact hv1.elim
   |tup=>exact hv1.elim
  .rw[qV λcs q=>hag ⟨cs,q⟩]
   exact VA.of1 (hv1.off hs hid ht)
theorem VT.off(hs:HS ρ h H)(hid:id<h.length)(ht:Trn ρ h ρ h' [id]){x:XV}{a:AV}(hv:VT ρ h x a):VT ρ h' (nQ [id] x) (xV F own (own.set (ρ.getD id 0) e') a):=by
 by_cases ha:∃cs,x=.tup cs
 .obtain⟨cs,rfl⟩:=ha
  obtain⟨as,rfl,hc⟩:=hv
  rw[Cz]
  refine⟨_,rfl,by simp[hc.1],λi y b p q=>?_⟩
  rw[List.getElem?_map]at p q
  cases hy:cs[i]? with
  |none=>rw[hy]at p;cases p
  |some z =>
   cases hb:as[i]? with
   |none=>rw[hb]at q;cases q
   |some c=>rw[hy]at p;rw[hb]at q;cases p;cases q;exact(hc.2 i z c hy hb).off hs hid ht
 .rw[zS _ x λcs q=>ha ⟨cs,q⟩]
  have hvA:VA ρ h x a:=by cases x<;>first|exact hv|exact absurd ⟨_,rfl⟩ ha
  by_cases hat:∃cs,a=.tup cs
  .obtain⟨cs,rfl⟩:=hat
   by_cases hx:x=.any
   .subst hx;rw[show nR [id] XV.any=.any from rfl];trivial
   .exfalso
    cases x with
    |any=>exact hx rfl
    |d T y =>
     have hw:Wp (.tup cs) (Ty.enc T y):=hvA
     rcases yU hw (c:=.tup cs) (by simp[AV.cells]) with⟨y,q,_⟩|⟨sz,xs,q⟩<;>cases q
    |k v=>cases hvA
    |row j=>obtain⟨_,_,_,_,_,q⟩:=hvA;cases q
    |sub j o l=>obtain⟨_,_,_,_,_,q⟩:=hvA;cases q
    |nK j l=>obtain⟨_,_,_,_,_,q,_⟩:=hvA;cases q
    |pW j=>obtain⟨_,_,_,q⟩:=hvA;cases q
    |ptr j i o=>obtain⟨_,_,q⟩:=hvA;cases q
    |me j=>rcases hvA with q|⟨_,_,q⟩<;>cases q
    |mp j=>obtain⟨_,_,_,_,_,q⟩:=hvA;cases q
    |lp T y o=>obtain⟨_,q,_⟩:=hvA;cases q
    |agg us=>obtain⟨_,q,_⟩:=hvA;cases q
    |tup us=>exact ha ⟨_,rfl⟩
  .rw[EY λcs q=>hat ⟨cs,q⟩]
   exact VT.ofA (hvA.off hs hid ht)
theorem mW.off(hs:HS ρ h H)(hid:id<h.length)(ht:Trn ρ h ρ h' [id]){o:XO}{O:ah}(hR:mW ρ h o O):mW ρ h' (eT [id] o) (kE F own (own.set (ρ.getD id 0) e') O):=by
 cases o with
 |row ty T fz es =>
  have:kE F own (own.set (ρ.getD id 0) e') O=O:=by simp[kE,hR.2.2.1]
  rw[this];exact hR
 |map ty K V es =>
  have:kE F own (own.set (ρ.getD id 0) e') O=O:=by simp[kE,hR.2.2.1]
  rw[this];exact hR
 |box ty cs =>
  obtain⟨a,b,c,d,e,he,hc⟩:=hR
  have:kE F own (own.set (ρ.getD id 0) e') O={ O with es:=O.es.map (jL F own (own.set (ρ.getD id 0) e')) }:=by simp[kE,c]
  rw[this]
  exact⟨a,by simpa using b,c,d,jL F own (own.set (ρ.getD id 0) e') e,by simp[he],by rw[wE];exact FK hs hid ht hc⟩
 |vec ty cs =>
  obtain⟨a,b,c,d,hc⟩:=hR
  have:kE F own (own.set (ρ.getD id 0) e') O={ O with es:=O.es.map (jL F own (own.set (ρ.getD id 0) e')) }:=by simp[kE,c]
  rw[this]
  refine⟨a,b,c,d,by simp[hc.1],λi y e p q=>?_⟩
  have q:(O.es.map (jL F own (own.set (ρ.getD id 0) e')))[i]?=some e:=q
  rw[List.getElem?_map]at p q
  cases hy:cs[i]? with
  |none=>rw[hy]at p;cases p
  |some z =>
   cases hb:O.es[i]? with
   |none=>rw[hb]at q;cases q
   |some e1 =>
    rw[hy]at p;rw[hb]at q;cases p;cases q
    obtain⟨c1,c2⟩:=hc.2 i z e1 hy hb
    have hna:∀cs,e1≠.agg cs:=λcs q=>by
     subst q
     have c1:cs=[AV.agg cs]:=c1
     have:=congrArg (λl:List AV=>SizeOf.sizeOf l) c1
     simp at this
     omega
    rw[qV hna]
    refine⟨?_,c2.off hs hid ht⟩
    rcases KI (F:=F) (own:=own) (own':=own.set (ρ.getD id 0) e') e1 with q|q
    .rw[q];exact c1
    .rw[q];rfl
end
section
variable{S R:Type}{step:S->Option (S⊕R)}
theorem EO:∀{n m:Nat} {s:S} {r:R},qo step n s=some r->n<=m->qo step m s=some r:=by
 intro n
 induction n with
 |zero=>intro m s r h;cases h
 |succ n ih =>
  intro m s r h hm
  cases m with
  |zero=>omega
  |succ m =>
   simp only[qo]at h ⊢
   split at h
   .exact ih h (by omega)
   .exact h
   .cases h
theorem sj{s:S}{r:R}:aJ step s=some r↔∃n,qo step n s=some r:=by
 constructor
 .intro h
  unfold aJ at h
  split at h
  .rename_i hn;exact⟨_,h⟩
  .cases h
 .rintro⟨n,h⟩
  have hn:∃n r,qo step n s=some r:=⟨n,r,h⟩
  obtain⟨r',hr'⟩:=hn.choose_spec
  have e1:=EO hr' (Nat.le_max_left _ n)
  have e2:=EO h (Nat.le_max_right hn.choose n)
  rw[e1]at e2
  cases e2
  unfold aJ
  rw[dif_pos hn]
  exact hr'
theorem J5 (step:S->Option (S ⊕ R)) (s:S):aJ step s=match step s with
  |some (.inl s')=>aJ step s'
  |some (.inr r)=>some r
  |none=>none:=by
 apply Option.ext
 intro r
 rw[sj]
 constructor
 .rintro⟨n,h⟩
  cases n with
  |zero=>cases h
  |succ n =>
   simp only[qo]at h
   split at h
   .rename_i s' hs;rw[hs];exact sj.2 ⟨n,h⟩
   .rename_i r' hs;rw[hs];exact h
   .cases h
 .intro h
  split at h
  .rename_i s' hs
   obtain⟨n,hn⟩:=sj.1 h
   exact⟨n+1,by simp only[qo,hs];exact hn⟩
  .rename_i r' hs
   cases h
   exact⟨1,by simp only[qo,hs]⟩
  .cases h
end
section
variable{P:Program}{c:Cfg}{ρ:List Nat}{X:XS}{σ:St}{F:Addr->Option Value}{own:List Ent}{B:Nat}{w0:W0}{act:Act}{w:World}{H0:List ah}{ρ0:List Nat}{Gl:Nat->Option (List AV)}
theorem JV{i:Nat}(hlt:i<act.tmps.size):act.put (some i) act.tmps[i]=act:=by
 have hs:act.tmps.setIfInBounds i act.tmps[i]=act.tmps:=by
  apply Array.ext_getElem?
  intro j
  rw[Array.getElem?_setIfInBounds]
  split
  .rename_i hj
   subst hj
   rw[Array.getElem?_eq_getElem hlt]
  .rfl
 show({ act with tmps:=act.tmps.setIfInBounds i act.tmps[i] }:Act)=act
 rw[hs]
theorem Frm.mine{nf id:Nat}{h:List XO}{H:List ah}(hF:Frm H0 ρ0 ρ H)(hs:HS ρ h H)(hnf:nf=ρ0.length)(hid:nf<=id)(hl:id<h.length):H0.length<=ρ.getD id 0:=by
 subst hnf
 obtain⟨l,hl',hq⟩:=hF.pre
 have jo:id<ρ.length:=by rw[hs.rl];exact hl
 rw[hl']at jo ⊢
 simp only[List.length_append]at jo
 have:(ρ0++l).getD id 0=l[id-ρ0.length]'(by omega):=by
  simp only[List.getD]
  rw[List.getElem?_append_right hid,List.getElem?_eq_getElem (by omega)];rfl
 rw[this]
 exact hq _ (List.getElem_mem _)
theorem XL {nf:Nat} (hnf:nf=ρ0.length) (hN:w0.N<=H0.length) (hcl:ClH H0.length H0) (hI:Inv Gl F own B w0 σ act w) (hS:Sim ρ X σ) (hF:Frm H0 ρ0 ρ σ.h) {s id len ty:Nat} {T:Ty} {es:List T.den} (hk:X.t.getD s .any=.sub id 0 len) (he:X.h[id]?=some (.row ty T false es)) (hid:nf<=id) :
  ∃F' own' σ' ρ',Inv Gl F' own' B w0 σ' act w/\Sim ρ' ⟨(X.t.map (su id)).set s (.row id),(X.h.map (wH id)).set id (.row ty T false (es.take len))⟩ σ'/\Frm H0 ρ0 ρ' σ'.h:=by
 have jo:id<X.h.length:=(List.getElem?_eq_some_iff.1 he).1
 have hsl:s<X.t.length:=by
  rcases Nat.lt_or_ge s X.t.length with q|q
  .exact q
  .simp[List.getD,List.getElem?_eq_none q]at hk
 have rT:s<σ.t.length:=by rw[<- hS.t.1];exact hsl
 have hv:=lg hS.t s
 rw[hk]at hv
 obtain⟨ty',T',fz',es',he',ha⟩:=hv
 rw[he]at he'
 cases he'
 obtain⟨O,hO,o1,o2,o3,o4,o5⟩:=hS.h.hr id _ he
 have hlen:O.es.length=es.length:=by have:=o5.1;simpa using this
 have hkn:H0.length<=ρ.getD id 0:=hF.mine hS.h hnf hid jo
 have hs?:σ.t[s]?=some (.row (ρ.getD id 0) O.es.length T.size 0 len):=by
  rw[List.getElem?_eq_getElem rT]
  simp only[List.getD,List.getElem?_eq_getElem rT,Option.getD_some]at ha
  rw[ha,hlen];rfl
 obtain⟨e',hle,hI'⟩:=hI.cut hO o3 (by rw[o4];simp) (Nat.le_trans hN hkn) hs?
 have hkH:ρ.getD id 0<σ.h.length:=hS.h.lt jo
 have hmap:X.h.map (wH id)=X.h.map (eT [id]):=mQ [id] X.h
 have htm:X.t.map (su id)=X.t.map (nQ [id]):=Fb [id] X.t
 rw[hmap,htm]
 have ht:Trn ρ X.h ρ ((X.h.map (eT [id])).set id (.row ty T false (es.take len))) [id]:=Trn.mk (λj oj e hj=>by
  refine⟨eT [id] oj,by rw[List.getElem?_set_ne (λq=>hj (by simp[q])),List.getElem?_map,e];rfl,?_⟩
  cases oj<;>simp[lW,eT]) (λ_ _=>rfl)
 refine⟨F,_,_,ρ,hI',⟨?_,by simp[hS.h.rl],hS.h.nd,λj oj q=>?_⟩,⟨hF.pre,by simpa using hF.ge,λj hj hn=>?_⟩⟩
 ·have hvr:VT ρ ((X.h.map (eT [id])).set id (.row ty T false (es.take len))) (.row id) (.row (ρ.getD id 0) len T.size 0 len):=by
   refine⟨ty,T,false,es.take len,by rw[List.getElem?_set_self (by simpa using jo)],?_⟩
   rw[List.length_take,Nat.min_eq_left (by omega)]
  refine au.set ⟨by simp[hS.t.1],λi y b p q=>?_⟩ hvr s
  rw[List.getElem?_map]at p q
  cases hy:X.t[i]? with
  |none=>rw[hy]at p;cases p
  |some z =>
   cases hb:σ.t[i]? with
   |none=>rw[hb]at q;cases q
   |some c=>rw[hy]at p;rw[hb]at q;cases p;cases q;exact(hS.t.2 i z c hy hb).off hS.h jo ht
 .have q:((X.h.map (eT [id])).set id (.row ty T false (es.take len)))[j]?=some oj:=q
  by_cases hj:id=j
  .subst hj
   rw[List.getElem?_set_self (by simpa using jo)]at q
   cases q
   refine⟨{ O with es:=O.es.take len },by show((σ.h.map _).set _ _)[ρ.getD id 0]?=_;rw[List.getElem?_set_self (by simpa using hkH)],o1,o2,o3,by rw[show({ O with es:=O.es.take len }:ah).fz=O.fz from rfl,o4];simp,?_⟩
   rw[List.map_take];exact o5.take len
  .rw[List.getElem?_set_ne hj,List.getElem?_map]at q
   cases hx:X.h[j]? with
   |none=>rw[hx]at q;cases q
   |some ox =>
    rw[hx]at q;cases q
    have hjl:=(List.getElem?_eq_some_iff.1 hx).1
    obtain⟨O1,hO1,hR⟩:=hS.h.hr j ox hx
    refine⟨_,?_,hR.off (F:=F) (own:=own) (e':=e') hS.h jo ht⟩
    show((σ.h.map _).set _ _)[ρ.getD j 0]?=_
    rw[List.getElem?_set_ne (λq=>hj (hS.h.inj jo hjl q)),List.getElem?_map,hO1];rfl
 .show((σ.h.map _).set _ _)[j]?=_
  rw[List.getElem?_set_ne (by omega),List.getElem?_map,hF.fr j hj hn]
  cases hj0:H0[j]? with
  |none=>rfl
  |some O1 =>
   show some (kE _ _ _ O1)=some O1
   congr 1
   unfold kE
   split
   .rfl
   .rename_i hpr
    have hpr:O1.pr=false:=by simpa using hpr
    have:O1.es.map (jL F own (own.set (ρ.getD id 0) e'))=O1.es:=by
     refine(List.map_congr_left λe hem=>?_).trans (List.map_id O1.es)
     obtain⟨i,hi⟩:=List.mem_iff_getElem?.1 hem
     have hc:∀c∈e.cells,off1 F own (own.set (ρ.getD id 0) e') c=c:=λc hcm=>by
      obtain⟨k,hk⟩:=List.mem_iff_getElem?.1 hcm
      exact DN (hcl j O1 hj0 hpr i k e c hi hk F own _ λi hi=>by rw[List.getElem?_set_ne (by omega)])
     show jL F own (own.set (ρ.getD id 0) e') e=e
     by_cases hag:∃cs,e=.agg cs
     .obtain⟨cs,rfl⟩:=hag
      show AV.agg (cs.map _)=_
      congr 1
      exact(List.map_congr_left λc hcm=>hc c hcm).trans (List.map_id cs)
     .rw[qV λcs q=>hag ⟨cs,q⟩]
      exact hc e (by cases e<;>first|exact List.mem_singleton.2 rfl|exact absurd ⟨_,rfl⟩ hag)
    rw[this]
theorem TF (hI:Inv Gl F own B w0 σ act w) (hS:Sim ρ X σ) (hF:Frm H0 ρ0 ρ σ.h) {id o ty ty':Nat} {T:Ty} {cs:List XV} (he:X.h[id]?=some (.box ty' cs)) (ho:cs[o]?=some (.k (.slice none 0 0))) (hz:0 < T.size) :
  ∃F' own' σ' ρ',Inv Gl F' own' B w0 σ' act w/\Sim ρ' ⟨X.t,(X.h++[XO.row ty T false []]).set id (.box ty' (cs.set o (.row X.h.length)))⟩ σ'/\Frm H0 ρ0 ρ' σ'.h:=by
 have jo:id<X.h.length:=(List.getElem?_eq_some_iff.1 he).1
 obtain⟨O,hO,o1,o2,o3,o4,e,o5,hc⟩:=hS.h.hr id _ he
 have hkH:ρ.getD id 0<σ.h.length:=hS.h.lt jo
 have hI1:=hI.Ck ty T.size true hz
 obtain⟨a,ha,hva⟩:=hc.eD ho
 have hva:a=.v (.slice none 0 0):=hva
 subst hva
 have hrow:R F (own++[⟨none,0,T.size,0⟩]) (.slice none 0 0) (.row σ.h.length 0 T.size 0 0):=by
  rw[<- hI.hl]
  exact .row _ _ _ _ _ _ _ eZ (by simp) ⟨_,_,rfl,by simp,λq=>by simp at q⟩ (λ_=>⟨rfl,by simp,λ_=>⟨_,Nat.le_of_eq (Nat.zero_add _),by simp⟩⟩) (by first|assumption|(show 0<T.size;omega)|(show 0<_;assumption))
 have hO1:(σ.h++[(⟨ty,T.size,0,true,[]⟩:ah)])[ρ.getD id 0]?=some O:=by rw[List.getElem?_append_left hkH];exact hO
 have hI2:=hI1.YS hO1 o5 o3 ha hrow rfl
 obtain⟨u1,u2⟩:=jv (ty:=ty) (ys:=([]:List T.den)) (as:=[]) hS.h rfl .nil
 have he1:(X.h++[XO.row ty T false []])[id]?=some (.box ty' cs):=by rw[List.getElem?_append_left jo];exact he
 have hg:(ρ++[σ.h.length]).getD id 0=ρ.getD id 0:=fD (by rw[hS.h.rl];exact jo)
 have hcl:=vZ (e:=e) (a:=.row σ.h.length 0 T.size 0 0) rfl ha
 have hob:mW (ρ++[σ.h.length]) (X.h++[XO.row ty T false []]) (.box ty' (cs.set o (.row X.h.length))) { O with es:=[w9 e o (.row σ.h.length 0 T.size 0 0)] }:=by
  refine⟨o1,by simpa using o2,o3,o4,_,rfl,?_⟩
  rw[hcl]
  refine au.set ?_ u2 o
  have:=u1.tr.cells hc
  rw[mM]at this
  exact this
 have u3:=Upd.set u1.hs he1 (o':=.box ty' (cs.set o (.row X.h.length))) trivial hob
 have u4:=u1.trans u3 hS.h.rl
 rw[hg]at u4
 refine⟨F,_,_,ρ++[σ.h.length],hI2,?_,hF.upd hS.h.rl u4⟩
 exact lq (X:=X) (kl:=[]) hS.t u4 (v:=.any) (a:=.any) trivial none
theorem TG (hI:Inv Gl F own B w0 σ act w) (hS:Sim ρ X σ) (hF:Frm H0 ρ0 ρ σ.h) {s o ty:Nat} {T:Ty} {cs:List XV} (hk:X.t.getD s .any=.agg cs) (ho:cs[o]?=some (.k (.slice none 0 0))) (hz:0 < T.size) :
  ∃F' own' σ' ρ',Inv Gl F' own' B w0 σ' act w/\Sim ρ' ⟨X.t.set s (.agg (cs.set o (.row X.h.length))),X.h++[XO.row ty T false []]⟩ σ'/\Frm H0 ρ0 ρ' σ'.h:=by
 have hsl:s<X.t.length:=by
  rcases Nat.lt_or_ge s X.t.length with q|q
  .exact q
  .simp[List.getD,List.getElem?_eq_none q]at hk
 have rT:s<σ.t.length:=by rw[<- hS.t.1];exact hsl
 have hst:s<act.tmps.size:=by rw[hI.tl];exact rT
 have hv:=lg hS.t s
 rw[hk]at hv
 obtain⟨as,has,hc⟩:=hv
 have hs?:σ.t[s]?=some (.agg as):=by
  rw[List.getElem?_eq_getElem rT]
  simp only[List.getD,List.getElem?_eq_getElem rT,Option.getD_some]at has
  rw[has]
 obtain⟨a,ha,hva⟩:=hc.eD ho
 have hva:a=.v (.slice none 0 0):=hva
 subst hva
 have hI1:=hI.Ck ty T.size true hz
 have hrow:R F (own++[⟨none,0,T.size,0⟩]) (.slice none 0 0) (.row σ.h.length 0 T.size 0 0):=by
  rw[<- hI.hl]
  exact .row _ _ _ _ _ _ _ eZ (by simp) ⟨_,_,rfl,by simp,λq=>by simp at q⟩ (λ_=>⟨rfl,by simp,λ_=>⟨_,Nat.le_of_eq (Nat.zero_add _),by simp⟩⟩) (by first|assumption|(show 0<T.size;omega)|(show 0<_;assumption))
 have hR:=hI1.tr s _ _ (Array.getElem?_eq_getElem hst) hs?
 have hag:R F (own++[⟨none,0,T.size,0⟩]) act.tmps[s] (.agg (as.set o (.row σ.h.length 0 T.size 0 0))):=by
  obtain⟨xs,hxs,hl,h1,hRc⟩:=hR.bB
  rw[hxs]
  refine .agg xs _ (by simp[hl]) h1 λj x b p q=>?_
  rw[List.getElem?_set]at q
  split at q
  .rename_i hj
   subst hj
   split at q
   .cases q
    have:=(hRc o x _ p ha).aH
    subst this
    exact hrow
   .cases q
  .exact hRc j x b p q
 obtain⟨u1,u2⟩:=jv (ty:=ty) (ys:=([]:List T.den)) (as:=[]) hS.h rfl .nil
 have hI2:=hI1.put hag (some s)
 rw[JV hst]at hI2
 refine⟨F,_,_,ρ++[σ.h.length],hI2,?_,hF.upd hS.h.rl u1⟩
 refine lq (X:=X) (kl:=[]) hS.t u1 (v:=.agg (cs.set o (.row X.h.length))) (a:=.agg (as.set o (.row σ.h.length 0 T.size 0 0))) ⟨_,rfl,?_⟩ (some s)
 refine au.set ?_ u2 o
 have:=u1.tr.cells hc
 rw[mM]at this
 exact this
theorem OM{T:Ty}{b:AV}{x:T.den}(h:Wp b (Ty.enc T x))(hT:T.dL=false):b.cells=[b]:=by
 have hs:=Lh T x
 generalize Ty.enc T x=e at h hs
 cases h with
 |agg=>simp only[shp]at hs;rw[hT]at hs;cases hs
 |refl =>
  cases b with
  |agg cs=>simp only[shp]at hs;rw[hT]at hs;cases hs
  |_=>rfl
 |_=>rfl
theorem TH (hI:Inv Gl F own B w0 σ act w) (hS:Sim ρ X σ) (hF:Frm H0 ρ0 ρ σ.h) {id o ty':Nat} {T:Ty} {cs:List XV} {c:XV} {x:T.den} (he:X.h[id]?=some (.box ty' cs)) (ho:cs[o]?=some c) (hx:toD X.h T c=some x) (hT:T.dL=false) :
  ∃F' own' σ' ρ',Inv Gl F' own' B w0 σ' act w/\Sim ρ' ⟨X.t,(dU X.h (bq c)).set id (.box ty' (cs.set o (.d T x)))⟩ σ'/\Frm H0 ρ0 ρ' σ'.h:=by
 have jo:id<X.h.length:=(List.getElem?_eq_some_iff.1 he).1
 obtain⟨O,hO,o1,o2,o3,o4,e,o5,hc⟩:=hS.h.hr id _ he
 have hkH:ρ.getD id 0<σ.h.length:=hS.h.lt jo
 obtain⟨a,ha,hva⟩:=hc.eD ho
 obtain⟨b,k1,k2,k3,k4⟩:=pY hS.h hx (VA.of1 hva)
 obtain⟨F1,hF1,hI1,hkp⟩:=hI.lF (aR a)
 have hu:=Upd.frz _ hS.h k4
 rw[<- k3]at hu
 have hni:∀j∈bq c,j≠id:=λj hj q=>by
  obtain⟨ty,T',fz,es,e'⟩:=k4 j hj
  rw[q,he]at e';cases e'
 have he1:(dU X.h (bq c))[id]?=some (.box ty' cs):=by
  have key:∀(ids:List Nat) (g:List XO),(∀j∈ids,j≠id)->(dU g ids)[id]?=g[id]?:=by
   intro ids
   induction ids with
   |nil=>intro g _;rfl
   |cons j ids ih =>
    intro g hn
    simp only[dU,List.foldl_cons]
    have:=λg=>ih g λi hi=>hn i (by simp[hi])
    simp only[dU]at this
    rw[this]
    cases hg:g[j]? with
    |none=>rfl
    |some o=>exact List.getElem?_set_ne (hn j (by simp))
  rw[key _ _ hni];exact he
 have hO1:(freeze σ.h (aR a))[ρ.getD id 0]?=some O:=by
  rw[hu.fr _ hkH (λj hj hjl q=>hni j hj (hS.h.inj hjl jo q))];exact hO
 have hbc:=OM k2 hT
 have hI2:=hI1.Rm hO1 o5 o3 ha (a':=b) (λen g cs' fr y p1 p2 p3 p4 p5=>by
  rcases hI.objs _ en O p1 hO with⟨q0,q1,q2,q3,q4,q5,q6,q7,q8⟩|⟨_,_,m2,_⟩
  case inr=>rw[o3]at m2;cases m2
  rw[p2]at q8
  obtain⟨cs2,⟨fr2,r1,_⟩,r2,r3,r4⟩:=q8
  rw[p3]at r1
  cases r1
  obtain⟨y',s1,s2,s3⟩:=r3 0 o e a (by rw[o5];rfl) ha
  rw[p4]at s1
  cases s1
  unfold RC at s3
  rw[if_neg (by rw[o3];simp)]at s3
  exact .pure (iQ hI hF1 s3 k1 hkp).1) hbc
 have hcl:=vZ (e:=e) (a:=b) hbc ha
 have hob:mW ρ (dU X.h (bq c)) (.box ty' (cs.set o (.d T x))) { O with es:=[w9 e o b] }:=by
  refine⟨o1,by simpa using o2,o3,o4,_,rfl,?_⟩
  rw[hcl]
  refine au.set ?_ (show V1 ρ (dU X.h (bq c)) (.d T x) b from k2) o
  have:=hu.tr.cells hc
  rw[mM]at this
  exact this
 have u3:=Upd.set hu.hs he1 (o':=.box ty' (cs.set o (.d T x))) trivial hob
 have u4:=hu.trans u3 hS.h.rl
 refine⟨F1,_,_,ρ,hI2,?_,hF.upd hS.h.rl u4⟩
 exact lq (X:=X) (kl:=[]) hS.t u4 (v:=.any) (a:=.any) trivial none
theorem XM{nf:Nat}(hnf:nf=ρ0.length)(hN:w0.N<=H0.length)(hcl:ClH H0.length H0)(hI:Inv Gl F own B w0 σ act w)(hS:Sim ρ X σ)(hF:Frm H0 ρ0 ρ σ.h)(p:Pre):∃F' own' σ' ρ',Inv Gl F' own' B w0 σ' act w/\Sim ρ' (uE nf X p) σ'/\Frm H0 ρ0 ρ' σ'.h:=by
 cases p with
 |gh s ty T =>
  simp only[uE]
  split
  .rename_i hk
   split
   .rename_i hz
    have hz:=pJ hz
    have hsl:s<X.t.length:=by
     rcases Nat.lt_or_ge s X.t.length with q|q
     .exact q
     .simp[List.getD,List.getElem?_eq_none q]at hk
    have rT:s<σ.t.length:=by rw[<- hS.t.1];exact hsl
    have hv:=lg hS.t s
    rw[hk]at hv
    have ha:=Af hv
    have hs?:σ.t[s]?=some (.v (.slice none 0 0)):=by
     rw[List.getElem?_eq_getElem rT]
     simp only[List.getD,List.getElem?_eq_getElem rT,Option.getD_some]at ha
     rw[ha]
    obtain⟨own',hI'⟩:=hI.QJ (s,ty,T.size)
    have hgh:ghost σ (s,ty,T.size)=⟨σ.t.set s (.row σ.h.length 0 T.size 0 0),σ.h++[⟨ty,T.size,0,true,[]⟩]⟩:=by
     simp only[ghost,hs?,hz,if_true]
    rw[hgh]at hI'
    obtain⟨u1,u2⟩:=jv (ty:=ty) (ys:=([]:List T.den)) (as:=[]) hS.h rfl .nil
    refine⟨F,own',_,ρ++[σ.h.length],hI',?_,?_⟩
    .exact lq (X:=X) (kl:=[]) hS.t u1 (VT.of1 u2) (some s)
    .exact hF.upd hS.h.rl u1
   .exact⟨F,own,σ,ρ,hI,hS,hF⟩
  .exact⟨F,own,σ,ρ,hI,hS,hF⟩
 |fz s T =>
  simp only[uE]
  split
  .rename_i x hx
   have hsl:s<X.t.length:=by
    rcases Nat.lt_or_ge s X.t.length with q|q
    .exact q
    .rw[show X.t.getD s .any=.any by simp[List.getD,List.getElem?_eq_none q]]at hx
     cases T<;>simp[toD,lst]at hx
   have rT:s<σ.t.length:=by rw[<- hS.t.1];exact hsl
   have hst:s<act.tmps.size:=by rw[hI.tl];exact rT
   have hv:=lg hS.t s
   have hnt:∀us,X.t.getD s .any≠.tup us:=λus q=>by
    rw[q]at hx
    cases T<;>simp[toD,lst]at hx
   obtain⟨b,k1,k2,k3,k4⟩:=pY hS.h hx (hv.jC hnt)
   obtain⟨F1,hF1,hI1,hkp⟩:=hI.lF (aR (σ.t.getD s .any))
   have hsg:σ.t[s]?=some (σ.t.getD s .any):=by simp[List.getD,List.getElem?_eq_getElem rT]
   have hR:=hI.tr s _ _ (Array.getElem?_eq_getElem hst) hsg
   obtain⟨r1,_,_⟩:=iQ hI hF1 hR k1 hkp
   have hI2:=hI1.put (.pure r1) (some s)
   rw[JV hst]at hI2
   have hu:=Upd.frz _ hS.h k4
   rw[<- k3]at hu
   refine⟨F1,own,_,ρ,hI2,?_,?_⟩
   .exact lq (X:=X) (kl:=[]) hS.t hu (Du k2) (some s)
   .exact hF.upd hS.h.rl hu
  .exact⟨F,own,σ,ρ,hI,hS,hF⟩
 |ghc s o ty T =>
  simp only[uE]
  split
  case h_2=>exact⟨F,own,σ,ρ,hI,hS,hF⟩
  split
  case h_2=>exact⟨F,own,σ,ρ,hI,hS,hF⟩
  rename_i he
  split
  case h_2=>exact⟨F,own,σ,ρ,hI,hS,hF⟩
  rename_i ho
  split
  .rename_i hz
   exact TF hI hS hF he ho (pJ hz)
  .exact⟨F,own,σ,ρ,hI,hS,hF⟩
 |gha s o ty T =>
  simp only[uE]
  split
  case h_2=>exact⟨F,own,σ,ρ,hI,hS,hF⟩
  rename_i hk
  split
  case h_2=>exact⟨F,own,σ,ρ,hI,hS,hF⟩
  rename_i ho
  split
  .rename_i hz
   exact TG hI hS hF hk ho (pJ hz)
  .exact⟨F,own,σ,ρ,hI,hS,hF⟩
 |tr s =>
  simp only[uE]
  split
  case h_2=>exact⟨F,own,σ,ρ,hI,hS,hF⟩
  rename_i id off len hk
  split
  case h_2=>exact⟨F,own,σ,ρ,hI,hS,hF⟩
  rename_i ty T fz es he
  split
  .rename_i hb
   simp only[Bool.and_eq_true,Bool.not_eq_true']at hb
   have h0:=beq_eq hb.1.1
   have hf:=hb.2
   subst h0 hf
   exact XL hnf hN hcl hI hS hF hk he (Nat.le_of_ble_eq_true hb.1.2)
  .exact⟨F,own,σ,ρ,hI,hS,hF⟩
 |fzc s o T =>
  simp only[uE]
  split
  case h_2=>exact⟨F,own,σ,ρ,hI,hS,hF⟩
  split
  case h_2=>exact⟨F,own,σ,ρ,hI,hS,hF⟩
  rename_i he
  split
  case h_2=>exact⟨F,own,σ,ρ,hI,hS,hF⟩
  rename_i ho
  split
  case h_2=>exact⟨F,own,σ,ρ,hI,hS,hF⟩
  rename_i hx
  split
  .exact⟨F,own,σ,ρ,hI,hS,hF⟩
  .rename_i hT
   exact TH hI hS hF he ho hx (by simpa using hT)
theorem Ik{nf:Nat}(hnf:nf=ρ0.length)(hN:w0.N<=H0.length)(hcl:ClH H0.length H0)(pre:List Pre):∀{X:XS} {F:Addr->Option Value} {own:List Ent} {σ:St} {ρ:List Nat},Inv Gl F own B w0 σ act w->Sim ρ X σ->Frm H0 ρ0 ρ σ.h->∃F' own' σ' ρ',Inv Gl F' own' B w0 σ' act w/\Sim ρ' (qp nf pre X) σ'/\Frm H0 ρ0 ρ' σ'.h:=by
 induction pre with
 |nil=>intro X F own σ ρ hI hS hF;exact⟨F,own,σ,ρ,hI,hS,hF⟩
 |cons p pre ih =>
  intro X F own σ ρ hI hS hF
  obtain⟨F',own',σ',ρ',a,b,d⟩:=XM hnf hN hcl hI hS hF p
  exact ih a b d
theorem LY:∀(n j:Nat) (l:List Nat),ou n j l=true->∃r,l=List.range' j n++r:=by
 intro n
 induction n with
 |zero=>intro j l _;exact⟨l,by simp⟩
 |succ n ih =>
  intro j l h
  cases l with
  |nil=>simp[ou]at h
  |cons a l =>
   simp only[ou,Bool.and_eq_true]at h
   have:=beq_eq h.1
   subst this
   obtain⟨r,rfl⟩:=ih (a+1) l h.2
   exact⟨r,by simp[List.range'_succ]⟩
theorem Ei{H:List ah}{foc:List Nat}{nf:Nat}{h:List XO}(hs:HS ρ h H)(hF:Frm H0 ρ0 ρ H)(hnf:nf=ρ0.length)(hst:ou nf 0 foc=true)(hnd:foc.Nodup)(hlt:∀id∈foc,id<h.length):Frm H0 ρ0 (foc.map λid=>ρ.getD id 0) H:=by
 subst hnf
 obtain⟨r,rfl⟩:=LY _ _ _ hst
 obtain⟨l,hl,hq⟩:=hF.pre
 refine⟨⟨r.map λid=>ρ.getD id 0,?_,λx hx=>?_⟩,hF.ge,hF.fr⟩
 .rw[List.map_append]
  congr 1
  apply List.ext_getElem
  .simp
  .intro i h1 h2
   simp only[List.length_map,List.length_range']at h1
   simp only[List.getElem_map,List.getElem_range',Nat.zero_add,Nat.one_mul]
   rw[hl,fD h1]
   simp[List.getD,List.getElem?_eq_getElem h1]
 .obtain⟨id,hid,rfl⟩:=List.mem_map.1 hx
  have hge:ρ0.length<=id:=by
   rcases Nat.lt_or_ge id ρ0.length with q|q
   .exfalso
    rw[List.nodup_append]at hnd
    exact hnd.2.2 id (by simp[List.mem_range'_1,q]) id hid rfl
   .exact q
  have jo:id<ρ.length:=by rw[hs.rl];exact hlt id (by simp[hid])
  rw[hl]at jo ⊢
  simp only[List.length_append]at jo
  have:(ρ0++l).getD id 0=l[id-ρ0.length]'(by omega):=by
   simp only[List.getD]
   rw[List.getElem?_append_right hge,List.getElem?_eq_getElem (by omega)];rfl
  rw[this]
  exact hq _ (List.getElem_mem _)
theorem En{nf:Nat}(hN:w0.N<=H0.length)(hcl:ClH H0.length H0){pre:List Pre}{sh:Sh}{s:Ty.aD sh.tys}(hI:Inv Gl F own B w0 σ act w)(hS:Sim ρ X σ)(hF:Frm H0 ρ0 ρ σ.h)(hnf:nf=ρ0.length)(hx:tY nf pre sh X=some s):∃F' own' σ' ρ',Inv Gl F' own' B w0 σ' act w/\Sim ρ' (emb sh s) σ'/\Frm H0 ρ0 ρ' σ'.h:=by
 obtain⟨F',own',σ',ρ',hI',hS',hF'⟩:=Ik hnf hN hcl pre hI hS hF
 unfold tY at hx
 split at hx
 .rename_i foc x he
  split at hx
  .rename_i hb
   cases hx
   simp only[Bool.and_eq_true]at hb
   have hn:(qp nf pre X).t.length=sh.n:=by
    have h1:=beq_eq hb.2
    rw[<- h1,hS'.t.1,hS.t.1,<- hI'.tl,<- hI.tl]
   obtain⟨e1,e2,e3,e4⟩:=vP hS'.t hS'.h hn he
   exact⟨F',own',σ',_,hI',e1,Ei hS'.h hF' hnf hb.1 e4 e2⟩
  .cases hx
 .cases hx
def Std{β:Type}(H0:List ah)(ρ0:List Nat)(K:Exit->XS->Option β)(r:β)(e:Exit)(τ:St):Prop:=∃ρ' X',Sim ρ' X' τ/\Frm H0 ρ0 ρ' τ.h/\K e X'=some r
theorem BJ{β:Type}{f:XS->Option β}{s:Nat}{k:IntKind}{m:Int}{X:XS}{r:β}(h:X.t.getD s .any=.d (.int k) m):∀ns:List Int,G8 f s k m X ns=some r->f X=some r
 |[],hx=>by cases hx
 |n::ns,hx=>by
  unfold G8 at hx
  by_cases hm:iEq m n=true
  .rw[hm]at hx
   have hm:m=n:=by simpa[iEq]using hm
   subst hm
   have hs:s<X.t.length:=by
    rcases Nat.lt_or_ge s X.t.length with q|q
    .exact q
    .simp[List.getD,List.getElem?_eq_none q]at h
   have:X.t.set s (.d (.int k) m)=X.t:=by
    apply List.ext_getElem?
    intro j
    rw[List.getElem?_set]
    split
    .rename_i hj
     subst hj
     have h2:X.t[s]?=some (X.t.getD s .any):=by simp[List.getD,List.getElem?_eq_getElem hs]
     exact(h2.trans (congrArg some h)).symm
    .rfl
   rw[this]at hx
   exact hx
  .rw[Bool.not_eq_true]at hm
   rw[hm]at hx
   exact BJ h ns hx
theorem nN{nf:Nat}{oc:Option C}{β:Type}{K:Exit->XS->Option β}{r:β}{X:XS}:∀{xc:XC},oc=some xc.er->xwp c nf xc β K X=some r->∃xc':XC,oc=some xc'.er/\xwp c nf xc' β K X=some r/\∀s k ns b,xc'≠.Dz s k ns b:=by
 intro xc
 induction xc with
 |Dz s k ns b ih =>
  intro h1 h2
  simp only[xwp]at h2
  split at h2
  .rename_i k' m hm
   split at h2
   .rename_i hk
    have hk:=of_decide_eq_true hk
    subst hk
    exact ih h1 (BJ hm _ h2)
   .cases h2
  .cases h2
 |_=>intro h1 h2;exact⟨_,h1,h2,λs k ns b q=>by cases q⟩
theorem LK (hc:jH P c) (hm:P.follows .mixedOrders=true) {hl0:List Nat} {N nf:Nat} (hN:w0.N=N) (hN0:w0.N<=H0.length) (hcl:ClH H0.length H0) (hnf:nf=ρ0.length):∀ (code:Code) (xc:XC),cC P hl0 code=some xc.er->∀ (β:Type) (K:Exit->XS->Option β) (r:β) (X:XS) (ρ:List Nat) (σ:St) (F:Addr->Option Value) (own:List Ent) (act:Act) (w:World),
  xwp c nf xc β K X=some r->Sim ρ X σ->Frm H0 ρ0 ρ σ.h->Inv (gx c.GX) F own B w0 σ act w->code.wp P (λe a w=>NG e/\fO (gx c.GX) B w0 (Std H0 ρ0 K r e) a w) act w:=by
 intro code
 induction code with
 |skip =>
  intro xc hcc β K r X ρ σ F own act w hx hS hF hI
  obtain⟨xc,hcc,hx,hnt⟩:=nN hcc hx
  cases xc<;>first|exact(hnt _ _ _ _ rfl).elim|simp only[cC,XC.er,Option.some.injEq,reduceCtorEq]at hcc
  exact wp_skip ⟨fQ,F,own,σ,hI,ρ,X,hS,hF,hx⟩
 |region id ops draw =>
  intro xc hcc β K r X ρ σ F own act w hx hS hF hI
  obtain⟨xc,hcc,hx,hnt⟩:=nN hcc hx
  refine sK hm hN _ _ hcc _ σ F own act w ?_ hI
  have hsp:SpR ρ X.h σ []:=λq hq=>by simp at hq
  cases xc with
  |ops d l=>exact WY hc l X [] ρ σ hS hsp hF hx
  |kD U l =>
   refine⟨(U.filter λj=>Nat.blt j X.h.length).map λj=>ρ.getD j 0,Sg (m:=X.h.length) (N:=σ.h.length) (U:=U) hc l X [] ρ σ hS hsp hF (λi hi hi'=>⟨hS.h.lt hi,λq=>?_,λq=>List.mem_map.2 ⟨i,List.mem_filter.2 ⟨q,Nat.ble_eq_true_of_le hi⟩,rfl⟩⟩) (λi hi hi'=>by rw[hS.h.rl]at hi';omega) (Nat.le_refl _) (Nat.le_refl _) hx⟩
   obtain⟨j,hj,he⟩:=List.mem_map.1 q
   obtain⟨h1,h2⟩:=List.mem_filter.1 hj
   have:=getD_inj hS.h.nd (by rw[hS.h.rl];exact pJ h2) hi' he
   subst this;exact h1
  |Dz s k ns b=>exact(hnt s k ns b rfl).elim
  |_ =>
   exfalso
   cases draw with
   |false =>
    simp only[cC,XC.er]at hcc
    rw[Option.map_eq_some_iff]at hcc
    obtain⟨_,_,q⟩:=hcc
    cases q
   |true =>
    simp only[cC,XC.er]at hcc
    repeat' (split at hcc)
    all_goals cases hcc
 |seq a b iha ihb =>
  intro xc hcc β K r X ρ σ F own act w hx hS hF hI
  obtain⟨xc,hcc,hx,hnt⟩:=nN hcc hx
  simp only[cC]at hcc
  split at hcc
  .rename_i x y hxa hyb
   cases xc<;>first|exact(hnt _ _ _ _ rfl).elim|simp only[XC.er,Option.some.injEq,reduceCtorEq,C.seq.injEq]at hcc
   case seq xa xb =>
    obtain⟨rfl,rfl⟩:=hcc
    refine wp_seq (wp_mono (iha xa hxa β _ r X ρ σ F own act w hx hS hF hI) ?_)
    rintro e a1 w1 ⟨ng,F1,aQ,τ,hI1,ρ1,X1,hS1,hF1,hK⟩
    cases e with
    |normal=>exact ihb xb hyb β K r X1 ρ1 τ F1 aQ a1 w1 hK hS1 hF1 hI1
    |_=>exact⟨ng,F1,aQ,τ,hI1,ρ1,X1,hS1,hF1,hK⟩
   case Ma pre sh xa xb =>
    obtain⟨rfl,rfl⟩:=hcc
    simp only[xwp]at hx
    generalize hA:xwp c nf xa (Ty.aD sh.tys⊕β) (λe Y=>match e with
     |.normal=>match tY nf pre sh Y with
      |some s'=>some (.inl s')
      |none=>none
     |e=>Option.map Sum.inr (K e Y)) X=oA at hx
    unfold jW at hx
    split at hx
    .rename_i s0
     refine wp_seq (wp_mono (iha xa hxa _ _ _ X ρ σ F own act w hA hS hF hI) ?_)
     rintro e a1 w1 ⟨ng,F1,aQ,τ,hI1,ρ1,X1,hS1,hF1,hK⟩
     cases e with
     |normal =>
      simp only at hK
      split at hK
      .rename_i s2 hs2
       cases hK
       obtain⟨F2,rM,σ2,ρ2,hI2,hS2,hF2⟩:=En hN0 hcl hI1 hS1 hF1 hnf hs2
       exact ihb xb hyb β K r _ ρ2 σ2 F2 rM a1 w1 hx hS2 hF2 hI2
      .cases hK
     |_ =>
      simp only[Option.map_eq_some_iff]at hK
      obtain⟨_,_,q⟩:=hK
      cases q
    .rename_i r0
     cases hx
     refine wp_seq (wp_mono (iha xa hxa _ _ _ X ρ σ F own act w hA hS hF hI) ?_)
     rintro e a1 w1 ⟨ng,F1,aQ,τ,hI1,ρ1,X1,hS1,hF1,hK⟩
     cases e with
     |normal =>
      simp only at hK
      split at hK<;>cases hK
     |_ =>
      simp only[Option.map_eq_some_iff]at hK
      obtain⟨r2,hr2,q⟩:=hK
      cases q
      exact⟨ng,F1,aQ,τ,hI1,ρ1,X1,hS1,hF1,hr2⟩
    .cases hx
  .cases hcc
 |cond c0 a b iha ihb =>
  intro xc hcc β K r X ρ σ F own act w hx hS hF hI
  obtain⟨xc,hcc,hx,hnt⟩:=nN hcc hx
  simp only[cC]at hcc
  split at hcc
  .rename_i x y hxa hyb
   cases xc<;>first|exact(hnt _ _ _ _ rfl).elim|simp only[XC.er,Option.some.injEq,reduceCtorEq,C.cond.injEq]at hcc
   rename_i o xa xb
   obtain⟨rfl,rfl,rfl⟩:=hcc
   simp only[xwp]at hx
   have hv:=vC (c:=c) hS (ak c0)
   split at hx
   case h_2=>cases hx
   rename_i t ht
   rw[ht]at hv
   have hva:=kg hv
   have he:=hI.ev c0
   rw[hva]at he
   refine wp_cond he.aH ?_
   have lit:∀v:Bool,St.val (gx c.GX) σ (ak c0)=.v (.bool v)->Sim ρ (E8 (ak c0) v X) σ:=by
    intro v hv
    unfold E8
    split
    .rename_i i hi
     rw[hi]at hv
     exact⟨HY hS.t hv,hS.h⟩
    .exact hS
   have key:∀v:Bool,St.val (gx c.GX) σ (ak c0)=.v (.bool v)->cond v (xwp c nf xa β K (E8 (ak c0) true X)) (xwp c nf xb β K (E8 (ak c0) false X))=some r->Code.wp P (if v=true then a else b) (λe a w=>NG e/\fO (gx c.GX) B w0 (Std H0 ρ0 K r e) a w) act w:=by
    intro v hv hx
    cases v with
    |true=>simp only[if_true];exact iha xa hxa β K r _ ρ σ F own act w hx (lit true hv) hF hI
    |false=>simp only[Bool.false_eq_true,if_false];exact ihb xb hyb β K r _ ρ σ F own act w hx (lit false hv) hF hI
   exact key t hva hx
  .cases hcc
 |block id b ih =>
  intro xc hcc β K r X ρ σ F own act w hx hS hF hI
  obtain⟨xc,hcc,hx,hnt⟩:=nN hcc hx
  simp only[cC]at hcc
  cases hb:cC P hl0 b with
  |none=>rw[hb]at hcc;cases hcc
  |some x =>
   rw[hb]at hcc
   cases xc<;>first|exact(hnt _ _ _ _ rfl).elim|simp only[XC.er,Option.map_some,Option.some.injEq,reduceCtorEq,C.block.injEq]at hcc
   rename_i id' xb
   obtain⟨rfl,rfl⟩:=hcc
   refine wp_block (wp_mono (ih xb hb β _ r X ρ σ F own act w hx hS hF hI) ?_)
   rintro e a1 w1 ⟨ng,F1,aQ,τ,hI1,ρ1,X1,hS1,hF1,hK⟩
   cases e with
   |exit i =>
    simp only at hK
    simp only[Exit.inBlock]
    by_cases hi:i=id
    .rw[if_pos (by rw[hi];simp)]at hK
     rw[if_pos hi]
     exact⟨fQ,F1,aQ,τ,hI1,ρ1,X1,hS1,hF1,hK⟩
    .rw[if_neg (λq=>hi (beq_eq q))]at hK
     rw[if_neg hi]
     exact⟨vF _,F1,aQ,τ,hI1,ρ1,X1,hS1,hF1,hK⟩
   |_=>exact⟨ng,F1,aQ,τ,hI1,ρ1,X1,hS1,hF1,hK⟩
 |loop b ih =>
  intro xc hcc β K r X ρ σ F own act w hx hS hF hI
  obtain⟨xc,hcc,hx,hnt⟩:=nN hcc hx
  simp only[cC]at hcc
  cases hb:cC P hl0 b with
  |none=>rw[hb]at hcc;cases hcc
  |some x =>
   rw[hb]at hcc
   cases xc<;>first|exact(hnt _ _ _ _ rfl).elim|simp only[XC.er,Option.map_some,Option.some.injEq,reduceCtorEq,C.loop.injEq]at hcc
   case loop pre sh xb =>
    subst hcc
    simp only[xwp]at hx
    split at hx
    case h_2=>cases hx
    rename_i s0 hs0
    obtain⟨F0,uT,σ0,ρ0',hI0,hS0,hF0⟩:=En hN0 hcl hI hS hF hnf hs0
    obtain⟨n,hn⟩:=sj.1 hx
    have key:∀ (n:Nat) (s:Ty.aD sh.tys) (ρ:List Nat) (σ:St) (F:Addr->Option Value) (own:List Ent) (act:Act) (w:World),qo (fun s=>xwp c nf xb (Ty.aD sh.tys ⊕ β) (fun e Y=>match e with
      |.normal=>match tY nf pre sh Y with
       |some s'=>some (.inl s')
       |none=>none
      |e=>Option.map Sum.inr (K e Y)) (emb sh s)) n s=some r->Sim ρ (emb sh s) σ->Frm H0 ρ0 ρ σ.h->Inv (gx c.GX) F own B w0 σ act w->Code.rounds P b (λe a w=>NG e/\fO (gx c.GX) B w0 (Std H0 ρ0 K r e) a w) n act w:=by
     intro n
     induction n with
     |zero=>intro s ρ σ F own act w hr;cases hr
     |succ n ihn =>
      intro s ρ σ F own act w hr hS hF hI
      simp only[qo]at hr
      rw[rounds_succ]
      split at hr
      .rename_i s' hs'
       refine wp_mono (ih xb hb _ _ _ _ ρ σ F own act w hs' hS hF hI) ?_
       rintro e a1 w1 ⟨ng,F1,aQ,τ,hI1,ρ1,X1,hS1,hF1,hK⟩
       cases e with
       |normal =>
        simp only at hK
        split at hK
        .rename_i s2 hs2
         cases hK
         obtain⟨F2,rM,σ2,ρ2,hI2,hS2,hF2⟩:=En hN0 hcl hI1 hS1 hF1 hnf hs2
         exact ihn s' ρ2 σ2 F2 rM a1 w1 hr hS2 hF2 hI2
        .cases hK
       |_ =>
        simp only[Option.map_eq_some_iff]at hK
        obtain⟨_,_,q⟩:=hK
        cases q
      .rename_i r' hs'
       cases hr
       refine wp_mono (ih xb hb _ _ _ _ ρ σ F own act w hs' hS hF hI) ?_
       rintro e a1 w1 ⟨ng,F1,aQ,τ,hI1,ρ1,X1,hS1,hF1,hK⟩
       cases e with
       |normal =>
        simp only at hK
        split at hK<;>cases hK
       |_ =>
        simp only[Option.map_eq_some_iff]at hK
        obtain⟨r2,hr2,q⟩:=hK
        cases q
        exact⟨ng,F1,aQ,τ,hI1,ρ1,X1,hS1,hF1,hr2⟩
      .cases hr
    exact wp_loop_rounds n (key n s0 ρ0' σ0 F0 uT act w hn hS0 hF0 hI0)
   case Cy n xb =>
    subst hcc
    simp only[xwp]at hx
    have key:∀(n:Nat) (X:XS) (ρ:List Nat) (σ:St) (F:Addr->Option Value) (own:List Ent) (act:Act) (w:World),yX (λk Y=>xwp c nf xb β (λe Z=>match e with|.normal=>k Z|e=>K e Z) Y) n X=some r->Sim ρ X σ->Frm H0 ρ0 ρ σ.h->Inv (gx c.GX) F own B w0 σ act w->Code.rounds P b (λe a w=>NG e/\fO (gx c.GX) B w0 (Std H0 ρ0 K r e) a w) n act w:=by
     intro n
     induction n with
     |zero=>intro X ρ σ F own act w hr;cases hr
     |succ n ihn =>
      intro X ρ σ F own act w hr hS hF hI
      simp only[yX]at hr
      rw[rounds_succ]
      refine wp_mono (ih xb hb _ _ _ _ ρ σ F own act w hr hS hF hI) ?_
      rintro e a1 w1 ⟨ng,F1,aQ,τ,hI1,ρ1,X1,hS1,hF1,hK⟩
      cases e with
      |normal=>exact ihn X1 ρ1 τ F1 aQ a1 w1 hK hS1 hF1 hI1
      |_=>exact⟨ng,F1,aQ,τ,hI1,ρ1,X1,hS1,hF1,hK⟩
    exact wp_loop_rounds n (key n X ρ σ F own act w hx hS hF hI)
 |exit id =>
  intro xc hcc β K r X ρ σ F own act w hx hS hF hI
  obtain⟨xc,hcc,hx,hnt⟩:=nN hcc hx
  cases xc<;>first|exact(hnt _ _ _ _ rfl).elim|simp only[cC,XC.er,Option.some.injEq,reduceCtorEq,C.exit.injEq]at hcc
  subst hcc
  exact wp_exit ⟨vF _,F,own,σ,hI,ρ,X,hS,hF,hx⟩
 |ret =>
  intro xc hcc β K r X ρ σ F own act w hx hS hF hI
  obtain⟨xc,hcc,hx,hnt⟩:=nN hcc hx
  cases xc<;>first|exact(hnt _ _ _ _ rfl).elim|simp only[cC,XC.er,Option.some.injEq,reduceCtorEq]at hcc
  exact wp_ret ⟨IQ,F,own,σ,hI,ρ,X,hS,hF,hx⟩
 |label l =>
  intro xc hcc β K r X ρ σ F own act w hx hS hF hI
  obtain⟨xc,hcc,hx,hnt⟩:=nN hcc hx
  cases xc<;>first|exact(hnt _ _ _ _ rfl).elim|simp only[cC,XC.er,Option.some.injEq,reduceCtorEq]at hcc
  exact wp_label ⟨fQ,F,own,σ,hI,ρ,X,hS,hF,hx⟩
 |scope b ih =>
  intro xc hcc β K r X ρ σ F own act w hx hS hF hI
  obtain⟨xc,hcc,hx,hnt⟩:=nN hcc hx
  refine wp_scope_straight (wp_mono (ih xc hcc β K r X ρ σ F own act w hx hS hF hI) ?_)
  rintro e a1 w1 ⟨ng,hK⟩
  cases e with
  |goto l=>exact absurd rfl (ng l)
  |_=>exact⟨ng,hK⟩
 |_=>intro xc hcc;cases hcc
theorem wY (hc:jH P c) (hm:P.follows .mixedOrders=true) {hl0:List Nat} {N nf:Nat} (hN:w0.N=N) (hN0:w0.N<=H0.length) (hcl:ClH H0.length H0) (hnf:nf=ρ0.length):∀ (code:Code) (xc:XC),cC P hl0 code=some xc.er->∀ (β:Type) (K:Exit->XS->Option β) (r:β) (X:XS) (ρ:List Nat) (σ:St) (F:Addr->Option Value) (own:List Ent) (act:Act) (w:World),
  xwp c nf xc β K X=some r->Sim ρ X σ->Frm H0 ρ0 ρ σ.h->Inv (gx c.GX) F own B w0 σ act w->code.wp P (λe a w=>fO (gx c.GX) B w0 (Std H0 ρ0 K r e) a w) act w:=by
 intro code xc hcc β K r X ρ σ F own act w hx hS hF hI
 exact wp_mono (LK hc hm hN hN0 hcl hnf code xc hcc β K r X ρ σ F own act w hx hS hF hI) λe a w h=>h.2
end
end
end
end Abs
end Go.Proofs.YtnhgeocdffhkjaaGreatDoor
