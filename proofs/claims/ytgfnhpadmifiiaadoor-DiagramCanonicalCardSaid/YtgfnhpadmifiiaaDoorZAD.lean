/- Merged and trimmed by a program: X9 XA XB XD XE XF XG XM XH XI XJ. -/
import Derived.Test.YtgfnhpadmifiiaaDoorZAC
import Derived.LoopN
set_option linter.unusedVariables false
set_option linter.unusedSimpArgs false
set_option linter.defProp false
section
namespace Go.Proofs.YtgfnhpadmifiiaaDoor
namespace Abs
open Go.RowKit
section
variable {ρ:List Nat} {h:List XO} {H:List ah} {σ:St} {Gl:Nat->Option (List AV)} {rd:Opd->XV} {tt:Nat->Option Ty}
theorem OH {a:AV} (hs:aO false a=some a.cells):∀ c∈a.cells,c.cells=[c]:=by
 intro c hc
 have hst:st1 false c=true:=by
  cases a with
  |agg as =>
   simp only[aO]at hs
   split at hs
   ·rename_i hall;exact List.all_eq_true.1 hall c hc
   ·cases hs
  |_ =>
   simp only[aO]at hs
   split at hs
   ·rename_i h1
    simp only[AV.cells,List.mem_singleton]at hc
    subst hc;exact h1
   ·cases hs
 cases c<;>first|rfl|(cases hst;done)
theorem LU (sz:Nat) (x y:Opd):fB Gl ρ h σ rd tt (.store sz x y):=by
 intro hs hrd p v kl h' hx hp
 simp only[cK]at hx
 have hv:=hrd x
 have hvy:=hrd y
 split at hx
 case h_2=>cases hx
 rename_i id i o h1
 rw[h1]at hv
 obtain⟨ob,he,ha⟩:=hv
 rw[he]at hx
 obtain⟨O,hO,hR⟩:=hs.hr id ob he
 have hleave:∀ ok:Nat->Bool,leaves ok rd (.store sz x y)=true->∀ id'∈[id],ok id'=true:=by
  intro m hm id' hid
  simp only[leaves,h1,Bool.and_eq_true]at hm
  simp only[List.mem_singleton]at hid
  subst hid
  exact hm.1
 cases ob with
 |vec ty cs=>cases hx
 |map ty K V es=>cases hx
 |row ty T fz es =>
  obtain⟨o1,o2,o3,o4,o5⟩:=hR
  have hlen:O.es.length=es.length:=by have:=o5.1;simpa using this
  simp only at hx
  split at hx
  ·rename_i T' w h2
   rw[h2]at hvy
   split at hx
   ·rename_i hz
    have hz:=beq_eq hz
    split at hx
    ·rename_i z hset
     cases hx
     have hlt:i<es.length:=of_decide_eq_true hp
     have hst:=Dw (x:=w) hvy O.pr
     have hcl:(σ.val Gl y).cells.length=sz:=by rw[(Wp.cells hvy).1,fE,hz]
     obtain⟨s1,s2⟩:=Xp o5 hlt hvy hset
     refine⟨o+sz<=O.sz/\i<es.length/\O.fz<=i,.any,_,ρ,[id],by simp only[step,ha,hO,XO.len,hlen,if_true,hst,hcl]<;>rfl,⟨by rw[o2];omega,hlt,by rw[o4];simp⟩,?_,trivial,hleave⟩
     exact Upd.set hs he ⟨rfl,rfl,by simp⟩ ⟨o1,o2,o3,by simpa using o4,s2⟩
    ·cases hx
   ·cases hx
  ·rename_i cs h2
   rw[h2]at hvy
   split at hx
   ·rename_i ho
    have ho:=beq_eq ho
    subst ho
    split at hx
    ·rename_i z hz
     split at hx
     ·rename_i hsz
      have hsz:=beq_eq hsz
      cases hx
      have hlt:i<es.length:=of_decide_eq_true hp
      have hw:=iV hz (VT.kW hvy (fun vs q=>by cases q))
      have hst:=Dw (x:=z) hw O.pr
      have hcl:(σ.val Gl y).cells.length=sz:=by rw[(Wp.cells hw).1,fE,hsz]
      have s2:=Ew o5 hlt hw
      refine⟨0+sz<=O.sz/\i<es.length/\O.fz<=i,.any,_,ρ,[id],by simp only[step,ha,hO,XO.len,hlen,if_true,hst,hcl]<;>rfl,⟨by rw[o2];omega,hlt,by rw[o4];simp⟩,?_,trivial,hleave⟩
      exact Upd.set hs he ⟨rfl,rfl,by simp⟩ ⟨o1,o2,o3,by simpa using o4,s2⟩
     ·cases hx
    ·split at hx
     case h_2=>cases hx
     rename_i z hz
     split at hx
     case isFalse=>cases hx
     rename_i hb
     cases hx
     simp only[Bool.and_eq_true,Bool.not_eq_true']at hb
     obtain⟨⟨hb1,hb2⟩,hb3⟩:=hb
     have hsz:=beq_eq hb1
     have hlt:i<es.length:=of_decide_eq_true hp
     obtain⟨b,k1,k2,k3,k4⟩:=uU hs hz (VT.kW hvy (fun vs q=>by cases q))
     have hnone:aO O.pr (σ.val Gl y)=none:=by
      obtain⟨as,ha2,hl⟩:=hvy
      obtain⟨c,hc,hcr⟩:=List.any_eq_true.1 hb2
      obtain⟨j,hj⟩:=List.mem_iff_getElem?.1 hc
      obtain⟨d,hd,hv1⟩:=hl.jh hj
      have hst:st1 true d=false:=by
       cases c with
       |row j=>obtain⟨_,_,_,_,_,rfl⟩:=hv1;rfl
       |sub j o l=>obtain⟨_,_,_,_,_,rfl⟩:=hv1;rfl
       |_=>simp[iI]at hcr
      have hall:as.all (st1 true)=false:=by
       rcases q:as.all (st1 true) with _|_
       ·rfl
       ·have:=List.all_eq_true.1 q d (List.mem_of_getElem? hd);rw[hst]at this;cases this
      rw[ha2,o3]
      simp[aO,hall]
     have u1:=Upd.frz _ hs k4
     have he2:(jL h (fC (.agg cs)))[id]?=some (.row ty T false es):=by
      have hid:id∉fC (.agg cs):=fun q=>by
       have:(fC (.agg cs)).any (Nat.beq id)=true:=List.any_eq_true.2 ⟨id,q,Nat.beq_refl id⟩
       rw[this]at hb3;cases hb3
      have key:∀ (ids:List Nat) (g:List XO),id∉ids->(jL g ids)[id]?=g[id]?:=by
       intro ids
       induction ids with
       |nil=>intro g _;rfl
       |cons j ids ih =>
        intro g hn
        have hj:j≠id:=fun q=>hn (by simp[q])
        have hi:id∉ids:=fun q=>hn (by simp[q])
        simp only[jL,List.foldl_cons]
        have:=fun g=>ih g hi
        simp only[jL]at this
        rw[this]
        cases hg:g[j]? with
        |none=>rfl
        |some o=>exact List.getElem?_set_ne hj
      rw[key _ _ hid];exact he
     obtain⟨O',hO',p1,p2,p3,p4,p5⟩:=u1.hs.hr id _ he2
     have hst:=Dw k2 O'.pr
     have hcl:b.cells.length=sz:=by rw[(Wp.cells k2).1,fE,hsz]
     have s2:=Ew p5 hlt k2
     rw[<- k3]at hO' u1
     refine⟨0+sz<=O'.sz/\i<es.length/\O'.fz<=i,.any,_,ρ,fC (.agg cs)++[id],by simp only[step,ha,hO,XO.len,hlen,if_true,hnone,k1,hO',hst,hcl]<;>rfl,⟨by rw[p2];omega,hlt,by rw[p4];simp⟩,?_,trivial,fun ok hok id' hid=>?_⟩
     ·exact u1.trans (Upd.set u1.hs he2 ⟨rfl,rfl,by simp⟩ ⟨p1,p2,p3,by simpa using p4,s2⟩) hs.rl
     ·simp only[leaves,h1,h2,Bool.and_eq_true]at hok
      rcases List.mem_append.1 hid with q|q
      ·exact List.all_eq_true.1 hok.2 id' q
      ·exact hleave ok (by simp only[leaves,h1,h2,Bool.and_eq_true];exact hok) id' q
   ·cases hx
  ·cases hx
 |box ty cs =>
  obtain⟨o1,o2,o3,o4,e,o5,hc⟩:=hR
  have hlen:O.es.length=1:=by rw[o5];rfl
  simp only at hx
  split at hx
  ·rename_i vs hvs
   split at hx
   ·rename_i hb
    cases hx
    simp only[Bool.and_eq_true]at hb
    have hi:=beq_eq hb.1.1.1
    have hsz:=beq_eq hb.1.1.2
    have hl:=Nat.le_of_ble_eq_true hb.1.2
    have h0:=ou hb.2
    subst hi
    obtain⟨c1,c2⟩:=cells_ok hvs hvy
    have hcl:(σ.val Gl y).cells.length=sz:=by rw[<- c1.1,hsz]
    have hst:aO O.pr (σ.val Gl y)=some (σ.val Gl y).cells:=by rw[o3];exact c2
    refine⟨o+sz<=O.sz/\0<1/\O.fz<=0,.any,_,ρ,[id],by simp only[step,ha,hO,XO.len,hlen,if_true,hst,hcl]<;>rfl,⟨by rw[o2];exact hl,by omega,by rw[o4];simp⟩,?_,trivial,hleave⟩
    refine Upd.set hs he trivial ⟨o1,?_,o3,o4,setCells e o (σ.val Gl y).cells,by simp only[o5,List.set_cons_zero,List.getD_cons_zero],?_⟩
    ·simp only[List.length_append,List.length_take,List.length_drop];rw[o2];omega
    ·cases e with
     |agg us =>
      have hc:aI (V1 ρ h) cs us:=hc
      show aI (V1 ρ h) _ (us.take o++(σ.val Gl y).cells++us.drop (o+(σ.val Gl y).cells.length))
      rw[hcl,<- hsz]
      have:=((hc.take o).append c1).append (hc.drop (o+vs.length))
      exact this
     |_ =>
      have Ql:cs.length=1:=by rw[hc.1];rfl
      have ho:o=0:=by omega
      have hs1:vs.length=1:=by omega
      subst ho
      have hcs:(σ.val Gl y).cells.length=1:=by omega
      match hcc:(σ.val Gl y).cells,hcs with
      |[c],_ =>
       rw[hcc]at c1
       have hc1:=OH c2 c (by rw[hcc];simp)
       show aI (V1 ρ h) _ c.cells
       rw[hc1,List.take_zero,List.nil_append,List.drop_eq_nil_of_le (by omega),List.append_nil]
       exact c1
   ·cases hx
  ·cases hx
theorem zK {e:Ty} {l u:Int} {xs:List e.den} {as:List AV} (hc:aI Wp as (xs.map (Ty.enc e))):aI Wp ((as.take u.toNat).drop l.toNat) ((nG l u xs).map (Ty.enc e)):=by
 simp only[nG,List.map_drop,List.map_take]
 exact (hc.take _).drop _
theorem Dp (hs:HS ρ h σ.h) (hrd:∀ o,VT ρ h (rd o) (σ.val Gl o)) {e:Ty} {xs:List e.den} {x:Opd} {lo hi:Option Opd} {sz:Nat} {p:Bool} {l u:Int} (hv:VT ρ h (.d (.list e) xs) (σ.val Gl x)) (hz:e.size=sz) (hcut:nO xs.length (lo.map rd) (hi.map rd)=some (p,l,u)) (hp:p=true):aU Gl ρ h σ rd (.slice sz x lo hi) (.d (.list e) (nG l u xs)) [] h:=by
 rcases uo hv with ⟨ha,rfl⟩|⟨as,ha,hl,hc⟩
 ·obtain⟨h1,h2⟩:=nH hrd hcut hp
  refine aU.pure hs (by simp only[step,ha];simp only[List.length_nil]at h1;rw[h1]<;>rfl) h2 ?_
  have:nG l u ([]:List e.den)=[]:=by simp[nG]
  rw[this]
  exact Wp.nil _
 ·obtain⟨h1,h2⟩:=nH hrd hcut hp
  rw[<- hl]at h1 h2
  refine aU.pure hs (by simp only[step,ha,hz,if_true,h1,Option.map_some]<;>rfl) h2 ?_
  have:=zK (l:=l) (u:=u) hc
  rw[<- hz]
  exact .list _ _ _ this.1 this.2
theorem wM (hs:HS ρ h σ.h) (hrd:∀ o,VT ρ h (rd o) (σ.val Gl o)) {id ty off len:Nat} {T:Ty} {fz:Bool} {es:List T.den} {x:Opd} {lo hi:Option Opd} {sz:Nat} {p:Bool} {l u:Int} (he:h[id]?=some (.row ty T fz es)) (ha:σ.val Gl x=.row (ρ.getD id 0) es.length T.size off len) (hz:T.size=sz)
  (hcut:nO len (lo.map rd) (hi.map rd)=some (p,l,u)) (hp:p=true):aU Gl ρ h σ rd (.slice sz x lo hi) (.sub id (off+l.toNat) (u-l).toNat) [] h:=by
 obtain⟨h1,h2⟩:=nH hrd hcut hp
 exact aU.pure hs (q:=0<=l/\l<=u/\u<=(len:Int)) (by simp only[step,ha,hz,if_true,h1,Option.map_some]<;>rfl) h2 ⟨_,_,_,_,he,by rw[hz]⟩
theorem JN (sz:Nat) (x y z:Opd):fB Gl ρ h σ rd tt (.slice3 sz x y z):=by
 intro hs hrd p v kl h' hx hp
 simp only[cK]at hx
 have hv:=hrd x
 have hy:=hrd y
 have hzz:=hrd z
 split at hx
 case h_2=>cases hx
 rename_i id k n k' m h1 h2 h3
 rw[h1]at hv;rw[h2]at hy;rw[h3]at hzz
 have ey:=gq hy
 have ez:=gq hzz
 obtain⟨ty,T,fz,es,he,ha⟩:=hv
 rw[he]at hx
 simp only at hx
 split at hx
 case isFalse=>cases hx
 rename_i hz
 cases hx
 simp only[Bool.and_eq_true,ni,decide_eq_true_eq,iEq,beq_iff_eq]at hp
 exact aU.pure hs (q:=(0:Int)<=(show Int from n)/\(show Int from n)<=(es.length:Int)/\(show Int from m)=(show Int from n)) (by simp only[step,ha,ey,ez,beq_eq hz,true_and,if_true]<;>rfl) ⟨hp.1.1.2,hp.1.2,(beq_iff_eq (α:=Int)).1 hp.2⟩ ⟨_,_,_,_,he,by rw[beq_eq hz],by have:=hp.1.2;have:=hp.1.1.2;omega⟩
theorem LV (sz:Nat) (x:Opd) (lo hi:Option Opd):fB Gl ρ h σ rd tt (.slice sz x lo hi):=by
 intro hs hrd p v kl h' hx hp
 simp only[cK]at hx
 have hv:=Au (hrd x)
 split at hx
 ·rename_i e xs h1
  rw[h1]at hv
  split at hx
  ·rename_i hz
   split at hx
   ·rename_i p' l u hc
    cases hx
    exact Dp hs hrd hv (beq_eq hz) hc hp
   ·cases hx
  ·cases hx
 ·rename_i h1
  rw[h1]at hv
  split at hx
  ·rename_i p' l u hc
   cases hx
   obtain⟨q1,q2⟩:=nH hrd hc hp
   exact aU.pure hs (by simp only[step,yT hv];rw[q1]<;>rfl) q2 rfl
  ·cases hx
 ·rename_i id h1
  rw[h1]at hv
  obtain⟨ty,T,fz,es,he,ha⟩:=hv
  rw[he]at hx
  simp only at hx
  split at hx
  ·rename_i hz
   split at hx
   ·rename_i p' l u hc
    cases hx
    have:=wM hs hrd he ha (beq_eq hz) hc hp
    rw[Nat.zero_add]at this
    exact this
   ·cases hx
  ·cases hx
 ·rename_i id off len h1
  rw[h1]at hv
  obtain⟨ty,T,fz,es,he,ha⟩:=hv
  rw[he]at hx
  simp only at hx
  split at hx
  ·rename_i hz
   split at hx
   ·rename_i p' l u hc
    cases hx
    exact wM hs hrd he ha (beq_eq hz) hc hp
   ·cases hx
  ·cases hx
 ·cases hx
theorem JM (x:Opd) (lo hi:Option Opd):fB Gl ρ h σ rd tt (.mH x lo hi):=by
 intro hs hrd p v kl h' hx hp
 simp only[cK]at hx
 have hv:=hrd x
 split at hx
 ·rename_i s h1
  rw[h1]at hv
  split at hx
  ·rename_i p' l u hc
   cases hx
   obtain⟨q1,q2⟩:=nH hrd hc hp
   exact aU.pure hs (by simp only[step,rD hv];rw[q1]<;>rfl) q2 (Wp.refl _)
  ·cases hx
 ·cases hx
theorem OJ (x:Opd):fB Gl ρ h σ rd tt (.slen x):=by
 intro hs hrd p v kl h' hx hp
 simp only[cK]at hx
 have hv:=hrd x
 split at hx
 ·rename_i s h1
  rw[h1]at hv
  cases hx
  exact aU.pure hs (by simp only[step,rD hv]<;>rfl) trivial (Wp.refl _)
 ·cases hx
theorem Uf (x i:Opd):fB Gl ρ h σ rd tt (.idx x i):=by
 intro hs hrd p v kl h' hx hp
 simp only[cK]at hx
 have hv:=hrd x;have hi:=hrd i
 split at hx
 ·rename_i s k n h1 h2
  rw[h1]at hv;rw[h2]at hi
  cases hx
  exact aU.pure hs (by simp only[step,rD hv,gq hi]<;>rfl) (lq hp) (Wp.refl _)
 ·cases hx
theorem OP (x y:Opd):fB Gl ρ h σ rd tt (.min2 x y):=by
 intro hs hrd p v kl h' hx hp
 simp only[cK]at hx
 have hv:=hrd x;have hi:=hrd y
 split at hx
 ·rename_i k a k' b h1 h2
  rw[h1]at hv;rw[h2]at hi
  cases hx
  exact aU.pure hs (by simp only[step,gq hv,gq hi]<;>rfl) trivial (Wp.refl _)
 ·cases hx
theorem OT (x y:Opd):fB Gl ρ h σ rd tt (.max2 x y):=by
 intro hs hrd p v kl h' hx hp
 simp only[cK]at hx
 have hv:=hrd x;have hi:=hrd y
 split at hx
 ·rename_i k a k' b h1 h2
  rw[h1]at hv;rw[h2]at hi
  cases hx
  exact aU.pure hs (by simp only[step,gq hv,gq hi]<;>rfl) trivial (Wp.refl _)
 ·cases hx
theorem nL {l:List Nat} {a:Nat}:(l++[a]).getD l.length 0=a:=by simp[List.getD]
theorem jP (hs:HS ρ h H) {ty sz:Nat} {T:Ty} {ys:List T.den} {as:List AV} (hz:T.size=sz) (hc:aI Wp as (ys.map (Ty.enc T))):Upd ρ h H (ρ++[H.length]) (h++[.row ty T false ys]) (H++[⟨ty,sz,0,true,as⟩]) [] []/\V1 (ρ++[H.length]) (h++[.row ty T false ys]) (.row h.length) (.row H.length as.length sz 0 as.length):=by
 refine⟨Upd.new hs ⟨rfl,hz.symm,rfl,by simp,hc⟩,ty,T,false,ys,by simp,?_⟩
 have:as.length=ys.length:=by rw[hc.1,List.length_map]
 rw[this,<- hs.rl,nL,hz]
theorem rR {n b:Nat} (h:fits n b=true):n*b<=gY/\n<=4611686018427387904:=by simpa [fits]using h
theorem Un (ty sz bytes:Nat) (s x:Opd):fB Gl ρ h σ rd tt (.app ty sz bytes s x):=by
 intro hs hrd p v kl h' hx hp
 simp only[cK]at hx
 have hv:=hrd s
 split at hx
 case h_2=>cases hx
 rename_i T hT
 split at hx
 case isFalse=>cases hx
 rename_i hz
 have hz:=beq_eq hz
 split at hx
 case h_2=>cases hx
 rename_i ys hys
 obtain⟨as,ha,hc⟩:=vP hs hz hys (hrd x)
 have hal:as.length=ys.length:=by rw[hc.1,List.length_map]
 split at hx
 ·rename_i h1
  rw[h1]at hv
  cases hx
  obtain⟨u1,u2⟩:=jP (ty:=ty) hs hz hc
  have hf:=rR hp
  refine⟨as.length*bytes<=gY/\as.length<=4611686018427387904,_,_,_,[],by simp only[step,ha,yT hv,qH]<;>rfl,by rw[hal];exact hf,u1,VT.of1 u2,by simp⟩
 ·rename_i id h1
  rw[h1]at hv
  obtain⟨ty',T',fz',es',he,hav⟩:=hv
  rw[he]at hx
  simp only at hx
  split at hx
  case h_2=>cases hx
  rename_i ys' hcast
  split at hx
  case isFalse=>cases hx
  rename_i hty
  have hty:=beq_eq hty
  cases hx
  obtain⟨q,rfl⟩:=gH hcast
  cases q
  subst hty
  obtain⟨O,hO,o1,o2,o3,o4,o5⟩:=hs.hr id _ he
  have hlen:O.es.length=es'.length:=by have:=o5.1;simpa using this
  have hf:=rR hp
  have o4':O.fz=0:=by simpa using o4
  have vK:mE ρ h (.row ty T false (es'++ys)) { O with es:=O.es++as }:=⟨o1,o2,o3,by simpa using o4,by rw[List.map_append];exact o5.append hc⟩
  have hu:=Upd.app hs he vK
  refine⟨es'.length=es'.length/\(es'.length+as.length)*bytes<=gY/\es'.length+as.length<=4611686018427387904,.row (ρ.getD id 0) (es'.length+as.length) sz 0 (es'.length+as.length),_,ρ,[id],?_,⟨rfl,by rw[hal];exact hf.1,by rw[hal];exact hf.2⟩,hu,?_,?_⟩
  ·simp only[step,ha,hav,qH,hO,hlen,hz,o1,o2,o3,o4',and_self,if_true]
  ·refine VT.of1 ⟨ty,T,false,es'++ys,?_,?_⟩
   ·show (kE [id] (h.set id (.row ty T false (es'++ys))))[id]?=_
    rw[lQ,List.getElem?_map,List.getElem?_set_self (List.getElem?_eq_some_iff.1 he).1];rfl
   ·rw[List.length_append,hal,hz]
  ·intro m hm id' hid
   simp only[leaves,h1]at hm
   simp only[List.mem_singleton]at hid
   subst hid
   exact hm
 ·cases hx
theorem Dk (b:ByteArray):aI Wp (eP b) ((jU b).map (Ty.enc (.int .u8))):=by
 have:(jU b).map (Ty.enc (.int .u8))=eP b:=by
  unfold jU eP
  rw[List.map_map];rfl
 rw[this];exact aI.rfl' Wp.refl _
theorem L8 (b:ByteArray):(jU b).length=(eP b).length:=by unfold jU eP;rw[List.length_map,List.length_map]
theorem P5 (ty bytes:Nat) (s x:Opd):fB Gl ρ h σ rd tt (.apps ty bytes s x):=by
 intro hs hrd p v kl h' hx hp
 simp only[cK]at hx
 have hv:=hrd s
 have hw:=hrd x
 split at hx
 case h_2=>cases hx
 rename_i b hT h2
 rw[h2]at hw
 have ew:=rD hw
 have hc:=Dk b
 have hal:(eP b).length=(jU b).length:=(L8 b).symm
 have hz:Ty.size (.int .u8)=1:=rfl
 split at hx
 ·rename_i h1
  rw[h1]at hv
  cases hx
  obtain⟨u1,u2⟩:=jP (ty:=ty) hs hz hc
  have hf:=rR hp
  refine⟨(eP b).length*bytes<=gY/\(eP b).length<=4611686018427387904,_,_,_,[],by simp only[step,ew,yT hv,qH]<;>rfl,by rw[hal];exact hf,u1,VT.of1 u2,by simp⟩
 ·rename_i id h1
  rw[h1]at hv
  obtain⟨ty',T',fz',es',he,hav⟩:=hv
  rw[he]at hx
  split at hx
  case h_2=>cases hx
  rename_i ty2 es2 hq
  cases hq
  split at hx
  case isFalse=>cases hx
  rename_i hty
  have hty:=beq_eq hty
  cases hx
  subst hty
  obtain⟨O,hO,o1,o2,o3,o4,o5⟩:=hs.hr id _ he
  have hlen:O.es.length=es2.length:=by have:=o5.1;rw[List.length_map]at this;exact this
  have hf:=rR hp
  have vK:mE ρ h (.row ty (.int .u8) false (es2++jU b)) { O with es:=O.es++eP b }:=⟨o1,o2,o3,by simpa using o4,by rw[List.map_append];exact o5.append hc⟩
  have hu:=Upd.app hs he vK
  have hap:step Gl σ (.apps ty bytes s x)=some (es2.length=es2.length/\(es2.length+(eP b).length)*bytes<=gY/\es2.length+(eP b).length<=4611686018427387904,.row (ρ.getD id 0) (es2.length+(eP b).length) 1 0 (es2.length+(eP b).length),σ.h.set (ρ.getD id 0) { O with es:=O.es++eP b }):=by
   have ew':σ.val Gl x=.v (.string b):=ew
   simp only[step,ew',hav,qH,hO]
   exact if_pos ⟨hlen,rfl,o1,o2,trivial,o3,by simpa using o4⟩
  refine⟨_,_,_,_,[id],hap,⟨rfl,by rw[hal];exact hf⟩,hu,?_,?_⟩
  ·refine VT.of1 ⟨ty,.int .u8,false,es2++jU b,?_,?_⟩
   ·show (kE [id] (h.set id (.row ty (.int .u8) false (es2++jU b))))[id]?=_
    rw[lQ,List.getElem?_map,List.getElem?_set_self (List.getElem?_eq_some_iff.1 he).1];rfl
   ·rw[List.length_append,hal,hz]
  ·intro m hm id' hid
   simp only[leaves,h1]at hm
   simp only[List.mem_singleton]at hid
   subst hid
   exact hm
 ·cases hx
theorem HV:∀ (xs:List Int) (as:List AV),aI Wp as (xs.map (Ty.enc (.int .u8)))->bytesOf as=some (xs.map fun n=>UInt8.ofNat n.toNat):=by
 intro xs
 induction xs with
 |nil=>intro as h;rw[h.nK];rfl
 |cons x xs ih =>
  intro as h
  obtain⟨a,as',rfl,h1,h2⟩:=h.cons_right
  have e:a=.v (.int .u8 x):=h1.aS
  subst e
  simp only[bytesOf,byteOf,ih as' h2,List.map_cons]
theorem Um (x:Opd):fB Gl ρ h σ rd tt (.b2s x):=by
 intro hs hrd p v kl h' hx hp
 simp only[cK]at hx
 split at hx
 ·rename_i xs hxs
  cases hx
  obtain⟨as,ha,hc⟩:=vP hs (T:=.int .u8) (sz:=1) rfl hxs (hrd x)
  exact aU.pure hs (by simp only[step,ha,HV xs as hc,Option.map_some]<;>rfl) trivial (Wp.refl _)
 ·cases hx
theorem U9 (ty:Nat) (x:Opd):fB Gl ρ h σ rd tt (.s2b ty x):=by
 intro hs hrd p v kl h' hx hp
 simp only[cK]at hx
 have hw:=hrd x
 split at hx
 case h_2=>cases hx
 rename_i b hT h2
 rw[h2]at hw
 have ew:=rD hw
 cases hx
 obtain⟨u1,u2⟩:=jP (ty:=ty) hs (T:=.int .u8) (sz:=1) rfl (Dk b)
 have hl:(eP b).length=ByteArray.size b:=by unfold eP;rw[List.length_map,Array.length_toList];rfl
 rw[hl]at u2
 refine⟨ByteArray.size b<=4611686018427387904,_,_,_,[],by simp only[step,ew]<;>rfl,of_decide_eq_true hp,u1,VT.of1 u2,by simp⟩
theorem KI:∀ (ids:List Nat) (H:List ah),(freeze H ids).length=H.length:=by
 intro ids
 induction ids with
 |nil=>intro H;rfl
 |cons id ids ih =>
  intro H
  cases he:H[id]? with
  |none =>
   have e:freeze H (id::ids)=freeze H ids:=by simp only[freeze,List.foldl_cons,he]
   rw[e];exact ih H
  |some o =>
   have e:freeze H (id::ids)=freeze (H.set id { o with fz:=o.es.length }) ids:=by simp only[freeze,List.foldl_cons,he]
   rw[e,ih];simp
theorem Qt:∀ (ids:List Nat) (h:List XO),(jL h ids).length=h.length:=by
 intro ids
 induction ids with
 |nil=>intro H;rfl
 |cons id ids ih =>
  intro H
  cases he:H[id]? with
  |none =>
   have e:jL H (id::ids)=jL H ids:=by simp only[jL,List.foldl_cons,he]
   rw[e];exact ih H
  |some o =>
   have e:jL H (id::ids)=jL (H.set id (Gc o)) ids:=by simp only[jL,List.foldl_cons,he]
   rw[e,ih];simp
theorem JO (ty sz:Nat) (xs:List Opd):fB Gl ρ h σ rd tt (.jV ty sz xs):=by
 intro hs hrd p v kl h' hx hp
 simp only[cK]at hx
 split at hx
 case h_2=>cases hx
 rename_i T hT
 split at hx
 case isFalse=>cases hx
 rename_i hz
 have hz:=beq_eq hz
 split at hx
 case h_2=>cases hx
 rename_i ys hys
 cases hx
 obtain⟨bs,k1,k2,k3,k4⟩:=U6 hs hys (wS (Gl:=Gl) (σ:=σ) hrd)
 have u1:=Upd.frz _ hs k4
 obtain⟨u2,u3⟩:=jP (ty:=ty) u1.hs hz k2
 have u:=u1.trans u2 hs.rl
 have hfl:(freeze σ.h (((xs.map rd).flatMap fC).map fun id=>ρ.getD id 0)).length=σ.h.length:=KI _ _
 rw[hfl,Qt]at u3
 rw[hfl,<- k3]at u
 refine⟨True,_,_,_,_,by simp only[step,k1,II hz k2,if_true]<;>rfl,trivial,u,VT.of1 u3,?_⟩
 intro m hm id hid
 simp only[leaves]at hm
 simp only[List.append_nil]at hid
 exact List.all_eq_true.1 hm id hid
theorem sN {T:Ty}:∀ {xs:List XV} {ys:List T.den} {as:List AV},tK [] T xs=some ys->aI (VT ρ h) xs as->aP H as=some as/\aI Wp as (ys.map (Ty.enc T))/\∀ a∈as,aT a=[]:=by
 intro xs
 induction xs with
 |nil =>
  intro ys as hx hv
  cases hx
  have:=hv.iy
  subst this
  exact⟨rfl,.nil,by simp⟩
 |cons x xs ih =>
  intro ys as hx hv
  simp only[tK]at hx
  split at hx
  ·rename_i z l hz hl
   cases hx
   obtain⟨a,as',rfl,hv1,hv2⟩:=hv.dW
   have hnt:∀ vs,x≠.tup vs:=fun vs q=>by
    subst q
    cases T<;>simp[toD,lst]at hz
   have hw:=iV hz (hv1.kW hnt)
   obtain⟨k1,k2⟩:=xI hw H
   obtain⟨i1,i2,i3⟩:=ih hl hv2
   refine⟨by simp only[aP,k1,i1],.cons hw i2,fun b hb=>?_⟩
   rcases List.mem_cons.1 hb with rfl|hb
   ·exact k2
   ·exact i3 b hb
  ·cases hx
theorem LZ (ty sz:Nat) (xs:List Opd):fB Gl ρ h σ rd tt (.pI ty sz xs):=by
 intro hs hrd p v kl h' hx hp
 simp only[cK]at hx
 split at hx
 case h_2=>cases hx
 rename_i T hT
 split at hx
 case isFalse=>cases hx
 rename_i hz
 have hz:=beq_eq hz
 split at hx
 case h_2=>cases hx
 rename_i ys hys
 cases hx
 obtain⟨k1,k2,k3⟩:=sN (H:=σ.h) hys (wS (Gl:=Gl) (σ:=σ) hrd)
 have hr:(xs.map (σ.val Gl)).all (fun a=>(aT a).isEmpty)=true:=List.all_eq_true.2 fun a ha=>by rw[k3 a ha];rfl
 refine aU.pure hs (by simp only[step,k1,II hz k2,hr,Bool.and_self,if_true]<;>rfl) trivial ?_
 rw[<- hz]
 exact .list _ _ _ k2.1 k2.2
theorem QJ (hrd:∀ o,VT ρ h (rd o) (σ.val Gl o)):∀ (ps:List (Nat×Nat×Opd)) (cs:List XV) (as:List AV) (cs':List XV),aI (V1 ρ h) cs as->Ba rd cs ps=some cs'->∃ as',bJ Gl σ as ps=some as'/\aI (V1 ρ h) cs' as':=by
 intro ps
 induction ps with
 |nil=>intro cs as cs' hc hb;cases hb;exact⟨as,rfl,hc⟩
 |cons p ps ih =>
  intro cs as cs' hc hb
  obtain⟨off,sz,x⟩:=p
  simp only[Ba]at hb
  split at hb
  ·rename_i vs hvs
   split at hb
   ·rename_i hq
    simp only[Bool.and_eq_true]at hq
    have h1:=beq_eq hq.1
    have h2:=Nat.le_of_ble_eq_true hq.2
    obtain⟨c1,c2⟩:=cells_ok hvs (hrd x)
    obtain⟨as',e1,e2⟩:=ih _ _ cs' (((hc.take off).append c1).append (hc.drop (off+sz))) hb
    refine⟨as',?_,e2⟩
    have hl:(σ.val Gl x).cells.length=sz:=by rw[<- c1.1,h1]
    simp only[bJ,c2,hl,true_and,show off+sz<=as.length from by rw[<- hc.1];exact h2,if_true]
    exact e1
   ·cases hb
  ·cases hb
theorem I7 (l:List Value):aI (V1 ρ h) (l.map vx1) (l.map .v) :=
 ⟨by simp,fun i x a p q=>by
  rw[List.getElem?_map]at p q
  cases hv:l[i]? with
  |none=>rw[hv]at p;cases p
  |some v=>rw[hv]at p q;cases p;cases q;exact Dy v⟩
theorem LY (zero:List Value) (ps:List (Nat×Nat×Opd)):fB Gl ρ h σ rd tt (.build zero ps):=by
 intro hs hrd p v kl h' hx hp
 simp only[cK]at hx
 split at hx
 ·rename_i cs hb
  cases hx
  obtain⟨as,e1,e2⟩:=QJ hrd ps _ _ cs (I7 zero) hb
  exact aU.pure hs (by simp only[step,e1,Option.map_some]<;>rfl) trivial ⟨as,rfl,e2⟩
 ·cases hx
theorem IB (hs:HS ρ h H) {ty:Nat} {cs:List XV} {e:AV} {sz:Nat} (hz:cs.length=sz) (hc:aI (V1 ρ h) cs e.cells):Upd ρ h H (ρ++[H.length]) (h++[.box ty cs]) (H++[⟨ty,sz,0,false,[e]⟩]) [] []/\V1 (ρ++[H.length]) (h++[.box ty cs]) (.ptr h.length 0 0) (.ptr H.length 1 0 0):=by
 refine⟨Upd.new hs ⟨rfl,hz.symm,rfl,rfl,e,rfl,hc⟩,.box ty cs,by simp,?_⟩
 rw[<- hs.rl,nL];rfl
theorem Uj (ty sz:Nat) (x:Opd):fB Gl ρ h σ rd tt (.box ty sz x):=by
 intro hs hrd p v kl h' hx hp
 simp only[cK]at hx
 split at hx
 ·rename_i cs hcs
  split at hx
  ·rename_i hz
   have hz:=beq_eq hz
   cases hx
   obtain⟨c1,c2⟩:=cells_ok hcs (hrd x)
   have hl:(σ.val Gl x).cells.length=sz:=by rw[<- c1.1,hz]
   obtain⟨u1,u2⟩:=IB (ty:=ty) hs hz c1
   exact⟨True,_,_,_,[],by simp only[step,c2,hl,if_true]<;>rfl,trivial,u1,VT.of1 u2,by simp⟩
  ·cases hx
 ·cases hx
theorem M8 {c:XV} {a:AV} (hc:lC c=true) (hv:V1 ρ h c a):∃ z,a=.v z:=by
 unfold lC at hc
 split at hc
 ·exact⟨_,Wp.aS hv⟩
 ·exact⟨_,Wp.aS hv⟩
 ·exact⟨_,Wp.aS hv⟩
 ·cases hc
theorem Dn {T:Ty} {z:T.den} {a:AV} (hw:Wp a (Ty.enc T z)) (hc:(flat T z).all lC=true):a.cells.all dw=true:=by
 have hf:=AO (ρ:=[]) (h:=[]) hw
 refine List.all_eq_true.2 fun c hc9=>?_
 obtain⟨k,hk⟩:=List.getElem?_of_mem hc9
 obtain⟨u,hu1,hu2⟩:=hf.iL hk
 obtain⟨w,rfl⟩:=M8 (List.all_eq_true.1 hc u (List.mem_of_getElem? hu1)) hu2
 rfl
theorem Vy (T:Ty):∀ x:T.den,(flat T x).all lC=true->∀ y:T.den,(flat T y).all lC=true:=by
 refine Ty.rec (motive_1:=fun T=>∀ x:T.den,(flat T x).all lC=true->∀ y:T.den,(flat T y).all lC=true) (motive_2:=fun fs=>∀ x:Ty.aQ fs,(qU fs x).all lC=true->∀ y:Ty.aQ fs,(qU fs y).all lC=true) ?_ ?_ ?_ ?_ ?_ ?_ ?_ ?_ ?_ T
 ·intro k x _ y;rfl
 ·intro x _ y;rfl
 ·intro x _ y;rfl
 ·intro e _ x h y;cases h
 ·intro fs ih x h y;exact ih x h y
 ·intro f x h y;cases h
 ·intro e _ x h y;cases h
 ·intro x _ y;rfl
 ·intro t ts h1 h2 x h y
  simp only[qU,List.all_append,Bool.and_eq_true]at h ⊢
  exact⟨h1 x.1 h.1 y.1,h2 x.2 h.2 y.2⟩
theorem Nj (k:IntKind):∀ (n:Nat) (z:Ty.aQ (List.replicate n (.int k))),(qU (List.replicate n (.int k)) z).all lC=true:=by
 intro n
 induction n with
 |zero=>intro z;rfl
 |succ n ih =>
  intro z
  show (XV.d (.int k) z.1::qU (List.replicate n (.int k)) z.2).all lC=true
  rw[List.all_cons,ih];rfl
theorem Ab (k:IntKind):∀ n:Nat,Ty.jr (List.replicate n (.int k))=n:=by
 intro n
 induction n with
 |zero=>rfl
 |succ n ih=>show 1+Ty.jr (List.replicate n (.int k))=n+1;rw[ih];omega
theorem OY (ty sz:Nat) (k:IntKind) (x:Opd):fB Gl ρ h σ rd tt (.vW ty sz k x):=by
 intro hs hrd p v kl h' hx hp
 simp only[cK]at hx
 split at hx
 case h_2=>cases hx
 rename_i z hz
 split at hx
 case isFalse=>cases hx
 rename_i h2
 cases hx
 have hw:Wp (σ.val Gl x) (Ty.enc (.tup (List.replicate sz (.int k))) z):=iV (ρ:=ρ) (h:=h) hz (VT.kW (hrd x) (fun vs q=>by rw[q]at hz;cases hz))
 obtain⟨us,hus,_⟩:=hw.dD
 have hall:=Dn hw (Nj k sz z)
 have hl:us.length=sz:=by
  have:=hw.cells.1
  rw[fE,hus]at this
  rw[<- Ab k sz]
  exact this
 rw[hus]at hall hw
 have hv:V1 (ρ++[σ.h.length]) (h++[.row ty (.tup (List.replicate sz (.int k))) true [z]]) (.ptr h.length 0 0) (.ptr σ.h.length 1 0 0):=⟨.row ty (.tup (List.replicate sz (.int k))) true [z],by simp,by rw[<- hs.rl,nL];rfl⟩
 refine⟨True,.ptr σ.h.length 1 0 0,σ.h++[⟨ty,sz,1,true,[.agg us]⟩],ρ++[σ.h.length],[],?_,trivial,Upd.new hs ⟨rfl,(Ab k sz).symm,rfl,rfl,.cons hw .nil⟩,VT.of1 hv,by simp⟩
 simp only[step,hus]
 rw[if_pos ⟨hl,Nat.le_of_ble_eq_true h2,hall⟩]
theorem Dx (v:Value):VT ρ h (vx v) (aR v):=by
 by_cases ha:∃ cs,v=.agg cs
 ·obtain⟨cs,rfl⟩:=ha;exact⟨_,rfl,I7 cs.toList⟩
 ·have e1:vx v=vx1 v:=by cases v<;>first|rfl|exact absurd ⟨_,rfl⟩ ha
  have e2:aR v=.v v:=by cases v<;>first|rfl|exact absurd ⟨_,rfl⟩ ha
  rw[e1,e2];exact VT.of1 (Dy v)
theorem NU (v:Value):(aR v).cells.length=v.cells.size:=by
 cases v with
 |agg cs=>simp[aR,AV.cells,Value.cells]
 |_=>rfl
theorem M0 (ty:Nat) (zero:Value):fB Gl ρ h σ rd tt (.alloc ty zero):=by
 intro hs hrd p v kl h' hx hp
 simp only[cK]at hx
 split at hx
 ·rename_i cs hcs
  cases hx
  obtain⟨c1,c2⟩:=cells_ok hcs (Dx (ρ:=ρ) (h:=h) zero)
  obtain⟨u1,u2⟩:=IB (ty:=ty) (sz:=zero.cells.size) hs (by rw[c1.1,NU]) c1
  exact⟨True,_,_,_,[],by simp only[step]<;>rfl,trivial,u1,VT.of1 u2,by simp⟩
 ·cases hx
theorem Df {n:Int} {b:Nat} (h:lX n b=true):0<=n/\n*b<=gY/\n<=4611686018427387904:=by
 simp only[lX,Bool.and_eq_true,decide_eq_true_eq]at h
 exact⟨h.1.1,h.1.2,h.2⟩
theorem XG (hs:HS ρ h σ.h) {ty sz bytes:Nat} {zero:Value} {n:Opd} {m:Int} {T:Ty} {z:T.den} (hn:σ.val Gl n=.v (.int .i64 m)) (hz:T.size=sz) (ht:toD [] T (vx zero)=some z) (hp:lX m bytes=true):aU Gl ρ h σ rd (.mk ty sz bytes zero n) (.row h.length) [] (h++[.row ty T false (List.replicate m.toNat z)]):=by
 have hf:=Df hp
 have hnt:∀ vs,vx zero≠.tup vs:=fun vs q=>by
  rw[q]at ht
  cases T<;>simp[toD,lst]at ht
 have hw:=iV ht (VT.kW (Dx (ρ:=ρ) (h:=h) zero) hnt)
 have hc:aI Wp (List.replicate m.toNat (aR zero)) ((List.replicate m.toNat z).map (Ty.enc T)):=by
  rw[List.map_replicate]
  exact⟨by simp,fun i x y p q=>by
   have p':=List.eq_of_mem_replicate (List.mem_of_getElem? p)
   have q':=List.eq_of_mem_replicate (List.mem_of_getElem? q)
   subst p' q';exact hw⟩
 obtain⟨u1,u2⟩:=jP (ty:=ty) hs hz hc
 rw[List.length_replicate]at u2
 exact⟨_,_,_,_,[],by simp only[step,hn]<;>rfl,hf,u1,VT.of1 u2,by simp⟩
theorem Xo (ty sz bytes:Nat) (zero:Value) (n:Opd):fB Gl ρ h σ rd tt (.mk ty sz bytes zero n):=by
 intro hs hrd p v kl h' hx hp
 simp only[cK]at hx
 have hv:=hrd n
 split at hx
 ·rename_i T m hT h1
  rw[h1]at hv
  split at hx
  ·rename_i hz
   split at hx
   ·rename_i z hzz
    cases hx
    exact XG hs (gq hv) (beq_eq hz) hzz hp
   ·cases hx
  ·cases hx
 ·cases hx
theorem JU (ty sz n:Nat) (zero:Value):fB Gl ρ h σ rd tt (.alloca ty sz n zero):=by
 intro hs hrd p v kl h' hx hp
 simp only[cK]at hx
 split at hx
 ·rename_i T hT
  split at hx
  ·rename_i hz
   have hz:=beq_eq hz
   split at hx
   ·rename_i z ht
    cases hx
    have hnt:∀ vs,vx zero≠.tup vs:=fun vs q=>by
     rw[q]at ht
     cases T<;>simp[toD,lst]at ht
    have hw:=iV ht (VT.kW (Dx (ρ:=ρ) (h:=h) zero) hnt)
    have hc:aI Wp (List.replicate n (aR zero)) ((List.replicate n z).map (Ty.enc T)):=by
     rw[List.map_replicate]
     exact⟨by simp,fun i x y p q=>by
      have p':=List.eq_of_mem_replicate (List.mem_of_getElem? p)
      have q':=List.eq_of_mem_replicate (List.mem_of_getElem? q)
      subst p' q';exact hw⟩
    obtain⟨u1,u2⟩:=jP (ty:=ty) hs hz hc
    refine⟨True,_,_,_,[],by simp only[step]<;>rfl,trivial,u1,VT.of1 ⟨.row ty T false (List.replicate n z),(show (h++[XO.row ty T false (List.replicate n z)])[h.length]?=_ by simp),?_⟩,by simp⟩
    rw[<- hs.rl,nL]
    simp[XO.len]
   ·cases hx
  ·cases hx
 ·cases hx
theorem Mj (hs:HS ρ h σ.h) {bsz st n id j:Nat} {x i:Opd} {k:IntKind} {m:Int} {ty:Nat} {T:Ty} {fz:Bool} {es:List T.den} (he:h[id]?=some (.row ty T fz es)) (ha:σ.val Gl x=.ptr (ρ.getD id 0) (XO.len (.row ty T fz es)) j 0) (ei:σ.val Gl i=.v (.int k m)) (hz:T.size=bsz) (hb:0<=m/\m < (n:Int)) :
  aU Gl ρ h σ rd (.kF bsz st n x i) (.ptr id (j+m.toNat*st) 0) [] h:=by
 obtain⟨O,hO,o1,o2,_⟩:=hs.hr id _ he
 exact aU.pure hs (q:=0<=m/\m<(n:Int)) (a:=.ptr (ρ.getD id 0) (XO.len (.row ty T fz es)) (j+m.toNat*st) 0) (by simp only[step,ha,ei,hO];rw[if_pos ⟨trivial,by rw[o2];exact hz⟩]) hb ⟨_,he,rfl⟩
theorem K7 (hs:HS ρ h σ.h) {n id j o:Nat} {x i:Opd} {k:IntKind} {m:Int} {ty:Nat} {T:Ty} {fz:Bool} {es:List T.den} (he:h[id]?=some (.row ty T fz es)) (ha:σ.val Gl x=.ptr (ρ.getD id 0) (XO.len (.row ty T fz es)) j o) (ei:σ.val Gl i=.v (.int k m)) (hz:o=0->T.size=1->False) (hb:0<=m/\m < (n:Int)) :
  aU Gl ρ h σ rd (.kF 1 1 n x i) (.ptr id j (o+m.toNat)) [] h:=by
 obtain⟨O,hO,o1,o2,_⟩:=hs.hr id _ he
 exact aU.pure hs (q:=0<=m/\m<(n:Int)) (a:=.ptr (ρ.getD id 0) (XO.len (.row ty T fz es)) j (o+m.toNat)) (by simp only[step,ha,ei,hO];rw[if_neg (by rw[o2];rintro⟨q1,q2⟩;exact hz q1 q2),if_pos ⟨trivial,trivial⟩]) hb ⟨_,he,rfl⟩
theorem ED {T:Ty}:∀ {fs:List Ty} {x:Ty.aQ fs} {xs:List T.den},Bu T fs x=some xs->Ty.dV fs x=xs.flatMap fun y=>(Ty.enc T y).cells:=by
 intro fs
 induction fs with
 |nil=>intro x xs h;cases h;rfl
 |cons t ts ih =>
  intro x xs h
  simp only[Bu]at h
  split at h
  ·rename_i a l ha hl
   cases h
   obtain⟨e,rfl⟩:=gH ha
   subst e
   simp only[Ty.dV,List.flatMap_cons,ih hl]
  ·cases h
theorem Gi {α β:Type} (f:α->List β) (k:Nat) (hk:∀ x,(f x).length=k):∀ (xs:List α) (m:Nat) (hm:m<xs.length),((xs.flatMap f).drop (m*k)).take k=f xs[m]:=by
 intro xs
 induction xs with
 |nil=>intro m hm;simp at hm
 |cons x xs ih =>
  intro m hm
  rw[List.flatMap_cons]
  cases m with
  |zero=>simp[hk x]
  |succ m =>
   have e:(f x++xs.flatMap f).drop ((m+1)*k)=(xs.flatMap f).drop (m*k):=by
    rw[List.drop_append,List.drop_eq_nil_of_le (by rw[hk x,Nat.add_mul,Nat.one_mul];omega),List.nil_append,hk x]
    congr 1
    rw[Nat.add_mul,Nat.one_mul];omega
   rw[e]
   exact ih m (by simpa using hm)
theorem M4 (bsz st n:Nat) (x i:Opd):fB Gl ρ h σ rd tt (.kF bsz st n x i):=by
 intro hs hrd p v kl h' hx hp
 simp only[cK]at hx
 have hv:=hrd x
 have hi:=hrd i
 split at hx
 ·rename_i id j o k m h1 h2
  rw[h1]at hv;rw[h2]at hi
  have ei:=gq hi
  obtain⟨ob,he,ha⟩:=hv
  rw[he]at hx
  split at hx
  ·rename_i ty T fz es hq
   cases hq
   split at hx
   ·rename_i hz
    simp only[Bool.and_eq_true]at hz
    have h0:=beq_eq hz.1
    subst h0
    cases hx
    exact Mj hs he ha ei (beq_eq hz.2) (lq hp)
   ·rename_i hz
    split at hx
    ·rename_i h11
     simp only[Bool.and_eq_true]at h11
     have e1:=beq_eq h11.1
     have e2:=beq_eq h11.2
     subst e1 e2
     cases hx
     exact K7 hs he ha ei (fun q1 q2=>hz (by rw[q1,q2];rfl)) (lq hp)
    ·cases hx
  ·cases hx
 ·rename_i T ts y o k m h1 h2
  rw[h1]at hv;rw[h2]at hi
  have ei:=gq hi
  split at hx
  case h_2=>cases hx
  rename_i xs hxs
  split at hx
  case isFalse=>cases hx
  rename_i hz
  simp only[Bool.and_eq_true]at hz
  obtain⟨⟨⟨z1,z2⟩,z3⟩,z4⟩:=hz
  have z1:=beq_eq z1
  have z2:=beq_eq z2
  have z3:=beq_eq z3
  have z4:=beq_eq z4
  subst z1;subst z3
  cases hx
  have hb:=lq hp
  obtain⟨cs,ha,hc⟩:=hv
  rw[List.drop_zero]at hc
  have hm:m.toNat<xs.length:=by omega
  have e1:atI xs m T.dflt=xs[m.toNat]:=by
   show xs.getD m.toNat _=_
   simp[List.getD,List.getElem?_eq_getElem hm]
  refine aU.pure hs (by simp only[step,ha,ei]<;>rfl) hb ⟨_,rfl,?_⟩
  rw[List.drop_zero,e1]
  have hq:=(hc.drop (m.toNat*T.size)).take T.size
  have e2:(Ty.enc (.tup (T::ts)) y).cells=xs.flatMap fun x=>(Ty.enc T x).cells:=ED hxs
  rw[e2,Gi (fun x=>(Ty.enc T x).cells) T.size (fun x=>fE T x) xs m.toNat hm]at hq
  rw[Nat.one_mul,<- z2]
  exact hq
 ·cases hx
theorem Pt (hs:HS ρ h σ.h) {n:Nat} {x i:Opd} {k:IntKind} {m:Int} {T:Ty} {ts:List Ty} {y:Ty.aQ (T :: ts)} {xs:List T.den} (hv:Wp (σ.val Gl x) (.agg (Ty.dV (T :: ts) y))) (ei:σ.val Gl i=.v (.int k m)) (hxs:Bu T (T :: ts) y=some xs) (z2:xs.length=n) (hb:0<=m/\m < (n:Int)) :
  aU Gl ρ h σ rd (.uh T.size T.iD n x i) (.d T (atI xs m T.dflt)) [] h:=by
 obtain⟨cs,ha,hc⟩:=Wp.dD hv
 have hm:m.toNat<xs.length:=by omega
 have e1:atI xs m T.dflt=xs[m.toNat]:=by
  show xs.getD m.toNat _=_
  simp[List.getD,List.getElem?_eq_getElem hm]
 have e2:Ty.dV (T::ts) y=xs.flatMap fun x=>(Ty.enc T x).cells:=ED hxs
 have hlen:cs.length=n*T.size:=by
  rw[hc.1,e2,List.length_flatMap,<- z2]
  have:∀ l:List T.den,(l.map fun x=>(Ty.enc T x).cells.length).sum=l.length*T.size:=by
   intro l
   induction l with
   |nil=>simp
   |cons a l ih=>rw[List.map_cons,List.sum_cons,ih,fE,List.length_cons,Nat.add_mul,Nat.one_mul,Nat.add_comm]
  exact this xs
 have hq:=(hc.drop (m.toNat*T.size)).take T.size
 rw[e2,Gi (fun x=>(Ty.enc T x).cells) T.size (fun x=>fE T x) xs m.toNat hm]at hq
 rcases jg (T:=T) (x:=xs[m.toNat]) with ⟨t1,es,t2⟩|⟨t1,t2⟩
 ·rw[t1]
  refine aU.pure hs (q:=0<=m/\m<(n:Int)) (a:=.agg ((cs.drop (m.toNat*T.size)).take T.size)) (by simp only[step,ha,ei,hlen,if_true]<;>rfl) hb ?_
  rw[e1]
  show Wp _ _
  rw[t2]at hq ⊢
  exact .agg _ _ hq.1 hq.2
 ·rw[t1]
  have hsz:T.size=1:=by
   have:=fE T xs[m.toNat]
   rw[t2.cells]at this
   exact this.symm
  have hlt:m.toNat*T.size<cs.length:=by rw[hlen,hsz];omega
  refine aU.pure hs (q:=(0<=m/\m<(n:Int))/\m.toNat*T.size<cs.length) (a:=cs.getD (m.toNat*T.size) .any) (by simp only[step,ha,ei,hlen,if_true,Bool.false_eq_true,if_false]<;>rfl) ⟨hb,hlt⟩ ?_
  rw[e1]
  show Wp _ _
  rw[t2.cells]at hq
  have h0:((cs.drop (m.toNat*T.size)).take T.size)[0]?=some (cs.getD (m.toNat*T.size) .any):=by
   rw[List.getElem?_take,if_pos (by omega),List.getElem?_drop,Nat.add_zero]
   simp[List.getD,List.getElem?_eq_getElem hlt]
  exact hq.2 0 _ _ h0 rfl
theorem Mi (hs:HS ρ h σ.h) {n:Nat} {x i:Opd} {k:IntKind} {m:Int} {cs:List XV} {c:XV} (hv:VA ρ h (.agg cs) (σ.val Gl x)) (ei:σ.val Gl i=.v (.int k m)) (z3:cs.length=n) (hc1:cs[m.toNat]?=some c) (hb:0<=m/\m < (n:Int)) :
  aU Gl ρ h σ rd (.uh 1 false n x i) c [] h:=by
 obtain⟨as,ha,hc⟩:=hv
 obtain⟨b,hb1,hb2⟩:=hc.jh hc1
 have hlt:m.toNat*1<as.length:=by rw[Nat.mul_one];exact (List.getElem?_eq_some_iff.1 hb1).1
 have hl:as.length=n*1:=by rw[<- hc.1,z3,Nat.mul_one]
 refine aU.pure hs (q:=(0<=m/\m<(n:Int))/\m.toNat*1<as.length) (a:=as.getD (m.toNat*1) .any) (by simp only[step,ha,ei,hl,if_true,Bool.false_eq_true,if_false]<;>rfl) ⟨hb,hlt⟩ ?_
 rw[Nat.mul_one]
 have:as.getD m.toNat .any=b:=by simp[List.getD,hb1]
 rw[this]
 exact VT.of1 hb2
theorem P6 (sz:Nat) (ag:Bool) (n:Nat) (x i:Opd):fB Gl ρ h σ rd tt (.uh sz ag n x i):=by
 intro hs hrd p v kl h' hx hp
 simp only[cK]at hx
 have hv:=hrd x
 have hi:=hrd i
 split at hx
 ·rename_i T ts y k m h1 h2
  rw[h1]at hv;rw[h2]at hi
  have ei:=gq hi
  split at hx
  case h_2=>cases hx
  rename_i xs hxs
  split at hx
  case isFalse=>cases hx
  rename_i hz
  simp only[Bool.and_eq_true]at hz
  obtain⟨⟨z1,z2⟩,z3⟩:=hz
  have z1:=beq_eq z1
  have z2:=beq_eq z2
  have z3:ag=T.iD:=by simpa using z3
  subst z1;subst z3
  cases hx
  exact Pt hs hv ei hxs z2 (lq hp)
 ·rename_i cs k m h1 h2
  rw[h1]at hv;rw[h2]at hi
  have ei:=gq hi
  split at hx
  case isFalse=>cases hx
  rename_i hz
  simp only[Bool.and_eq_true,Bool.not_eq_true']at hz
  obtain⟨⟨z1,z2⟩,z3⟩:=hz
  have z1:=beq_eq z1
  have z3:=beq_eq z3
  subst z1;subst z2
  split at hx
  case h_2=>cases hx
  rename_i c hc1
  cases hx
  exact Mi hs hv ei z3 hc1 (lq hp)
 ·cases hx
theorem OZ (n:Nat) (x:Opd) (lo hi:Option Opd):fB Gl ρ h σ rd tt (.uf n x lo hi):=by
 intro hs hrd p v kl h' hx hp
 simp only[cK]at hx
 have hv:=hrd x
 split at hx
 case h_2=>cases hx
 rename_i id i o h1
 rw[h1]at hv
 obtain⟨ob,he,ha⟩:=hv
 rw[he]at hx
 cases ob with
 |row ty T fz es=>cases hx
 |vec ty cs=>cases hx
 |map ty K V es=>cases hx
 |box ty cs =>
  simp only at hx
  split at hx
  case h_2=>cases hx
  rename_i T hT
  split at hx
  case h_2=>cases hx
  rename_i z ys p' l u hz hys hc
  split at hx
  case isFalse=>cases hx
  rename_i hb
  simp only[Bool.and_eq_true]at hb
  obtain⟨⟨⟨b1,b2⟩,b3⟩,b4⟩:=hb
  have b1:=beq_eq b1
  have b2:=Nat.le_of_ble_eq_true b2
  have b3:=Nat.le_of_ble_eq_true b3
  subst b1
  cases hx
  obtain⟨O,hO,o1,o2,o3,o4,e,o5,hcs⟩:=hs.hr id _ he
  have hlen:O.es.length=1:=by rw[o5];rfl
  have hel:e.cells.length=cs.length:=hcs.1.symm
  have hagg:∃ us,e=.agg us:=by
   cases e with
   |agg us=>exact⟨us,rfl⟩
   |_=>exact absurd hel (by show ¬ (1=cs.length);omega)
  obtain⟨us,rfl⟩:=hagg
  have hcs:aI (V1 ρ h) cs us:=hcs
  have hall:O.es.all (fun e=>e.cells.all dw)=true:=by
   rw[o5]
   simp only[List.all_cons,List.all_nil,Bool.and_true]
   refine List.all_eq_true.2 fun a hq9=>?_
   obtain⟨k,hk⟩:=List.getElem?_of_mem hq9
   have hk:us[k]?=some a:=hk
   obtain⟨c,hc1,hc2⟩:=hcs.iL hk
   obtain⟨w,rfl⟩:=M8 (List.all_eq_true.1 b4 c (List.mem_of_getElem? hc1)) hc2
   rfl
  have hw:Wp (.agg us) (Ty.enc T z):=iV (ρ:=ρ) (h:=h) (x:=.agg cs) hz ⟨us,rfl,hcs⟩
  have hTs:cs.length=T.size:=by
   have:=hw.cells.1
   rw[fE]at this
   rw[hcs.1];exact this
  obtain⟨q1,q2⟩:=nH hrd hc hp
  have hu:=(kQ q1).1
  have hq3:0<=l/\l<=u/\u<=(n:Int):=by rw[<- hu];exact q2
  have hyl:aI Wp ((us.drop o).take n) (ys.map (Ty.enc (.int .i64))):=by
   have hvt:aI (VT ρ h) ((cs.drop o).take n) ((us.drop o).take n):=((hcs.drop o).take n).mono fun _ _ q=>VT.of1 q
   exact (sN (H:=σ.h) hys hvt).2.1
  refine⟨(0<=l/\l<=u/\u<=(n:Int))/\o+n<=O.sz/\0<1,.list 1 ((((O.es.getD 0 .any).cells.drop o).take u.toNat).drop l.toNat),σ.h.set (ρ.getD id 0) { O with pr:=true,fz:=O.es.length },ρ,[id],by simp only[step,ha,hO,XO.len,hlen,hall,and_self,if_true,q1,Option.map_some]<;>rfl,⟨q2,by rw[o2];exact b3,by omega⟩,Upd.set hs he rfl ⟨o1,by rw[o2,hTs],rfl,by simp[hlen],?_⟩,?_,?_⟩
  ·rw[o5];exact .cons hw .nil
  ·show Wp _ _
   have e0:(O.es.getD 0 .any).cells=us:=by rw[o5];rfl
   rw[e0]
   have e1:((us.drop o).take u.toNat)=(((us.drop o).take n).take u.toNat):=by rw[List.take_take,Nat.min_eq_left (by omega)]
   rw[e1]
   have:=zK (e:=.int .i64) (l:=l) (u:=u) hyl
   exact .list _ _ _ this.1 this.2
  ·intro ok hok id' hid
   simp only[leaves,h1]at hok
   simp only[List.mem_singleton]at hid
   subst hid
   exact hok
theorem JR (bsz n:Nat) (x:Opd) (lo hi:Option Opd):fB Gl ρ h σ rd tt (.aslice bsz n x lo hi):=by
 intro hs hrd p v kl h' hx hp
 simp only[cK]at hx
 have hv:=hrd x
 split at hx
 ·rename_i id j o h1
  rw[h1]at hv
  obtain⟨ob,he,ha⟩:=hv
  rw[he]at hx
  split at hx
  ·rename_i ty T fz es hq
   cases hq
   split at hx
   ·rename_i hz
    simp only[Bool.and_eq_true]at hz
    have h0:=beq_eq hz.1.1
    have h00:=beq_eq hz.2
    subst h0 h00
    split at hx
    ·rename_i p l u hc
     cases hx
     simp only[Bool.and_eq_true]at hp
     obtain⟨k1,k2⟩:=nH hrd hc hp.1
     obtain⟨O,hO,o1,o2,_⟩:=hs.hr id _ he
     have hle:n<=es.length:=of_decide_eq_true hp.2
     refine aU.pure hs (q:=(0<=l/\l<=u/\u<=(n:Int))/\0+n<=XO.len (.row ty T fz es)) (a:=.row (ρ.getD id 0) (XO.len (.row ty T fz es)) bsz (0+l.toNat) (u-l).toNat) (by simp only[step,ha,hO];rw[if_pos ⟨trivial,by rw[o2];exact beq_eq hz.1.2⟩,k1];rfl) ⟨k2,by simp only[XO.len];omega⟩ ⟨_,_,_,_,he,by rw[beq_eq hz.1.2,Nat.zero_add];rfl⟩
    ·cases hx
   ·split at hx
    case isFalse=>cases hx
    rename_i hz
    simp only[Bool.and_eq_true]at hz
    obtain⟨⟨⟨⟨b1,b2⟩,b3⟩,b4⟩,b5⟩:=hz
    have b1:=beq_eq b1
    have b2:=Nat.le_of_ble_eq_true b2
    have b4:=Nat.le_of_ble_eq_true b4
    subst b1 b3
    split at hx
    case h_2=>cases hx
    rename_i ys p' l u hys hc
    cases hx
    simp only[Bool.and_eq_true]at hp
    obtain⟨p1,p2⟩:=hp
    have hj:j<es.length:=of_decide_eq_true p2
    obtain⟨O,hO,o1,o2,o3,o4,o5⟩:=hs.hr id _ he
    have hOl:O.es.length=es.length:=by have:=o5.1;simpa using this
    have hgd:∀ k,k<es.length->Wp (O.es.getD k .any) (Ty.enc T (es.getD k T.dflt)):=fun k hk=>by
     have:=o5.getD (n:=k) (by simpa using hk) .any (Ty.enc T T.dflt)
     rw[List.getD_eq_getElem?_getD (l:=es.map _),List.getElem?_map]at this
     rw[List.getD_eq_getElem?_getD (l:=es)]
     rw[List.getElem?_eq_getElem hk]at this ⊢
     exact this
    have hw:=hgd j hj
    have hall:O.es.all (fun e=>e.cells.all dw)=true:=by
     refine List.all_eq_true.2 fun a ha9=>?_
     obtain⟨k,hk⟩:=List.getElem?_of_mem ha9
     have hkl:k<es.length:=by rw[<- hOl];exact (List.getElem?_eq_some_iff.1 hk).1
     have e1:O.es.getD k .any=a:=by rw[List.getD_eq_getElem?_getD,hk];rfl
     have:=hgd k hkl
     rw[e1]at this
     refine Dn this ?_
     exact Vy T (es.getD j T.dflt) b5 _
    obtain⟨q1,q2⟩:=nH hrd hc p1
    have hu:=(kQ q1).1
    have hq3:0<=l/\l<=u/\u<=(n:Int):=by rw[<- hu];exact q2
    have hyl:aI Wp (((O.es.getD j .any).cells.drop o).take n) (ys.map (Ty.enc (.int .i64))):=by
     have hvt:aI (VT ρ h) (((flat T (es.getD j T.dflt)).drop o).take n) (((O.es.getD j .any).cells.drop o).take n):=(((AO hw).drop o).take n).mono fun _ _ q=>VT.of1 q
     exact (sN (H:=σ.h) hys hvt).2.1
    refine aU.pure hs (q:=(0<=l/\l<=u/\u<=(n:Int))/\o+n<=O.sz/\j<XO.len (.row ty T true es)) (a:=.list 1 ((((O.es.getD j .any).cells.drop o).take u.toNat).drop l.toNat)) ?_ ⟨q2,by rw[o2];exact b4,hj⟩ ?_
    ·simp only[step,ha,hO]
     rw[if_neg (by rw[o2];rintro⟨_,q⟩;omega),if_pos ⟨trivial,hOl,hall,o3,by rw[o4,hOl];rfl⟩,q1]
     rfl
    ·show Wp _ _
     have e1:(((O.es.getD j .any).cells.drop o).take u.toNat)=((((O.es.getD j .any).cells.drop o).take n).take u.toNat):=by rw[List.take_take,Nat.min_eq_left (by omega)]
     rw[e1]
     have:=zK (e:=.int .i64) (l:=l) (u:=u) hyl
     exact .list _ _ _ this.1 this.2
  ·cases hx
 ·cases hx
theorem Fw (hs:HS ρ h σ.h) {id ty off len sz:Nat} {T:Ty} {es ys:List T.den} {d s:Opd} (he:h[id]?=some (.row ty T false es)) (ha:σ.val Gl d=.row (ρ.getD id 0) es.length T.size off len) (hz:T.size=sz)
  (hv:VT ρ h (rd s) (σ.val Gl s)) (hy:qb h T (rd s)=some ys) (hl:off+len<=es.length):aU Gl ρ h σ rd (.copy sz d s) (.d (.int .i64) ((min ys.length len:Nat):Int)) [] (h.set id (.row ty T false (cpy es off len ys))):=by
 obtain⟨as,e1,e2⟩:=vP hs hz hy hv
 obtain⟨O,hO,o1,o2,o3,o4,o5⟩:=hs.hr id _ he
 have hal:as.length=ys.length:=by rw[e2.1,List.length_map]
 have hol:O.es.length=es.length:=by have:=o5.1;simpa using this
 have htl:(as.take len).length=(ys.take len).length:=by simp[hal]
 have hR:aI Wp (O.es.take off++as.take len++O.es.drop (off+(as.take len).length)) ((cpy es off len ys).map (Ty.enc T)):=by
  unfold cpy
  rw[List.map_append,List.map_append,List.map_take,List.map_take,List.map_drop,htl]
  exact ((o5.take off).append (e2.take len)).append (o5.drop _)
 have hlen:(cpy es off len ys).length=es.length:=by
  unfold cpy
  simp only[List.length_append,List.length_take,List.length_drop]
  omega
 have hu:=Upd.set hs (o':=.row ty T false (cpy es off len ys)) (O':={ O with es:=O.es.take off++as.take len++O.es.drop (off+(as.take len).length) }) he (by simp[lD,hlen]) ⟨o1,o2,o3,by rw[o4];simp,hR⟩
 refine⟨O.fz<=off,.v (.int .i64 ((min as.length len:Nat):Int)),_,ρ,[id],?_,?_,hu,?_,?_⟩
 ·simp only[step,e1,ha,hO]
  rw[if_pos ⟨hol,hz,by rw[o2,hz],o3,by simpa using o4⟩]
 ·rw[o4];simp
 ·rw[hal];exact EA (.refl _)
 ·intro m hm;cases hm
theorem OV (sz:Nat) (d s:Opd):fB Gl ρ h σ rd tt (.copy sz d s):=by
 intro hs hrd p v kl h' hx hp
 simp only[cK]at hx
 have hv:=hrd d
 split at hx
 ·rename_i id off len h1
  rw[h1]at hv
  obtain⟨ty,T,fz,es,he,ha⟩:=hv
  rw[he]at hx
  simp only at hx
  split at hx
  ·rename_i ys hy
   split at hx
   ·rename_i hz
    cases hx
    exact Fw hs he ha (beq_eq hz) (hrd s) hy (of_decide_eq_true hp)
   ·cases hx
  ·cases hx
 ·rename_i id h1
  rw[h1]at hv
  obtain⟨ty,T,fz,es,he,ha⟩:=hv
  rw[he]at hx
  simp only at hx
  split at hx
  ·rename_i ys hy
   split at hx
   ·rename_i hz
    cases hx
    exact Fw hs he ha (beq_eq hz) (hrd s) hy (by omega)
   ·cases hx
  ·cases hx
 ·cases hx
theorem Yb {x:XV} {a:AV} (hk:okX x=true) (hv:VT ρ h x a):st1 false a=true/\a.cells=[a]/\V1 ρ h x a:=by
 have hv1:V1 ρ h x a:=by cases x<;>first|exact hv|(cases hk;done)
 obtain⟨c1,c2⟩:=JK hv1 hk
 exact⟨c1,c2,hv1⟩
theorem OX (ty:Nat) (xs:List Opd):fB Gl ρ h σ rd tt (.vU ty xs):=by
 intro hs hrd p v kl h' hx hp
 simp only[cK]at hx
 split at hx
 case isFalse=>cases hx
 rename_i hall
 cases hx
 have hone:∀ x∈xs,st1 false (σ.val Gl x)=true/\(σ.val Gl x).cells=[σ.val Gl x]/\V1 ρ h (rd x) (σ.val Gl x):=fun x hxm =>
  Yb (List.all_eq_true.1 hall _ (List.mem_map.2 ⟨x,hxm,rfl⟩)) (hrd x)
 have hst:(xs.map (σ.val Gl)).all (st1 false)=true:=List.all_eq_true.2 fun a ha=>by
  obtain⟨x,hxm,rfl⟩:=List.mem_map.1 ha
  exact (hone x hxm).1
 have hO:mE ρ h (.vec ty (xs.map rd)) ⟨ty,1,0,false,xs.map (σ.val Gl)⟩:=by
  refine⟨rfl,rfl,rfl,rfl,by simp,fun i c e q q'=>?_⟩
  rw[List.getElem?_map]at q q'
  cases hi:xs[i]? with
  |none=>rw[hi]at q;cases q
  |some x =>
   rw[hi]at q q'
   cases q;cases q'
   exact (hone x (List.mem_of_getElem? hi)).2
 refine⟨True,.row σ.h.length xs.length 1 0 xs.length,_,ρ++[σ.h.length],[],by simp only[step,hst,if_true]<;>rfl,trivial,Upd.new hs hO,?_,fun _ _ _ q=>by simp at q⟩
 refine VT.of1 ⟨ty,xs.map rd,by show (h++_)[h.length]?=_;simp,?_⟩
 rw[<- hs.rl,nL];simp
theorem zH (k:IntKind):∀ (n:Nat) (x:Ty.aQ (List.replicate n (.int k))),(Ty.dV (List.replicate n (.int k)) x).length=n/\(Ty.dV (List.replicate n (.int k)) x).all (okI k)=true
 |0,_=>⟨rfl,rfl⟩
 |n+1,x=>by
  obtain⟨h1,h2⟩:=zH k n x.2
  have e:Ty.dV (List.replicate (n+1) (.int k)) x=.v (.int k x.1)::Ty.dV (List.replicate n (.int k)) x.2:=rfl
  rw[e]
  exact⟨by simp[h1],by simp only[List.all_cons,h2,Bool.and_true];simp[okI]⟩
theorem xJ {k:IntKind}:∀ {as bs:List AV},aI Wp as bs->bs.all (okI k)=true->as=bs:=by
 intro as
 induction as with
 |nil=>intro bs h _;rw[h.iy]
 |cons a as ih =>
  intro bs h ho
  obtain⟨b,bs',rfl,h1,h2⟩:=h.dW
  simp only[List.all_cons,Bool.and_eq_true]at ho
  rw[ih h2 ho.2]
  congr 1
  cases b<;>first|(cases ho.1;done)|exact h1.aS
theorem Gr (k:IntKind):∀ (n:Nat) (x y:Ty.aQ (List.replicate n (.int k))),ko (Ty.dV (List.replicate n (.int k)) x) (Ty.dV (List.replicate n (.int k)) y)=Qx (List.replicate n (.int k)) x y
 |0,_,_=>rfl
 |n+1,x,y=>by
  have e:∀ x,Ty.dV (List.replicate (n+1) (.int k)) x=.v (.int k x.1)::Ty.dV (List.replicate n (.int k)) x.2:=fun _=>rfl
  rw[e,e]
  have ih:=Gr k n x.2 y.2
  show (eqC _ _&&ko _ _)=_
  rw[ih]
  rfl
theorem FV {kt:KT} {K V:Ty} (hm:oP kt K V=true) {key:K.den} {a:AV} (hw:Wp a (Ty.enc K key)):a=Ty.enc K key/\kt.ok a.cells=true/\zG a=true/\a.cells.length=kt.n:=by
 simp only[oP,Bool.and_eq_true]at hm
 obtain rfl:=Ty.same_eq hm.1.1
 cases kt with
 |int k =>
  have e:a=.v (.int k key):=hw.aS
  subst e
  exact⟨rfl,by simp[AV.cells,KT.ok,okI],rfl,rfl⟩
 |str =>
  have e:a=.v (.string key):=hw.aS
  subst e
  exact⟨rfl,rfl,rfl,rfl⟩
 |arr n k =>
  have h1:Nat.beq n 1=false:=by simpa using hm.2
  obtain⟨as,rfl,hc⟩:=Wp.dD hw
  obtain⟨l1,l2⟩:=zH k n key
  obtain rfl:=xJ hc l2
  refine⟨rfl,?_,?_,l1⟩
  ·show (Nat.beq (Ty.dV (List.replicate n (.int k)) key).length n&&(Ty.dV (List.replicate n (.int k)) key).all (okI k))=true
   rw[l1,l2];simp
  ·show (!(Nat.beq (Ty.dV (List.replicate n (.int k)) key).length 1))=true
   rw[l1,h1];rfl
theorem key_eq {kt:KT} {K V:Ty} (hm:oP kt K V=true) (x y:K.den):ko (Ty.enc K x).cells (Ty.enc K y).cells=eqT K x y:=by
 simp only[oP,Bool.and_eq_true]at hm
 obtain rfl:=Ty.same_eq hm.1.1
 cases kt with
 |int k=>show (eqC (.v (.int k x)) (.v (.int k y))&&true)=_;rw[Bool.and_true];rfl
 |str=>show (eqC (.v (.string x)) (.v (.string y))&&true)=_;rw[Bool.and_true];rfl
 |arr n k=>exact Gr k n x y
theorem Fz {V:Ty} (hV:V.iD=false) (v:V.den):(Ty.enc V v).cells=[Ty.enc V v]:=by
 rcases jg (x:=v) with ⟨h,_⟩|⟨_,h⟩
 ·rw[hV]at h;cases h
 ·exact h.cells
theorem ZQ {V:Ty} (hV:V.iD=false) {v:V.den} {a:AV} (hw:Wp a (Ty.enc V v)):Pl1 a:=by
 rcases jg (x:=v) with ⟨h,_⟩|⟨_,h⟩
 ·rw[hV]at h;cases h
 ·exact h.of_wp hw
theorem Ze {kt:KT} {K V:Ty} (hm:oP kt K V=true) {x:Ty.den (.tup [K,V])} {e:AV} (hw:Wp e (Ty.enc (.tup [K,V]) x)):∃ b,e=.agg ((Ty.enc K x.1).cells++[b])/\Wp b (Ty.enc V x.2.1)/\(Ty.enc K x.1).cells.length=kt.n/\kt.qV e=true:=by
 obtain⟨_,k2,_,k4⟩:=FV (V:=V) hm (.refl (Ty.enc K x.1))
 have hV:V.iD=false:=by simp only[oP,Bool.and_eq_true]at hm;simpa using hm.1.2
 have hK:∀ as bs,aI Wp as ((Ty.enc K x.1).cells++bs)->∃ cs,as=(Ty.enc K x.1).cells++cs/\aI Wp cs bs:=by
  intro as bs h
  have h1:=h.take kt.n
  have h2:=h.drop kt.n
  rw[<- k4,List.take_left',List.drop_left']at *<;>try rfl
  have e1:as.take (Ty.enc K x.1).cells.length=(Ty.enc K x.1).cells:=by
   simp only[oP,Bool.and_eq_true]at hm
   obtain rfl:=Ty.same_eq hm.1.1
   cases kt with
   |int k=>exact xJ (k:=k) h1 (by simp[Ty.enc,KT.ty,AV.cells,okI])
   |str =>
    obtain⟨a,as',e,q1,q2⟩:=h1.cons_right
    have q2:=q2.nK
    subst q2
    rw[e]
    have q1:=Wp.aS q1
    rw[q1];rfl
   |arr n k=>exact xJ (k:=k) h1 (zH k n x.1).2
  exact⟨as.drop (Ty.enc K x.1).cells.length,by conv=>lhs;rw[<- List.take_append_drop (Ty.enc K x.1).cells.length as,e1],h2⟩
 obtain⟨as,rfl,hc⟩:=Wp.dD hw
 have hc:aI Wp as ((Ty.enc K x.1).cells++((Ty.enc V x.2.1).cells++[])):=hc
 obtain⟨cs,rfl,h2⟩:=hK _ _ hc
 rw[Fz hV,List.append_nil]at h2
 obtain⟨b,cs',rfl,h3,h4⟩:=h2.cons_right
 have:=h4.nK
 subst this
 refine⟨b,rfl,h3,k4,?_⟩
 simp only[KT.qV,Bool.and_eq_true]
 refine⟨by simp[k4],?_⟩
 rw[<- k4,List.take_left']
 ·exact k2
 ·rfl
theorem Ns {K V:Ty} (hV:V.iD=false) (k:K.den) {v:V.den} {b:AV} (hb:Wp b (Ty.enc V v)):Wp (.agg ((Ty.enc K k).cells++[b])) (Ty.enc (.tup [K,V]) (k,v,())):=by
 have e:Ty.enc (.tup [K,V]) (k,v,())=.agg ((Ty.enc K k).cells++[Ty.enc V v]):=by
  show AV.agg ((Ty.enc K k).cells++((Ty.enc V v).cells++[]))=_
  rw[Fz hV,List.append_nil]
 rw[e]
 have:=(aI.rfl' Wp.refl (Ty.enc K k).cells).append (aI.cons hb .nil)
 exact .agg _ _ this.1 this.2
def mF (K V:Ty) (key:K.den) (es:List (Ty.den (.tup [K,V]))):Option V.den:=iM (α:=K.den) (β:=V.den) (eqT K) key es
def mP (K V:Ty) (key:K.den) (v:V.den) (es:List (Ty.den (.tup [K,V]))):List (Ty.den (.tup [K,V])):=jJ (α:=K.den) (β:=V.den) (eqT K) key v es
theorem wT {kt:KT} {K V:Ty} (hm:oP kt K V=true) (key:K.den) {v:V.den} {b:AV} (hb:Wp b (Ty.enc V v)):∀ (es:List (Ty.den (.tup [K,V]))) (os:List AV) (i:Nat),aI Wp os (es.map (Ty.enc (.tup [K,V]))) ->
  os.all kt.qV=true/\match jf kt.n (Ty.enc K key).cells os i with
   |none=>mF K V key es=none/\aI Wp (os++[.agg ((Ty.enc K key).cells++[b])]) ((mP K V key v es).map (Ty.enc (.tup [K,V])))
   |some (j,a)=>i<=j/\(∃ u,mF K V key es=some u/\Wp a (Ty.enc V u))/\aI Wp (os.set (j-i) (.agg ((Ty.enc K key).cells++[b]))) ((mP K V key v es).map (Ty.enc (.tup [K,V])))
 |[],os,i,h=>by
  have:=h.nK
  subst this
  have hV:V.iD=false:=by simp only[oP,Bool.and_eq_true]at hm;simpa using hm.1.2
  exact⟨rfl,rfl,.cons (Ns hV key hb) .nil⟩
 |x::es,os,i,h=>by
  have hV:V.iD=false:=by simp only[oP,Bool.and_eq_true]at hm;simpa using hm.1.2
  obtain⟨o,os',rfl,h1,h2⟩:=h.cons_right
  obtain⟨c,rfl,k1,k2,k3⟩:=Ze hm h1
  obtain⟨m1,m2⟩:=wT hm key hb es os' (i+1) h2
  refine⟨by simp only[List.all_cons,m1,k3,Bool.and_true],?_⟩
  have ht:((Ty.enc K x.1).cells++[c]).take kt.n=(Ty.enc K x.1).cells:=by rw[<- k2,List.take_left'];rfl
  have hg:((Ty.enc K x.1).cells++[c]).getD kt.n .any=c:=by rw[<- k2];simp[List.getD]
  have fe:jf kt.n (Ty.enc K key).cells (.agg ((Ty.enc K x.1).cells++[c])::os') i=if eqT K key x.1=true then some (i,c) else jf kt.n (Ty.enc K key).cells os' (i+1):=by
   conv=>lhs;unfold jf
   rw[ht,hg,key_eq hm]
  rw[fe]
  by_cases hq:eqT K key x.1=true
  ·have e1:mF K V key (x::es)=some x.2.1:=by show cond _ _ _=_;rw[hq];rfl
   have e2:mP K V key v (x::es)=(key,v,())::es:=by show cond _ _ _=_;rw[hq];rfl
   rw[if_pos hq,e1,e2]
   refine⟨Nat.le_refl _,⟨_,rfl,k1⟩,?_⟩
   rw[Nat.sub_self]
   exact .cons (Ns hV key hb) h2
  ·have hq':eqT K key x.1=false:=by simpa using hq
   have e1:mF K V key (x::es)=mF K V key es:=by show cond _ _ _=_;rw[hq'];rfl
   have e2:mP K V key v (x::es)=x::mP K V key v es:=by show cond _ _ _=_;rw[hq'];rfl
   rw[if_neg hq,e1,e2]
   cases hf:jf kt.n (Ty.enc K key).cells os' (i+1) with
   |none =>
    rw[hf]at m2
    exact⟨m2.1,.cons h1 m2.2⟩
   |some q =>
    obtain⟨j,a⟩:=q
    rw[hf]at m2
    obtain⟨n1,n2,n3⟩:=m2
    refine⟨by omega,n2,?_⟩
    rw[show j-i=(j-(i+1))+1 by omega,List.set_cons_succ]
    exact .cons h1 n3
theorem Ui (ty:Nat) (xs:List Opd):fB Gl ρ h σ rd tt (.bsc ty xs):=by
 intro hs hrd p v kl h' hx hp
 simp only[cK]at hx
 split at hx
 case h_2=>cases hx
 rename_i T hT
 split at hx
 case isFalse=>cases hx
 rename_i hcond
 simp only[Bool.and_eq_true]at hcond
 split at hx
 case h_2=>cases hx
 rename_i ys hys
 cases hx
 have hm:=wS (Gl:=Gl) (σ:=σ) (xs:=xs) hrd
 obtain⟨k1,k2,k3⟩:=sN (H:=σ.h) hys hm
 obtain⟨u2,u3⟩:=jP (ty:=ty) hs (beq_eq hcond.1) k2
 have hall:(xs.map (σ.val Gl)).all sc1=true:=List.all_eq_true.2 fun a ha=>by
  obtain⟨i,hi⟩:=List.mem_iff_getElem?.1 ha
  obtain⟨x,hx,hv⟩:=hm.iL hi
  have hsx:=List.all_eq_true.1 hcond.2 x (List.mem_of_getElem? hx)
  cases x with
  |d T y=>cases T<;>first|(cases hsx;done)|(rw[show a=_ from Wp.aS hv];rfl)
  |_=>cases hsx
 rw[List.length_map]at u3
 exact⟨True,_,_,_,[],by simp only[step,hall,if_true]<;>rfl,trivial,u2,VT.of1 u3,by simp⟩
theorem Ud (ty sz bytes:Nat) (zero:Value) (l c:Opd):fB Gl ρ h σ rd tt (.mk2 ty sz bytes zero l c):=by
 intro hs hrd p v kl h' hx hp
 simp only[cK]at hx
 have hl:=hrd l
 have hc:=hrd c
 split at hx
 ·rename_i T m n hT h1 h2
  rw[h1]at hl
  rw[h2]at hc
  split at hx
  ·rename_i hz
   split at hx
   ·rename_i z ht
    cases hx
    simp only[Bool.and_eq_true]at hp
    have hf:=Df hp.2
    have p1:(0:Int)<=(show Int from m):=of_decide_eq_true hp.1.1
    have p2:(show Int from m)<=(show Int from n):=of_decide_eq_true hp.1.2
    have hnt:∀ vs,vx zero≠.tup vs:=fun vs q=>by
     rw[q]at ht
     cases T<;>simp[toD,lst]at ht
    have hw:=iV ht (VT.kW (Dx (ρ:=ρ) (h:=h) zero) hnt)
    have hcc:aI Wp (List.replicate (Int.toNat m) (aR zero)) ((List.replicate (Int.toNat m) z).map (Ty.enc T)):=by
     rw[List.map_replicate]
     exact⟨by simp,fun i x y p q=>by
      have p':=List.eq_of_mem_replicate (List.mem_of_getElem? p)
      have q':=List.eq_of_mem_replicate (List.mem_of_getElem? q)
      subst p' q';exact hw⟩
    obtain⟨u1,u2⟩:=jP (ty:=ty) hs (beq_eq hz) hcc
    rw[List.length_replicate]at u2
    exact⟨(0:Int)<=(show Int from m)/\(show Int from m)<=(show Int from n)/\(show Int from n)*bytes<=gY/\(show Int from n)<=4611686018427387904,_,_,_,[],by simp only[step,gq hl,gq hc]<;>rfl,⟨p1,p2,hf.2⟩,u1,VT.of1 u2,by simp⟩
   ·cases hx
  ·cases hx
 ·cases hx
theorem Uc (ty:Nat) (hint:Option Opd):fB Gl ρ h σ rd tt (.mmk ty hint):=by
 intro hs hrd p v kl h' hx hp
 simp only[cK]at hx
 split at hx
 case h_2=>cases hx
 rename_i K V hT
 have hO:mE ρ h (.map ty K V []) ⟨ty,0,0,true,[]⟩:=⟨rfl,rfl,rfl,rfl,.nil⟩
 have u:=Upd.new hs hO
 have fin:step Gl σ (.mmk ty hint)=some (True,.mp σ.h.length,σ.h++[⟨ty,0,0,true,[]⟩])->aU Gl ρ h σ rd (.mmk ty hint) (.mp h.length) [] (h++[.map ty K V []]):=fun e =>
  ⟨_,_,_,_,[],e,trivial,u,VT.of1 ⟨ty,K,V,[],by show (h++_)[h.length]?=_;simp,by rw[<- hs.rl,nL]⟩,by simp⟩
 cases hint with
 |none=>cases hx;exact fin rfl
 |some o =>
  have ho:=hrd o
  simp only[Option.map_some]at hx
  split at hx
  ·rename_i q;cases q
  ·rename_i k n q
   injection q with q
   rw[q]at ho
   cases hx
   exact fin (by simp only[step,Option.map_some,gq ho])
  ·cases hx
theorem OQ (kt:KT) (ok:Bool) (zero:Value) (m k:Opd):fB Gl ρ h σ rd tt (.lM kt ok zero m k):=by
 intro hs hrd p v kl h' hx hp
 simp only[cK]at hx
 have hv:=hrd m
 have hk:=hrd k
 split at hx
 case h_2=>cases hx
 rename_i id h1
 rw[h1]at hv
 obtain⟨ty,K,V,es,he,ha⟩:=hv
 rw[he]at hx
 simp only at hx
 split at hx
 case h_2=>cases hx
 rename_i key z hkey hz
 split at hx
 case isFalse=>cases hx
 rename_i hm
 have hkn:∀ vs,rd k≠.tup vs:=fun vs q=>by rw[q]at hkey;cases K<;>simp[toD,lst]at hkey
 have hkw:=iV hkey (VT.kW hk hkn)
 have hzw:=iV hz (VA.of1 (Dy (ρ:=ρ) (h:=h) zero))
 obtain⟨k1,k2,k3,k4⟩:=FV hm hkw
 obtain⟨O,hO,o1,o2,o3,o4,o5⟩:=hs.hr id _ he
 obtain⟨m1,m2⟩:=wT hm key hzw es O.es 0 o5
 rw[k1]at k2 k3
 cases hf:jf kt.n (Ty.enc K key).cells O.es 0 with
 |none =>
  rw[hf]at m2
  have e1:jw (eqT K) key es z=z:=by show (mF K V key es).getD z=z;rw[m2.1];rfl
  have e2:qA (eqT K) key es=false:=by show (mF K V key es).isSome=false;rw[m2.1];rfl
  rw[e1,e2]at hx
  cases hx
  refine aU.pure hs (q:=True) (by simp only[step,ha,hO,k1];rw[if_pos ⟨o2,k2,m1,k3⟩,hf]) trivial ?_
  cases ok with
  |true =>
   have a1:VA ρ h (.d V z) (.v zero):=hzw
   have a2:VA ρ h (.d .bool false) (.v (.bool false)):=Wp.refl _
   exact⟨_,rfl,.cons a1 (.cons a2 .nil)⟩
  |false=>exact EA hzw
 |some q =>
  obtain⟨j,a⟩:=q
  rw[hf]at m2
  obtain⟨_,⟨u,e0,hu⟩,_⟩:=m2
  have e1:jw (eqT K) key es z=u:=by show (mF K V key es).getD z=u;rw[e0];rfl
  have e2:qA (eqT K) key es=true:=by show (mF K V key es).isSome=true;rw[e0];rfl
  rw[e1,e2]at hx
  cases hx
  refine aU.pure hs (q:=True) (by simp only[step,ha,hO,k1];rw[if_pos ⟨o2,k2,m1,k3⟩,hf]) trivial ?_
  cases ok with
  |true =>
   have a1:VA ρ h (.d V u) a:=hu
   have a2:VA ρ h (.d .bool true) (.v (.bool true)):=Wp.refl _
   exact⟨_,rfl,.cons a1 (.cons a2 .nil)⟩
  |false=>exact EA hu
theorem OO (kt:KT) (m k y:Opd):fB Gl ρ h σ rd tt (.mq kt m k y):=by
 intro hs hrd p v kl h' hx hp
 simp only[cK]at hx
 have hv:=hrd m
 have hk:=hrd k
 have hy:=hrd y
 split at hx
 case h_2=>cases hx
 rename_i id h1
 rw[h1]at hv
 obtain⟨ty,K,V,es,he,ha⟩:=hv
 rw[he]at hx
 simp only at hx
 split at hx
 case h_2=>cases hx
 rename_i key u hkey hu
 split at hx
 case isFalse=>cases hx
 rename_i hm
 cases hx
 have hkn:∀ vs,rd k≠.tup vs:=fun vs q=>by rw[q]at hkey;cases K<;>simp[toD,lst]at hkey
 have hyn:∀ vs,rd y≠.tup vs:=fun vs q=>by rw[q]at hu;cases V<;>simp[toD,lst]at hu
 have hkw:=iV hkey (VT.kW hk hkn)
 have huw:=iV hu (VT.kW hy hyn)
 obtain⟨k1,k2,k3,k4⟩:=FV hm hkw
 have hV:V.iD=false:=by simp only[oP,Bool.and_eq_true]at hm;simpa using hm.1.2
 have hst:=(ZQ hV huw).st true
 obtain⟨O,hO,o1,o2,o3,o4,o5⟩:=hs.hr id _ he
 obtain⟨m1,m2⟩:=wT hm key huw es O.es 0 o5
 rw[k1]at k2 k3
 have fin:∀ os',step Gl σ (.mq kt m k y)=some (True,.any,σ.h.set (ρ.getD id 0) { O with es:=os',pr:=true })->aI Wp os' ((jJ (eqT K) key u es).map (Ty.enc (.tup [K,V])))->aU Gl ρ h σ rd (.mq kt m k y) .any [] (h.set id (.map ty K V (jJ (eqT K) key u es))):=by
  intro os' e hc
  have hu:=Upd.set hs (o':=.map ty K V (jJ (eqT K) key u es)) (O':={ O with es:=os',pr:=true }) he trivial ⟨o1,o2,rfl,o4,hc⟩
  refine⟨_,_,_,_,[id],e,trivial,hu,trivial,?_⟩
  intro ok hok id' hid
  simp only[List.mem_singleton]at hid
  subst hid
  simpa only[leaves,h1]using hok
 cases hf:jf kt.n (Ty.enc K key).cells O.es 0 with
 |none =>
  rw[hf]at m2
  exact fin _ (by simp only[step,ha,hO,k1];rw[if_pos ⟨o2,k2,m1,hst,k3⟩,hf]) m2.2
 |some q =>
  obtain⟨j,a⟩:=q
  rw[hf]at m2
  obtain⟨_,_,m3⟩:=m2
  exact fin _ (by simp only[step,ha,hO,k1];rw[if_pos ⟨o2,k2,m1,hst,k3⟩,hf]) (by rw[Nat.sub_zero]at m3;exact m3)
theorem wh (i:I):fB Gl ρ h σ rd tt i:=by
 cases i with
 |mov x=>exact Ub x
 |pick c a b=>exact OL c a b
 |bin op x y=>exact Uk op x y
 |beq n x y=>exact Ul n x y
 |vD n x=>exact OM n x
 |aeq n fs x y=>exact Uo n fs x y
 |un op x=>exact Xn op x
 |conv k x=>exact OW k x
 |fld o s g x=>exact Ug o s g x
 |ext i x=>exact Uh i x
 |jA o x=>exact LX o x
 |kZ s x i=>exact LW s x i
 |load s g x=>exact OU s g x
 |store s x y=>exact LU s x y
 |slice s x lo hi=>exact LV s x lo hi
 |slice3 s x y z=>exact JN s x y z
 |vU t xs=>exact OX t xs
 |mH x lo hi=>exact JM x lo hi
 |len x=>exact Ue x
 |slen x=>exact OJ x
 |nck x=>exact Ua x
 |idx x i=>exact Uf x i
 |app t s b x y=>exact Un t s b x y
 |apps t b x y=>exact P5 t b x y
 |b2s x=>exact Um x
 |s2b t x=>exact U9 t x
 |jV t s xs=>exact JO t s xs
 |pI t s xs=>exact LZ t s xs
 |build z ps=>exact LY z ps
 |box t s x=>exact Uj t s x
 |vW t s k x=>exact OY t s k x
 |clo f xs=>intro hs hrd p v kl h' hx hp;cases hx
 |alloc t z=>exact M0 t z
 |mk t s b z n=>exact Xo t s b z n
 |mk2 t s b z l c=>exact Ud t s b z l c
 |bsc t xs=>exact Ui t xs
 |mmk t n=>exact Uc t n
 |lM kt ok z m k=>exact OQ kt ok z m k
 |mq kt m k v=>exact OO kt m k v
 |alloca t s n z=>exact JU t s n z
 |kF b s n x i=>exact M4 b s n x i
 |aslice b n x lo hi=>exact JR b n x lo hi
 |uf n x lo hi=>exact OZ n x lo hi
 |uh s g n x i=>exact P6 s g n x i
 |copy s x y=>exact OV s x y
 |min2 x y=>exact OP x y
 |max2 x y=>exact OT x y
 |call f as=>intro hs hrd p v kl h' hx hp;cases hx
end
end Abs
end Go.Proofs.YtgfnhpadmifiiaaDoor
end
section
namespace Go.Proofs.YtgfnhpadmifiiaaDoor
namespace Abs
open Go.RowKit
abbrev Foc:=List (Option Nat)
def FLe (a b:Foc):Prop:=a.length=b.length/\∀ (j id:Nat),a[j]?=some (some id)->b[j]?=some (some id)
theorem FLe.refl (a:Foc):FLe a a:=⟨rfl,fun _ _ h=>h⟩
theorem FLe.trans {a b c:Foc} (h:FLe a b) (k:FLe b c):FLe a c:=⟨h.1.trans k.1,fun j id q=>k.2 j id (h.2 j id q)⟩
theorem qj {foc eH:Foc} {j id:Nat} (h:asg foc j id=some eH):FLe foc eH/\eH[j]?=some (some id):=by
 unfold asg at h
 split at h
 ·rename_i hj
  cases h
  have hlt:j<foc.length:=(List.getElem?_eq_some_iff.1 hj).1
  refine⟨⟨by simp,fun k id' q=>?_⟩,by rw[List.getElem?_set_self hlt]⟩
  by_cases hk:j=k
  ·subst hk;rw[hj]at q;cases q
  ·rw[List.getElem?_set_ne hk];exact q
 ·rename_i id' hj
  split at h
  ·rename_i hb
   cases h
   have:=beq_eq hb
   subst this
   exact⟨FLe.refl _,hj⟩
  ·cases h
 ·cases h
inductive CR (foc:Foc):XV->XV->Prop
 |any (v:XV):CR foc v .any
 |d (v:XV) (T:Ty) (x:T.den) (h:toD [] T v=some x):CR foc v (.d T x)
 |row (id j:Nat) (h:foc[j]?=some (some id)):CR foc (.row id) (.row j)
 |ptr (id j i o:Nat) (h:foc[j]?=some (some id)):CR foc (.ptr id i o) (.ptr j i o)
 |nil:CR foc (.k (.slice none 0 0)) (.k (.slice none 0 0))
 |me (id j:Nat) (h:foc[j]?=some (some id)):CR foc (.me id) (.me j)
 |mep (id j:Nat) (h:foc[j]?=some (some id)):CR foc (.ptr id 0 0) (.me j)
 |men (j:Nat):CR foc (.k (.pointer none)) (.me j)
 |mp (id j:Nat) (h:foc[j]?=some (some id)):CR foc (.mp id) (.mp j)
 |sub (id j o n:Nat) (h:foc[j]?=some (some id)):CR foc (.sub id o n) (.sub j o n)
theorem CR.mono {foc eH:Foc} {v c:XV} (h:CR foc v c) (hl:FLe foc eH):CR eH v c:=by
 cases h with
 |any=>exact .any _
 |d _ T x h=>exact .d _ T x h
 |row id j h=>exact .row id j (hl.2 _ _ h)
 |ptr id j i o h=>exact .ptr id j i o (hl.2 _ _ h)
 |nil=>exact .nil
 |me id j h=>exact .me id j (hl.2 _ _ h)
 |mep id j h=>exact .mep id j (hl.2 _ _ h)
 |men j=>exact .men j
 |mp id j h=>exact .mp id j (hl.2 _ _ h)
 |sub id j o n h=>exact .sub id j o n (hl.2 _ _ h)
theorem D7 {v:XV} (h:uH v=true):v=.k (.slice none 0 0):=by
 unfold uH at h
 split at h
 ·rfl
 ·cases h
theorem Vb {v:Value} (h:PS v=true):v=.pointer none:=by
 unfold PS at h
 split at h
 ·rfl
 ·cases h
theorem MK {v:XV} (h:tV v=some none):v=.k (.pointer none):=by
 cases v with
 |k v =>
  simp only[tV]at h
  split at h
  ·rename_i q;rw[Vb q]
  ·cases h
 |ptr id i o=>simp only[tV]at h;split at h<;>cases h
 |_=>simp[tV]at h
theorem MJ {foc:Foc} {v:XV} {id j:Nat} (h:tV v=some (some id)) (hj:foc[j]?=some (some id)):CR foc v (.me j):=by
 cases v with
 |k v=>simp only[tV]at h;split at h<;>cases h
 |ptr id' i o =>
  simp only[tV]at h
  split at h
  ·rename_i hb
   simp only[Bool.and_eq_true]at hb
   have e1:=beq_eq hb.1
   have e2:=beq_eq hb.2
   subst e1 e2
   cases h
   exact .mep _ _ hj
  ·cases h
 |me id'=>simp only[tV]at h;cases h;exact .me _ _ hj
 |_=>simp[tV]at h
theorem J7:∀ (cs:List SC) (r:List Ty) (vs:List XV) (foc eH:Foc) (g:Ty.aQ r->Ty.aQ (SC.tys cs r)),extC cs r vs foc=some (eH,g)->FLe foc eH/\∀ y,(iG cs r (g y)).2=y/\aI (CR eH) vs (iG cs r (g y)).1:=by
 intro cs
 induction cs with
 |nil =>
  intro r vs foc eH g h
  cases vs with
  |nil=>simp only[extC]at h;cases h;exact⟨FLe.refl _,fun y=>⟨rfl,.nil⟩⟩
  |cons=>simp[extC]at h
 |cons c cs ih =>
  intro r vs foc eH g h
  cases c with
  |d T =>
   simp only[extC]at h
   cases vs with
   |nil=>cases h
   |cons v vs =>
    simp only at h
    split at h
    ·rename_i x gL g1 hx h1
     cases h
     obtain⟨a,b⟩:=ih r vs foc eH g1 h1
     exact⟨a,fun y=>⟨(b y).1,.cons (.d v T x hx) (b y).2⟩⟩
    ·cases h
  |row j =>
   simp only[extC]at h
   split at h
   ·rename_i id vs
    split at h
    ·rename_i gL h1
     obtain⟨a1,a2⟩:=qj h1
     obtain⟨a,b⟩:=ih r vs gL eH g h
     exact⟨a1.trans a,fun y=>⟨(b y).1,.cons (.row id j (a.2 _ _ a2)) (b y).2⟩⟩
    ·cases h
   ·cases h
  |mp j =>
   simp only[extC]at h
   split at h
   ·rename_i id vs
    split at h
    ·rename_i gL h1
     obtain⟨a1,a2⟩:=qj h1
     obtain⟨a,b⟩:=ih r vs gL eH g h
     exact⟨a1.trans a,fun y=>⟨(b y).1,.cons (.mp id j (a.2 _ _ a2)) (b y).2⟩⟩
    ·cases h
   ·cases h
  |ptr j i o =>
   simp only[extC]at h
   split at h
   ·rename_i id i' o' vs
    split at h
    ·rename_i hb
     simp only[Bool.and_eq_true]at hb
     have e1:=beq_eq hb.1
     have e2:=beq_eq hb.2
     subst e1 e2
     split at h
     ·rename_i gL h1
      obtain⟨a1,a2⟩:=qj h1
      obtain⟨a,b⟩:=ih r vs gL eH g h
      exact⟨a1.trans a,fun y=>⟨(b y).1,.cons (.ptr id j i o (a.2 _ _ a2)) (b y).2⟩⟩
     ·cases h
    ·cases h
   ·cases h
  |me j =>
   simp only[extC]at h
   cases vs with
   |nil=>cases h
   |cons v vs =>
    simp only at h
    split at h
    ·rename_i id hm
     split at h
     ·rename_i gL h1
      obtain⟨a1,a2⟩:=qj h1
      obtain⟨a,b⟩:=ih r vs gL eH g h
      exact⟨a1.trans a,fun y=>⟨(b y).1,.cons (MJ hm (a.2 _ _ a2)) (b y).2⟩⟩
     ·cases h
    ·rename_i hm
     obtain⟨a,b⟩:=ih r vs foc eH g h
     have:=MK hm
     subst this
     exact⟨a,fun y=>⟨(b y).1,.cons (.men j) (b y).2⟩⟩
    ·cases h
  |nil =>
   simp only[extC]at h
   cases vs with
   |nil=>cases h
   |cons v vs =>
    simp only at h
    by_cases hv:uH v=true
    ·have h':extC cs r vs foc=some (eH,g):=by simp only[hv,if_true]at h;exact h
     have:=D7 hv
     subst this
     obtain⟨a,b⟩:=ih r vs foc eH g h'
     exact⟨a,fun y=>⟨(b y).1,.cons .nil (b y).2⟩⟩
    ·simp only[hv,if_false]at h
     cases h
  |any =>
   simp only[extC]at h
   cases vs with
   |nil=>cases h
   |cons v vs =>
    simp only at h
    obtain⟨a,b⟩:=ih r vs foc eH g h
    exact⟨a,fun y=>⟨(b y).1,.cons (.any v) (b y).2⟩⟩
def OR' (foc:Foc):XO->XO->Prop
 |.row ty T fz es,o2=>o2=.row ty T fz es
 |.box ty vs,o2=>∃ cs,o2=.box ty cs/\aI (CR foc) vs cs
 |.map ty K V es,o2=>o2=.map ty K V es
 |.vec _ _,_=>False
theorem OR'.mono {foc eH:Foc} {o o2:XO} (h:OR' foc o o2) (hl:FLe foc eH):OR' eH o o2:=by
 cases o with
 |row=>exact h
 |map=>exact h
 |vec=>exact h.elim
 |box ty vs=>obtain⟨cs,e,hc⟩:=h;exact⟨cs,e,hc.mono fun x y q=>q.mono hl⟩
theorem yw (h:List XO):∀ (os:List SO) (j:Nat) (foc eH:Foc) (y:Ty.aQ (SO.tys os)),vN h os j foc=some (eH,y)->FLe foc eH/\(iA os y).length=os.length/\∀ (i:Nat) (o2:XO),(iA os y)[i]?=some o2->∃ id o,eH[j+i]?=some (some id)/\h[id]?=some o/\OR' eH o o2:=by
 intro os
 induction os with
 |nil=>intro j foc eH y hx;simp only[vN]at hx;cases hx;exact⟨FLe.refl _,rfl,fun i o2 q=>by simp[iA]at q⟩
 |cons so os ih =>
  intro j foc eH y hx
  cases so with
  |row ty T fz =>
   simp only[vN]at hx
   split at hx
   case h_2=>cases hx
   rename_i id hid
   split at hx
   case h_2=>cases hx
   rename_i ty' T' fz' es ho
   split at hx
   case isFalse=>cases hx
   rename_i hb
   simp only[Bool.and_eq_true,beq_iff_eq]at hb
   have e1:=beq_eq hb.1
   have e2:=hb.2
   subst e1 e2
   split at hx
   case h_2=>cases hx
   rename_i es' gL y1 hc h1
   cases hx
   obtain⟨q,rfl⟩:=gH hc
   cases q
   obtain⟨a,b,c⟩:=ih (j+1) foc eH y1 h1
   refine⟨a,by simp only[iA,List.length_cons];rw[b],fun i o2 q=>?_⟩
   cases i with
   |zero =>
    have q:some (XO.row ty T fz es)=some o2:=q
    cases q
    exact⟨id,_,a.2 _ _ hid,ho,rfl⟩
   |succ i =>
    have q:(iA os y1)[i]?=some o2:=q
    have:=c i o2 q
    rw[show j+1+i=j+(i+1) by omega]at this
    exact this
  |map ty K V =>
   simp only[vN]at hx
   split at hx
   case h_2=>cases hx
   rename_i id hid
   split at hx
   case h_2=>cases hx
   rename_i ty' K' V' es ho
   split at hx
   case isFalse=>cases hx
   rename_i hb
   have e1:=beq_eq hb
   subst e1
   split at hx
   case h_2=>cases hx
   rename_i es' gL y1 hc h1
   cases hx
   obtain⟨q,rfl⟩:=gH hc
   cases q
   obtain⟨a,b,c⟩:=ih (j+1) foc eH y1 h1
   refine⟨a,by simp only[iA,List.length_cons];rw[b],fun i o2 q=>?_⟩
   cases i with
   |zero =>
    have q:some (XO.map ty K V es)=some o2:=q
    cases q
    exact⟨id,_,a.2 _ _ hid,ho,rfl⟩
   |succ i =>
    have q:(iA os y1)[i]?=some o2:=q
    have:=c i o2 q
    rw[show j+1+i=j+(i+1) by omega]at this
    exact this
  |box ty cs =>
   simp only[vN]at hx
   split at hx
   case h_2=>cases hx
   rename_i id hid
   split at hx
   case h_2=>cases hx
   rename_i ty' vs ho
   split at hx
   case isFalse=>cases hx
   rename_i hb
   have e1:=beq_eq hb
   subst e1
   split at hx
   case h_2=>cases hx
   rename_i gL g hc
   split at hx
   case h_2=>cases hx
   rename_i gG y1 h1
   cases hx
   obtain⟨a1,a2⟩:=J7 cs _ vs foc gL g hc
   obtain⟨a,b,c⟩:=ih (j+1) gL eH y1 h1
   obtain⟨g1,g2⟩:=a2 y1
   refine⟨a1.trans a,?_,fun i o2 q=>?_⟩
   ·show (XO.box ty _::iA os (iG cs (SO.tys os) (g y1)).2).length=_
    rw[g1,List.length_cons,List.length_cons,b]
   ·cases i with
    |zero =>
     have q:some (XO.box ty (iG cs (SO.tys os) (g y1)).1)=some o2:=q
     cases q
     exact⟨id,_,(a1.trans a).2 _ _ hid,ho,_,rfl,g2.mono fun x y q=>q.mono a⟩
    |succ i =>
     have q:(iA os (iG cs (SO.tys os) (g y1)).2)[i]?=some o2:=q
     rw[g1]at q
     have:=c i o2 q
     rw[show j+1+i=j+(i+1) by omega]at this
     exact this
theorem qY:∀ {foc:Foc} {l:List Nat},uN foc=some l->foc.length=l.length/\∀ (j id:Nat),foc[j]?=some (some id)↔l[j]?=some id:=by
 intro foc
 induction foc with
 |nil=>intro l h;cases h;exact⟨rfl,by simp⟩
 |cons a foc ih =>
  intro l h
  cases a with
  |none=>simp[uN]at h
  |some a =>
   simp only[uN]at h
   split at h
   ·rename_i m hm
    cases h
    obtain⟨h1,h2⟩:=ih hm
    refine⟨by simp[h1],fun j id=>?_⟩
    cases j with
    |zero=>simp
    |succ j=>simpa using h2 j id
   ·cases h
theorem CW:∀ {l:List Nat},nodupB l=true->l.Nodup:=by
 intro l
 induction l with
 |nil=>intro _;exact List.nodup_nil
 |cons a l ih =>
  intro h
  simp only[nodupB,Bool.and_eq_true,Bool.not_eq_true',List.any_eq_false]at h
  rw[List.nodup_cons]
  refine⟨fun hm=>h.1 a hm (by simp),ih h.2⟩
def CRS (foc:Foc) (v c:XV):Prop:=CR foc v c\/∃ vs cs,v=.agg vs/\c=.agg cs/\aI (CR foc) vs cs
theorem CRS.mono {foc eH:Foc} {v c:XV} (h:CRS foc v c) (hl:FLe foc eH):CRS eH v c:=by
 rcases h with h|⟨vs,cs,e1,e2,h⟩
 ·exact .inl (h.mono hl)
 ·exact .inr ⟨vs,cs,e1,e2,h.mono fun x y q=>q.mono hl⟩
theorem Ib {t b:List XV} {foc:Foc} {s:Nat} {c:XV} (hb:∀ (i:Nat) (c:XV),b[i]?=some c->CRS foc (t.getD i .any) c) (hc:CRS foc (t.getD s .any) c):∀ (i:Nat) (c':XV),(b.set s c)[i]?=some c'->CRS foc (t.getD i .any) c':=by
 intro i c' q
 rw[List.getElem?_set]at q
 split at q
 ·rename_i hi
  split at q
  ·cases q;subst hi;exact hc
  ·cases q
 ·exact hb i c' q
theorem J6 (t:List XV) (foc:Foc):∀ (vs:List (Nat×Ty)) (r:List Ty) (y:Ty.aQ r) (x:Ty.aQ (rE vs r)) (b:List XV),Gp t vs r y=some x->(∀ (i:Nat) (c:XV),b[i]?=some c->CRS foc (t.getD i .any) c)->(p9 vs r x b).2=y/\(p9 vs r x b).1.length=b.length/\∀ (i:Nat) (c:XV),(p9 vs r x b).1[i]?=some c->CRS foc (t.getD i .any) c:=by
 intro vs
 induction vs with
 |nil=>intro r y x b h hb;simp only[Gp]at h;cases h;exact⟨rfl,rfl,hb⟩
 |cons p vs ih =>
  intro r y x b h hb
  obtain⟨s,T⟩:=p
  simp only[Gp]at h
  split at h
  ·rename_i x1 z h1 h2
   cases h
   obtain⟨a,c,e⟩:=ih r y z (b.set s (.d T x1)) h2 (fun i c q=>by
    rw[List.getElem?_set]at q
    split at q
    ·rename_i hi
     split at q
     ·cases q;subst hi;exact .inl (.d _ T x1 h1)
     ·cases q
    ·exact hb i c q)
   exact⟨a,by rw[List.length_set]at c;exact c,e⟩
  ·cases h
theorem a2a {k:IntKind} {m:Int}:toD [] (.int k) (.d (.int k) m)=some m:=by
 have hs:Ty.same (.int k) (.int k)=true:=by simp[Ty.same]
 show dH (a:=.int k) (b:=.int k) m=some m
 unfold dH;rw[dif_pos hs];rfl
theorem a3y {a b:Int} (h:iEq a b=true):a=b:=by simpa [iEq]using h
theorem Yp {k:IntKind} {n:Int} {v:XV} (h:isC k n v=true):v=.d (.int k) n:=by
 unfold isC at h
 split at h
 ·rename_i k' m
  simp only[Bool.and_eq_true,decide_eq_true_eq]at h
  obtain⟨rfl,hb⟩:=h
  have hm:@Eq Int m n:=a3y hb
  exact congrArg (fun z:Int=>XV.d (.int k) z) hm
 ·cases h
theorem yu (t:List XV):∀ (refs:List (Nat × SR)) (r:List Ty) (foc eH:Foc) (g:Ty.aQ r->Ty.aQ (fu refs r)),jM t refs r foc=some (eH,g)->FLe foc eH/\∀ (y:Ty.aQ r) (gG:Foc) (b:List XV),FLe eH gG->(∀ (i:Nat) (c:XV),b[i]?=some c->CRS gG (t.getD i .any) c) ->
  (j3 refs r (g y) b).2=y/\(j3 refs r (g y) b).1.length=b.length/\∀ (i:Nat) (c:XV),(j3 refs r (g y) b).1[i]?=some c->CRS gG (t.getD i .any) c:=by
 intro refs
 induction refs with
 |nil=>intro r foc eH g h;simp only[jM]at h;cases h;exact⟨FLe.refl _,fun y gG b _ hb=>⟨rfl,rfl,hb⟩⟩
 |cons p refs ih =>
  intro r foc eH g h
  obtain⟨s,sr⟩:=p
  have set1:∀ (c:XV) (gL:Foc),FLe foc gL->(∀ gG,FLe gL gG->CRS gG (t.getD s .any) c)->(∀ (g1:Ty.aQ r->Ty.aQ (fu refs r)),jM t refs r gL=some (eH,g1)->FLe foc eH/\∀ (y:Ty.aQ r) (gG:Foc) (b:List XV),FLe eH gG->(∀ (i:Nat) (c:XV),b[i]?=some c->CRS gG (t.getD i .any) c)->(j3 refs r (g1 y) (b.set s c)).2=y/\(j3 refs r (g1 y) (b.set s c)).1.length=b.length/\∀ (i:Nat) (c':XV),(j3 refs r (g1 y) (b.set s c)).1[i]?=some c'->CRS gG (t.getD i .any) c'):=by
   intro c gL hl hc g1 h1
   obtain⟨a1,a2⟩:=ih r gL eH g1 h1
   refine⟨hl.trans a1,fun y gG b hf hb=>?_⟩
   obtain⟨b1,b2,b3⟩:=a2 y gG (b.set s c) hf (Ib hb (hc gG (a1.trans hf)))
   exact⟨b1,by rw[b2];simp,b3⟩
  cases sr with
  |row j =>
   simp only[jM]at h
   split at h
   ·rename_i id hid
    split at h
    ·rename_i gL h1
     obtain⟨a1,a2⟩:=qj h1
     exact set1 (.row j) gL a1 (fun gG hf=>by rw[hid];exact .inl (.row id j (hf.2 _ _ a2))) g h
    ·cases h
   ·cases h
  |mp j =>
   simp only[jM]at h
   split at h
   ·rename_i id hid
    split at h
    ·rename_i gL h1
     obtain⟨a1,a2⟩:=qj h1
     exact set1 (.mp j) gL a1 (fun gG hf=>by rw[hid];exact .inl (.mp id j (hf.2 _ _ a2))) g h
    ·cases h
   ·cases h
  |sub j o n =>
   simp only[jM]at h
   split at h
   ·rename_i id o' n' hid
    split at h
    ·rename_i hb
     simp only[Bool.and_eq_true]at hb
     have e1:=beq_eq hb.1
     have e2:=beq_eq hb.2
     subst e1 e2
     split at h
     ·rename_i gL h1
      obtain⟨a1,a2⟩:=qj h1
      exact set1 (.sub j o n) gL a1 (fun gG hf=>by rw[hid];exact .inl (.sub id j o n (hf.2 _ _ a2))) g h
     ·cases h
    ·cases h
   ·cases h
  |ptr j i o =>
   simp only[jM]at h
   split at h
   ·rename_i id i' o' hid
    split at h
    ·rename_i hb
     simp only[Bool.and_eq_true]at hb
     have e1:=beq_eq hb.1
     have e2:=beq_eq hb.2
     subst e1 e2
     split at h
     ·rename_i gL h1
      obtain⟨a1,a2⟩:=qj h1
      exact set1 (.ptr j i o) gL a1 (fun gG hf=>by rw[hid];exact .inl (.ptr id j i o (hf.2 _ _ a2))) g h
     ·cases h
    ·cases h
   ·cases h
  |nil =>
   by_cases hn:uH (t.getD s .any)=true
   ·have h':jM t refs r foc=some (eH,g):=by simp only[jM,hn,if_true]at h;exact h
    exact set1 (.k (.slice none 0 0)) foc (FLe.refl _) (fun gG hf=>by rw[D7 hn];exact .inl .nil) g h'
   ·simp only[jM,hn,if_false]at h
    cases h
  |cst k n =>
   by_cases hn:isC k n (t.getD s .any)=true
   ·have h':jM t refs r foc=some (eH,g):=by simp only[jM,hn,if_true]at h;exact h
    exact set1 (.d (.int k) n) foc (FLe.refl _) (fun gG hf=>by rw[Yp hn];exact .inl (.d _ (.int k) n a2a)) g h'
   ·simp only[jM,hn,if_false]at h
    cases h
  |agg cs =>
   simp only[jM]at h
   split at h
   ·rename_i vs hid
    split at h
    ·rename_i gL g1 h1
     split at h
     ·rename_i KL g2 h2
      cases h
      obtain⟨c1,c2⟩:=J7 cs _ vs foc gL g1 h1
      obtain⟨a1,a2⟩:=ih r gL eH g2 h2
      refine⟨c1.trans a1,fun y gG b hf hb=>?_⟩
      obtain⟨d1,d2⟩:=c2 (g2 y)
      obtain⟨b1,b2,b3⟩:=a2 y gG (b.set s (.agg (iG cs (fu refs r) (g1 (g2 y))).1)) hf (Ib hb (by rw[hid];exact .inr ⟨_,_,rfl,rfl,d2.mono fun x y q=>q.mono (a1.trans hf)⟩))
      show (j3 refs r (iG cs (fu refs r) (g1 (g2 y))).2 (b.set s (.agg (iG cs (fu refs r) (g1 (g2 y))).1))).2=y/\(j3 refs r (iG cs (fu refs r) (g1 (g2 y))).2 (b.set s (.agg (iG cs (fu refs r) (g1 (g2 y))).1))).1.length=b.length/\∀ (i:Nat) (c:XV),(j3 refs r (iG cs (fu refs r) (g1 (g2 y))).2 (b.set s (.agg (iG cs (fu refs r) (g1 (g2 y))).1))).1[i]?=some c->CRS gG (t.getD i .any) c
      rw[d1]
      exact⟨b1,by rw[b2];simp,b3⟩
     ·cases h
    ·cases h
   ·cases h
theorem sS (nf:Nat):∀ (n j:Nat),(E5 nf j n).length=n:=by
 intro n
 induction n with
 |zero=>intro j;rfl
 |succ n ih=>intro j;simp only[E5,List.length_cons,ih]
theorem yj {nf:Nat} {ρ:List Nat} {X:XS} {ts:List AV} {H:List ah} {sh:Sh} {foc:List Nat} {x:Ty.aQ sh.tys} (ht:aI (VT ρ X.h) X.t ts) (hs:HS ρ X.h H) (hn:X.t.length=sh.n) (hx:ext nf sh X=some (foc,x)) :
  Sim (foc.map fun id=>ρ.getD id 0) (emb sh x) ⟨ts,H⟩/\(∀ id∈foc,id<X.h.length)/\foc.length=sh.objs.length/\foc.Nodup:=by
 unfold ext at hx
 split at hx
 case h_2=>cases hx
 rename_i gL g h1
 split at hx
 case h_2=>cases hx
 rename_i gG y h2
 split at hx
 case h_2=>cases hx
 rename_i KL x3 h3 h4
 split at hx
 case isFalse=>cases hx
 rename_i hnd
 cases hx
 obtain⟨r1,r2⟩:=yu X.t _ _ _ _ _ h1
 obtain⟨o1,o2,o3⟩:=yw X.h _ _ _ _ _ h2
 obtain⟨s1,s2⟩:=qY h3
 obtain⟨v1,v2,v3⟩:=J6 X.t gG sh.vars _ (g y) x (List.replicate sh.n .any) h4 (fun i c q=>by
  have:=List.eq_of_mem_replicate (List.mem_of_getElem? q);subst this;exact .inl (.any _))
 obtain⟨w1,w2,w3⟩:=r2 y gG (p9 sh.vars (fu sh.refs (SO.tys sh.objs)) x (List.replicate sh.n .any)).1 o1 v3
 have hes:u6 sh x=j3 sh.refs (SO.tys sh.objs) (g y) (p9 sh.vars (fu sh.refs (SO.tys sh.objs)) x (List.replicate sh.n .any)).1:=by
  unfold u6;rw[v1]
 have hfl:foc.length=sh.objs.length:=by rw[<- s1,<- o1.1,<- r1.1,sS]
 have hh2:(emb sh x).h=iA sh.objs y:=by show iA sh.objs (u6 sh x).2=_;rw[hes,w1]
 have cor:∀ (j:Nat) (ob:XO),(emb sh x).h[j]?=some ob->∃ id o,foc[j]?=some id/\X.h[id]?=some o/\OR' gG o ob:=fun j ob q=>by
  rw[hh2]at q
  obtain⟨id,o,e1,e2,e3⟩:=o3 j ob q
  rw[Nat.zero_add]at e1
  exact⟨id,o,(s2 j id).1 e1,e2,e3⟩
 have hlen:(emb sh x).h.length=foc.length:=by rw[hh2,o2,hfl]
 have EW:∀ (j id:Nat),foc[j]?=some id->(foc.map fun id=>ρ.getD id 0).getD j 0=ρ.getD id 0:=fun j id q=>by
  simp[List.getD,List.getElem?_map,q]
 have Pm:∀ (id j i o:Nat) (a:AV),gG[j]?=some (some id)->(∃ ob,X.h[id]?=some ob/\a=.ptr (ρ.getD id 0) ob.len i o)->∃ ob,(emb sh x).h[j]?=some ob/\a=.ptr ((foc.map fun id=>ρ.getD id 0).getD j 0) ob.len i o:=by
   intro id j i o a hj hv
   obtain⟨ob,he,rfl⟩:=hv
   have hj':=(s2 j id).1 hj
   have hjl:j<(emb sh x).h.length:=by rw[hlen];exact (List.getElem?_eq_some_iff.1 hj').1
   obtain⟨id',o',e1,e2,e3⟩:=cor j _ (List.getElem?_eq_getElem hjl)
   rw[hj']at e1
   cases e1
   rw[he]at e2
   cases e2
   refine⟨_,List.getElem?_eq_getElem hjl,?_⟩
   rw[EW j id hj']
   cases ob with
   |row ty T fz es=>have e3:(emb sh x).h[j]=.row ty T fz es:=e3;rw[e3]
   |vec ty vs=>exact e3.elim
   |map ty K V es=>have e3:(emb sh x).h[j]=.map ty K V es:=e3;rw[e3]
   |box ty vs=>obtain⟨cs,e3,_⟩:=e3;rw[e3];rfl
 have oH:∀ (v c:XV) (a:AV),CR gG v c->V1 ρ X.h v a->V1 (foc.map fun id=>ρ.getD id 0) (emb sh x).h c a:=by
  intro v c a hc hv
  cases hc with
  |any=>trivial
  |d _ T z hz=>exact iV hz (VA.of1 hv)
  |nil=>exact hv
  |row id j hj =>
   obtain⟨ty,T,fz,es,he,rfl⟩:=hv
   have hj':=(s2 j id).1 hj
   have hjl:j<(emb sh x).h.length:=by rw[hlen];exact (List.getElem?_eq_some_iff.1 hj').1
   obtain⟨id',o,e1,e2,e3⟩:=cor j _ (List.getElem?_eq_getElem hjl)
   rw[hj']at e1
   cases e1
   rw[he]at e2
   cases e2
   have e3:(emb sh x).h[j]=.row ty T fz es:=e3
   exact⟨ty,T,fz,es,by rw[List.getElem?_eq_getElem hjl,e3],by rw[EW j id hj']⟩
  |sub id j o n hj =>
   obtain⟨ty,T,fz,es,he,rfl⟩:=hv
   have hj':=(s2 j id).1 hj
   have hjl:j<(emb sh x).h.length:=by rw[hlen];exact (List.getElem?_eq_some_iff.1 hj').1
   obtain⟨id',o',e1,e2,e3⟩:=cor j _ (List.getElem?_eq_getElem hjl)
   rw[hj']at e1
   cases e1
   rw[he]at e2
   cases e2
   have e3:(emb sh x).h[j]=.row ty T fz es:=e3
   exact⟨ty,T,fz,es,by rw[List.getElem?_eq_getElem hjl,e3],by rw[EW j id hj']⟩
  |ptr id j i o hj=>exact Pm id j i o a hj hv
  |me id j hj =>
   rcases hv with hv|hv
   ·exact .inl hv
   ·exact .inr (Pm id j 0 0 a hj hv)
  |mep id j hj=>exact .inr (Pm id j 0 0 a hj hv)
  |men j=>exact .inl hv
  |mp id j hj =>
   obtain⟨ty,K,V,es,he,rfl⟩:=hv
   have hj':=(s2 j id).1 hj
   have hjl:j<(emb sh x).h.length:=by rw[hlen];exact (List.getElem?_eq_some_iff.1 hj').1
   obtain⟨id',o,e1,e2,e3⟩:=cor j _ (List.getElem?_eq_getElem hjl)
   rw[hj']at e1
   cases e1
   rw[he]at e2
   cases e2
   have e3:(emb sh x).h[j]=.map ty K V es:=e3
   exact⟨ty,K,V,es,by rw[List.getElem?_eq_getElem hjl,e3],by rw[EW j id hj']⟩
 refine⟨⟨?_,?_⟩,?_,hfl,CW hnd⟩
 ·refine⟨?_,fun i c a p q=>?_⟩
  ·show (u6 sh x).1.length=_
   rw[hes,w2,v2,List.length_replicate,<- hn]
   exact ht.1
  ·have hc:=w3 i c (by rw[<- hes];exact p)
   have hil:i<X.t.length:=by rw[ht.1];exact (List.getElem?_eq_some_iff.1 q).1
   have hv:=ht.2 i X.t[i] a (List.getElem?_eq_getElem hil) q
   have hg:X.t.getD i .any=X.t[i]:=by simp[List.getD,List.getElem?_eq_getElem hil]
   rw[hg]at hc
   generalize X.t[i]=v at hc hv
   rcases hc with hc|⟨vs,cs,rfl,rfl,hcs⟩
   case inr =>
    obtain⟨as,rfl,hva⟩:=hv
    refine⟨as,rfl,by rw[<- hcs.1,hva.1],fun j c' a' p' q'=>?_⟩
    obtain⟨v',hv',hcr⟩:=hcs.iL p'
    exact oH v' c' a' hcr (hva.2 j v' a' hv' q')
   cases hc with
   |any=>trivial
   |d _ T z hz =>
    refine EA (iV hz (VT.kW hv fun vs q=>?_))
    rw[q]at hz
    cases T<;>simp[toD,lst]at hz
   |row id j hj=>exact VT.of1 (oH _ _ a (.row id j hj) hv)
   |ptr id j i' o hj=>exact VT.of1 (oH _ _ a (.ptr id j i' o hj) hv)
   |nil=>exact hv
   |me id j hj=>exact VT.of1 (oH _ _ a (.me id j hj) hv)
   |mep id j hj=>exact VT.of1 (oH _ _ a (.mep id j hj) hv)
   |men j=>exact VT.of1 (oH _ _ a (.men j) hv)
   |mp id j hj=>exact VT.of1 (oH _ _ a (.mp id j hj) hv)
   |sub id j o n hj=>exact VT.of1 (oH _ _ a (.sub id j o n hj) hv)
 ·refine⟨by rw[List.length_map,hlen],?_,fun j ob q=>?_⟩
  ·have:foc.Nodup:=CW hnd
   rw[List.nodup_iff_pairwise_ne,List.pairwise_map]
   refine List.Pairwise.imp_of_mem (fun {a b} ha hb hab e=>?_) (List.nodup_iff_pairwise_ne.1 this)
   have lt:∀ a∈foc,a<X.h.length:=fun a ha=>by
    obtain⟨j,hj⟩:=List.mem_iff_getElem?.1 ha
    have hjl:j<(emb sh x).h.length:=by rw[hlen];exact (List.getElem?_eq_some_iff.1 hj).1
    obtain⟨id',o',e1,e2,e3⟩:=cor j _ (List.getElem?_eq_getElem hjl)
    rw[hj]at e1;cases e1
    exact (List.getElem?_eq_some_iff.1 e2).1
   exact hab (hs.inj (lt a ha) (lt b hb) e)
  ·obtain⟨id,o,e1,e2,e3⟩:=cor j ob q
   obtain⟨O,hO,hR⟩:=hs.hr id o e2
   refine⟨O,by rw[EW j id e1];exact hO,?_⟩
   cases o with
   |row ty T fz es=>have e3:ob=.row ty T fz es:=e3;subst e3;exact hR
   |map ty K V es=>have e3:ob=.map ty K V es:=e3;subst e3;exact hR
   |vec ty vs=>exact e3.elim
   |box ty vs =>
    obtain⟨cs,rfl,hc⟩:=e3
    obtain⟨q1,q2,q3,q4,e,q5,q6⟩:=hR
    refine⟨q1,by rw[q2,hc.1],q3,q4,e,q5,by rw[<- hc.1];exact q6.1,fun i c a p q=>?_⟩
    obtain⟨v,hv,hcr⟩:=hc.iL p
    exact oH v c a hcr (q6.2 i v a hv q)
 ·intro id hid
  obtain⟨j,hj⟩:=List.mem_iff_getElem?.1 hid
  have hjl:j<(emb sh x).h.length:=by rw[hlen];exact (List.getElem?_eq_some_iff.1 hj).1
  obtain⟨id',o',e1,e2,e3⟩:=cor j _ (List.getElem?_eq_getElem hjl)
  rw[hj]at e1;cases e1
  exact (List.getElem?_eq_some_iff.1 e2).1
theorem Nq {nf:Nat} {X:XS} {sh:Sh} {foc:List Nat} {x:Ty.aQ sh.tys} (hx:ext nf sh X=some (foc,x)):∀ id∈foc,∀ ty cs,X.h[id]?≠some (.vec ty cs):=by
 unfold ext at hx
 split at hx
 case h_2=>cases hx
 rename_i gL g h1
 split at hx
 case h_2=>cases hx
 rename_i gG y h2
 split at hx
 case h_2=>cases hx
 rename_i KL x3 h3 h4
 split at hx
 case isFalse=>cases hx
 rename_i hnd
 cases hx
 obtain⟨r1,r2⟩:=yu X.t _ _ _ _ _ h1
 obtain⟨o1,o2,o3⟩:=yw X.h _ _ _ _ _ h2
 obtain⟨s1,s2⟩:=qY h3
 intro id hid ty cs q
 obtain⟨j,hj⟩:=List.mem_iff_getElem?.1 hid
 have hfl:foc.length=sh.objs.length:=by rw[<- s1,<- o1.1,<- r1.1,sS]
 have hjl:j<(iA sh.objs y).length:=by rw[o2,<- hfl];exact (List.getElem?_eq_some_iff.1 hj).1
 obtain⟨id',o,e1,e2,e3⟩:=o3 j _ (List.getElem?_eq_getElem hjl)
 rw[Nat.zero_add]at e1
 have:=(s2 j id').1 e1
 rw[hj]at this
 cases this
 rw[q]at e2
 cases e2
 exact e3
def kK:XO->Nat
 |.row ..=>0
 |.box ..=>1
 |.map ..=>2
 |.vec ..=>3
def kS:SO->Nat
 |.row ..=>0
 |.box ..=>1
 |.map ..=>2
theorem sU:∀ (os:List SO) (y:Ty.aQ (SO.tys os)),(iA os y).map kK=os.map kS:=by
 intro os
 induction os with
 |nil=>intro y;rfl
 |cons so os ih =>
  intro y
  cases so with
  |row ty T fz=>simp only[iA,List.map_cons,kK,kS,ih]
  |box ty cs=>simp only[iA,List.map_cons,kK,kS,ih]
  |map ty K V=>simp only[iA,List.map_cons,kK,kS,ih]
theorem Qw {nf:Nat} {X:XS} {sh:Sh} {foc:List Nat} {x:Ty.aQ sh.tys} (hx:ext nf sh X=some (foc,x)):∀ (j id:Nat) (o:XO),foc[j]?=some id->X.h[id]?=some o->(sh.objs.map kS)[j]?=some (kK o):=by
 unfold ext at hx
 split at hx
 case h_2=>cases hx
 rename_i gL g h1
 split at hx
 case h_2=>cases hx
 rename_i gG y h2
 split at hx
 case h_2=>cases hx
 rename_i KL x3 h3 h4
 split at hx
 case isFalse=>cases hx
 rename_i hnd
 cases hx
 obtain⟨r1,r2⟩:=yu X.t _ _ _ _ _ h1
 obtain⟨o1,o2,o3⟩:=yw X.h _ _ _ _ _ h2
 obtain⟨s1,s2⟩:=qY h3
 intro j id ob hj q
 have hfl:foc.length=sh.objs.length:=by rw[<- s1,<- o1.1,<- r1.1,sS]
 have hjl:j<(iA sh.objs y).length:=by rw[o2,<- hfl];exact (List.getElem?_eq_some_iff.1 hj).1
 obtain⟨id',o,e1,e2,e3⟩:=o3 j _ (List.getElem?_eq_getElem hjl)
 rw[Nat.zero_add]at e1
 have:=(s2 j id').1 e1
 rw[hj]at this
 cases this
 rw[q]at e2
 cases e2
 rw[<- sU sh.objs y,List.getElem?_map,List.getElem?_eq_getElem hjl]
 show some (kK _)=some (kK ob)
 congr 1
 cases ob with
 |row ty T fz es=>have e3:(iA sh.objs y)[j]=.row ty T fz es:=e3;rw[e3]
 |map ty K V es=>have e3:(iA sh.objs y)[j]=.map ty K V es:=e3;rw[e3]
 |vec ty cs=>exact e3.elim
 |box ty vs=>obtain⟨cs,e3,_⟩:=e3;rw[e3];rfl
theorem VE {nf:Nat} {X:XS} {sh:Sh} {foc:List Nat} {x:Ty.aQ sh.tys} (hx:ext nf sh X=some (foc,x)):∀ (j id:Nat) (o:XO),foc[j]?=some id->X.h[id]?=some o->∀ {ty:Nat} {T:Ty} {fz:Bool} {es:List T.den},(emb sh x).h[j]?=some (.row ty T fz es)->o=.row ty T fz es:=by
 unfold ext at hx
 split at hx
 case h_2=>cases hx
 rename_i gL g h1
 split at hx
 case h_2=>cases hx
 rename_i gG y h2
 split at hx
 case h_2=>cases hx
 rename_i KL x3 h3 h4
 split at hx
 case isFalse=>cases hx
 rename_i hnd
 cases hx
 obtain⟨r1,r2⟩:=yu X.t _ _ _ _ _ h1
 obtain⟨o1,o2,o3⟩:=yw X.h _ _ _ _ _ h2
 obtain⟨s1,s2⟩:=qY h3
 intro j id ob hj q ty T fz es hrow
 have hfl:foc.length=sh.objs.length:=by rw[<- s1,<- o1.1,<- r1.1,sS]
 have hjl:j<(iA sh.objs y).length:=by rw[o2,<- hfl];exact (List.getElem?_eq_some_iff.1 hj).1
 obtain⟨v1,v2,v3⟩:=J6 X.t gG sh.vars _ (g y) x (List.replicate sh.n .any) h4 (fun i c q=>by
  have:=List.eq_of_mem_replicate (List.mem_of_getElem? q);subst this;exact .inl (.any _))
 obtain⟨w1,w2,w3⟩:=r2 y gG (p9 sh.vars (fu sh.refs (SO.tys sh.objs)) x (List.replicate sh.n .any)).1 o1 v3
 have hes:u6 sh x=j3 sh.refs (SO.tys sh.objs) (g y) (p9 sh.vars (fu sh.refs (SO.tys sh.objs)) x (List.replicate sh.n .any)).1:=by
  unfold u6;rw[v1]
 have hh2:(emb sh x).h=iA sh.objs y:=by show iA sh.objs (u6 sh x).2=_;rw[hes,w1]
 rw[hh2,List.getElem?_eq_getElem hjl]at hrow
 have hrow:=Option.some.inj hrow
 obtain⟨id',o,e1,e2,e3⟩:=o3 j _ (List.getElem?_eq_getElem hjl)
 rw[Nat.zero_add]at e1
 have:=(s2 j id').1 e1
 rw[hj]at this
 cases this
 rw[q]at e2
 cases e2
 rw[hrow]at e3
 cases ob with
 |row ty' T' fz' es'=>have e3:XO.row ty T fz es=.row ty' T' fz' es':=e3;exact e3.symm
 |map ty' K V es'=>have e3:XO.row ty T fz es=.map ty' K V es':=e3;cases e3
 |vec ty cs=>exact e3.elim
 |box ty vs=>obtain⟨cs,e3,_⟩:=e3;cases e3
end Abs
end Go.Proofs.YtgfnhpadmifiiaaDoor
end
section
namespace Go.Proofs.YtgfnhpadmifiiaaDoor
namespace Abs
open Go.RowKit
def encs:(ps:List Ty)->Ty.aQ ps->List AV
 |[],_=>[]
 |T::ps,x=>Ty.enc T x.1::encs ps x.2
def mo (l:List AV):AV:=match l with
 |[a]=>a
 |l=>.tup l
def POk (P:Program) (Gl:Nat->Option (List AV)) (p:PI):Prop:=callable P p.f=true/\∀ x y,p.run x=some y->Pure P Gl p.f (encs p.ps x) (mo (encs p.rs y))
structure Frm (H0:List ah) (ρ0 ρ:List Nat) (H:List ah):Prop where
 pre:∃ l,ρ=ρ0++l/\∀ x∈l,H0.length<=x
 ge:H0.length<=H.length
 fr:∀ j,j<H0.length->j∉ρ0->H[j]?=H0[j]?
def HOk (P:Program) (Gl:Nat->Option (List AV)) (p:HI):Prop:=callable P p.f=true/\∀ x y,p.run x=some y->∀ (H:List ah) (ρ:List Nat) (as:List AV),Sim ρ (emb p.ish x) ⟨as,H⟩->
 fP P Gl p.f H as (fun res H'=>∃ ρ' rs,Sim ρ' (emb p.osh y) ⟨rs,H'⟩/\mo rs=res/\Frm H ρ ρ' H')
theorem Frm.refl (H:List ah) (ρ:List Nat):Frm H ρ ρ H:=⟨⟨[],by simp,by simp⟩,Nat.le_refl _,fun _ _ _=>rfl⟩
theorem Frm.upd {H0 H H':List ah} {ρ0 ρ ρ' kl tch:List Nat} {h h':List XO} (hf:Frm H0 ρ0 ρ H) (hρ:ρ.length=h.length) (hu:Upd ρ h H ρ' h' H' kl tch):Frm H0 ρ0 ρ' H':=by
 obtain⟨l,e1,q1⟩:=hf.pre
 obtain⟨n,e2,q2⟩:=hu.ap
 refine⟨⟨l++n,by rw[e2,e1,List.append_assoc],fun x hx=>?_⟩,Nat.le_trans hf.ge hu.ge,fun j hj hn=>?_⟩
 ·rcases List.mem_append.1 hx with q|q
  ·exact q1 x q
  ·exact Nat.le_trans hf.ge (q2 x q)
 ·rw[hu.fr j (Nat.lt_of_lt_of_le hj hf.ge) (fun id _ hid q=>?_),hf.fr j hj hn]
  have hmem:ρ.getD id 0∈ρ:=by
   have hl:id<ρ.length:=by rw[hρ];exact hid
   simp only[List.getD,List.getElem?_eq_getElem hl,Option.getD_some]
   exact List.getElem_mem _
  rw[q,e1]at hmem
  rcases List.mem_append.1 hmem with q'|q'
  ·exact hn q'
  ·have:=q1 j q';omega
section
variable {ρ:List Nat} {h:List XO} {H:List ah}
theorem FQ:∀ (rs:List Ty) (y:Ty.aQ rs),aI (VA ρ h) (xZ rs y) (encs rs y):=by
 intro rs
 induction rs with
 |nil=>intro y;exact .nil
 |cons T rs ih=>intro y;exact .cons (Wp.refl _) (ih y.2)
theorem BD (rs:List Ty) (y:Ty.aQ rs):VT ρ h (ze rs y) (mo (encs rs y)):=by
 have hc:=FQ (ρ:=ρ) (h:=h) rs y
 unfold ze mo
 generalize xZ rs y=l at hc
 generalize encs rs y=m at hc
 match l,m,hc with
 |[],m,hc=>have:=hc.iy;subst this;exact⟨[],rfl,.nil⟩
 |[v],m,hc =>
  obtain⟨a,r,rfl,hv,ht⟩:=hc.dW
  have:=ht.iy
  subst this
  exact VT.ofA hv
 |v::w::l,m,hc =>
  obtain⟨a,r,rfl,hv,ht⟩:=hc.dW
  obtain⟨b,r',rfl,hw,ht'⟩:=ht.dW
  exact⟨_,rfl,hc⟩
theorem JW (T:Ty):G9 T=false->∀ x:T.den,((Ty.enc T x).cells.all dw=xO T):=by
 refine Ty.rec (motive_1:=fun T=>G9 T=false->∀ x:T.den,(Ty.enc T x).cells.all dw=xO T) (motive_2:=fun fs=>mY fs=false->∀ x:Ty.aQ fs,(Ty.dV fs x).all dw=pE fs) ?_ ?_ ?_ ?_ ?_ ?_ ?_ ?_ ?_ T
 ·intro k _ x;rfl
 ·intro _ x;rfl
 ·intro _ x;rfl
 ·intro e _ _ x;rfl
 ·intro fs ih h x;exact ih h x
 ·intro f _ x;rfl
 ·intro e _ h;cases h
 ·intro _ x;rfl
 ·intro t ts h1 h2 h x
  simp only[mY,Bool.or_eq_false_iff]at h
  simp only[Ty.dV,List.all_append,h1 h.1,h2 h.2,pE]
theorem EL (T:Ty) (hF:G9 T=false) (x:T.den):(match Ty.enc T x with|.v _=>true|.agg cs=>cs.all dw|_=>false)=xO T:=by
 cases T with
 |tup fs=>exact JW (.tup fs) hF x
 |fO e=>cases hF
 |_=>rfl
theorem Pf:∀ (rs:List Ty) (hF:mY rs=false) (y:Ty.aQ rs),((encs rs y).all fun a=>match a with|.v _=>true|.agg cs=>cs.all dw|_=>false)=pE rs:=by
 intro rs
 induction rs with
 |nil=>intro _ y;rfl
 |cons T rs ih =>
  intro h y
  simp only[mY,Bool.or_eq_false_iff]at h
  simp only[encs,List.all_cons,EL T h.1,ih h.2,pE]
theorem EK (rs:List Ty) (hF:mY rs=false) (y:Ty.aQ rs):scalar (mo (encs rs y))=pE rs:=by
 match rs,hF,y with
 |[],_,y=>rfl
 |[T],hF,y =>
  simp only[mY,Bool.or_false]at hF
  show scalar (Ty.enc T y.1)=(xO T&&true)
  rw[Bool.and_true,<- EL T hF y.1]
  cases T with
  |fO e=>cases hF
  |_=>rfl
 |T::U::rs,hF,y=>exact Pf (T::U::rs) hF y
mutual
theorem Pb:∀ {T:Ty},xO T=true->G9 T=false
 |.int _,_=>rfl
 |.bool,_=>rfl
 |.str,_=>rfl
 |.list _,_=>rfl
 |.tup fs,h=>wF (fs:=fs) h
 |.fnc _,_=>rfl
 |.fO _,h=>by cases h
theorem wF:∀ {fs:List Ty},pE fs=true->mY fs=false
 |[],_=>rfl
 |t::ts,h=>by
  simp only[pE,Bool.and_eq_true]at h
  simp only[mY,Pb h.1,wF h.2,Bool.or_self]
end
theorem GL (hs:HS ρ h H):∀ (ps:List Ty) (vs:List XV) (x:Ty.aQ ps) (as:List AV),qX h ps vs=some x->aI (VT ρ h) vs as->∃ bs,aP H as=some bs/\aI Wp bs (encs ps x)/\as.flatMap aT=(vs.flatMap fC).map (fun id=>ρ.getD id 0)/\∀ id∈vs.flatMap fC,isRow h id:=by
 intro ps
 induction ps with
 |nil =>
  intro vs x as hx hv
  cases vs with
  |nil=>have:=hv.iy;subst this;exact⟨[],rfl,.nil,rfl,by simp⟩
  |cons=>simp[qX]at hx
 |cons T ps ih =>
  intro vs x as hx hv
  cases vs with
  |nil=>simp[qX]at hx
  |cons v vs =>
   simp only[qX]at hx
   split at hx
   ·rename_i z l hz hl
    cases hx
    obtain⟨a,as',rfl,hv1,hv2⟩:=hv.dW
    have hnt:∀ us,v≠.tup us:=fun us q=>by
     subst q
     cases T<;>simp[toD,lst]at hz
    obtain⟨b,k1,k2,k3,k4⟩:=uU hs hz (hv1.kW hnt)
    obtain⟨bs,i1,i2,i3,i4⟩:=ih vs l as' hl hv2
    refine⟨b::bs,by simp only[aP,k1,i1],.cons k2 i2,by simp[k3,i3],fun id hid=>?_⟩
    simp only[List.flatMap_cons,List.mem_append]at hid
    rcases hid with q|q
    ·exact k4 id q
    ·exact i4 id q
   ·cases hx
theorem Vx:∀ (ids:List Nat) (h:List XO),ids.all (zy h)=true->jL h ids=h:=by
 intro ids
 induction ids with
 |nil=>intro h _;rfl
 |cons id ids ih =>
  intro h ha
  simp only[List.all_cons,Bool.and_eq_true]at ha
  have hset:(match h[id]? with|some o=>h.set id (Gc o)|none=>h)=h:=by
   have:=ha.1
   unfold zy at this
   split at this
   ·rename_i ty T fz es he
    rw[he]
    subst this
    simp only[Gc]
    apply List.ext_getElem?
    intro j
    rw[List.getElem?_set]
    split
    ·rename_i hj
     subst hj
     split
     ·rw[he]
     ·rename_i hl;rw[List.getElem?_eq_none (by omega)]
    ·rfl
   ·cases this
  show jL (match h[id]? with|some o=>h.set id (Gc o)|none=>h) ids=h
  rw[hset];exact ih h ha.2
theorem KS:∀ (os:List SO) (y:Ty.aQ (SO.tys os)) (ty:Nat) (cs:List XV),XO.vec ty cs∉iA os y:=by
 intro os
 induction os with
 |nil=>intro y ty cs q;simp[iA]at q
 |cons so os ih =>
  intro y ty cs q
  cases so with
  |row ty' T fz =>
   simp only[iA,List.mem_cons]at q
   rcases q with q|q
   ·cases q
   ·exact ih _ _ _ q
  |box ty' cs' =>
   simp only[iA,List.mem_cons]at q
   rcases q with q|q
   ·cases q
   ·exact ih _ _ _ q
  |map ty' K V =>
   simp only[iA,List.mem_cons]at q
   rcases q with q|q
   ·cases q
   ·exact ih _ _ _ q
theorem Q6:∀ {os os':List SO},kinds os os'=true->os.length<=os'.length/\∀ (j:Nat),j<os.length->(os.map kS)[j]?=(os'.map kS)[j]?:=by
 intro os
 induction os with
 |nil=>intro os' _;exact⟨by simp,fun j hj=>by simp at hj⟩
 |cons so os ih =>
  intro os' hk
  cases os' with
  |nil=>cases so<;>simp[kinds]at hk
  |cons so' os' =>
   have hk':kinds os os'=true/\kS so=kS so':=by cases so<;>cases so'<;>simp[kinds]at hk<;>first|exact⟨hk,rfl⟩|exact⟨hk.2,rfl⟩
   obtain⟨a,b⟩:=ih hk'.1
   refine⟨by simp;exact a,fun j hj=>?_⟩
   cases j with
   |zero=>simp[hk'.2]
   |succ j=>simpa using b j (by simpa using hj)
theorem Mc {kp:List Nat}:∀ (foc:List Nat) (os:List SO) (k:Nat),foc.length=os.length->∀ (j id:Nat),foc[j]?=some id->(os.map kS)[j]?=some 0->id∈jm kp k foc os\/k+j∈kp:=by
 intro foc
 induction foc with
 |nil=>intro os k _ j id q;simp at q
 |cons f foc ih =>
  intro os k hl j id q kk
  cases os with
  |nil=>simp at hl
  |cons so os =>
   have hl':foc.length=os.length:=by simpa using hl
   cases j with
   |zero =>
    simp at q kk
    subst q
    cases so with
    |row =>
     simp only[jm]
     split
     ·rename_i hk
      obtain⟨a,ha,e⟩:=List.any_eq_true.1 hk
      rw[<- beq_eq e]at ha
      exact .inr ha
     ·exact .inl (by simp)
    |box=>cases kk
    |map=>cases kk
   |succ j =>
    have:=ih os (k+1) hl' j id (by simpa using q) (by simpa using kk)
    rw[show k+1+j=k+(j+1) by omega]at this
    rcases this with this|this
    ·left
     cases so with
     |row =>
      simp only[jm]
      split
      ·exact this
      ·exact List.mem_cons_of_mem _ this
     |box=>simp only[jm];exact this
     |map=>simp only[jm];exact this
    ·exact .inr this
theorem Kk {hi ho:List XO}:∀ {kp:List Nat},oV kp hi ho=true->∀ j∈kp,∃ ty T fz fz' es es',hi[j]?=some (.row ty T fz es)/\ho[j]?=some (.row ty T fz' es')/\es.length=es'.length:=by
 intro kp
 induction kp with
 |nil=>intro _ j hj;cases hj
 |cons a kp ih =>
  intro h j hj
  simp only[oV]at h
  split at h
  ·rename_i ty T fz es ty' T' fz' es' h1 h2
   rw[Bool.and_eq_true]at h
   obtain⟨h3,h4⟩:=h
   rcases List.mem_cons.1 hj with rfl|hj
   ·split at h3
    ·rename_i hc
     simp only[Bool.and_eq_true]at hc
     have e1:=beq_eq hc.1
     have e2:=Ty.same_eq hc.2
     subst e1 e2
     exact⟨_,_,_,_,_,_,h1,h2,beq_eq h3⟩
    ·cases h3
   ·exact ih h4 j hj
  ·cases h
theorem M6 (foc:List Nat) (base:Nat):∀ (l:List Nat) (h os:List XO),l.Nodup->(∀ id ∈ l,id < h.length)->l.length<=os.length ->
  (j5 foc base l h os).length=h.length+(os.length-l.length)/\(∀ (k id:Nat),l[k]?=some id->(j5 foc base l h os)[id]?=(os[k]?).map (tL foc base))/\(∀ id,id<h.length->id∉l->(j5 foc base l h os)[id]?=h[id]?)/\∀ k,l.length<=k->k<os.length->(j5 foc base l h os)[h.length+(k-l.length)]?=(os[k]?).map (tL foc base):=by
 intro l
 induction l with
 |nil =>
  intro h os _ _ _
  refine⟨by simp[j5],fun k id q=>by simp at q,fun id hid _=>?_,fun k _ hk=>?_⟩
  ·simp only[j5];rw[List.getElem?_append_left hid]
  ·simp only[j5,List.length_nil,Nat.sub_zero]
   rw[List.getElem?_append_right (by omega),Nat.add_sub_cancel_left,List.getElem?_map]
 |cons f l ih =>
  intro h os hn hlt hle
  cases os with
  |nil=>simp at hle
  |cons o os =>
   rw[List.nodup_cons]at hn
   have hf:=hlt f (by simp)
   obtain⟨a,b,c,d⟩:=ih (h.set f (tL foc base o)) os hn.2 (fun id hid=>by simp;exact hlt id (by simp[hid])) (by simpa using hle)
   refine⟨by simp only[j5];rw[a];simp,fun k id q=>?_,fun id hid hn'=>?_,fun k hk hk'=>?_⟩
   ·cases k with
    |zero =>
     simp at q
     subst q
     simp only[j5]
     rw[c f (by simpa using hf) hn.1,List.getElem?_set_self hf]
     rfl
    |succ k =>
     simp only[j5]
     rw[b k id (by simpa using q)]
     simp
   ·simp only[j5]
    simp only[List.mem_cons,not_or]at hn'
    rw[c id (by simpa using hid) hn'.2,List.getElem?_set_ne (fun q=>hn'.1 q.symm)]
   ·cases k with
    |zero=>simp at hk
    |succ k =>
     simp only[j5]
     have:=d k (by simpa using hk) (by simpa using hk')
     rw[List.length_set]at this
     simp only[List.length_cons,Nat.add_sub_add_right,List.getElem?_cons_succ]
     exact this
end
end Abs
end Go.Proofs.YtgfnhpadmifiiaaDoor
end
section
namespace Go.Proofs.YtgfnhpadmifiiaaDoor
namespace Abs
open Go.RowKit
section
variable {ρ:List Nat} {h:List XO} {H H':List ah}
theorem getD_congr {a b:List Nat} {i k:Nat} (q:a[i]?=b[k]?):a.getD i 0=b.getD k 0:=by simp only[List.getD,q]
theorem KR:∀ (vs:List (Nat×Ty)) (r:List Ty) (x:Ty.aQ (rE vs r)) (b:List XV),(∀ z∈b,∀ us,z≠.tup us)->∀ z∈(p9 vs r x b).1,∀ us,z≠.tup us:=by
 intro vs
 induction vs with
 |nil=>intro r x b hb;exact hb
 |cons p vs ih =>
  intro r x b hb
  obtain⟨s,T⟩:=p
  refine ih r x.2 _ fun z hz us q=>?_
  rcases List.mem_or_eq_of_mem_set hz with hz|hz
  ·exact hb z hz us q
  ·rw[hz]at q;cases q
theorem Ht:∀ (refs:List (Nat×SR)) (r:List Ty) (x:Ty.aQ (fu refs r)) (b:List XV),(∀ z∈b,∀ us,z≠.tup us)->∀ z∈(j3 refs r x b).1,∀ us,z≠.tup us:=by
 intro refs
 induction refs with
 |nil=>intro r x b hb;exact hb
 |cons p refs ih =>
  intro r x b hb
  obtain⟨s,sr⟩:=p
  have st:∀ c:XV,(∀ us,c≠.tup us)->∀ z∈b.set s c,∀ us,z≠.tup us:=fun c hc z hz us q=>by
   rcases List.mem_or_eq_of_mem_set hz with hz|hz
   ·exact hb z hz us q
   ·rw[hz]at q;exact hc us q
  cases sr with
  |row j=>exact ih r x _ (st _ fun us q=>by cases q)
  |ptr j i o=>exact ih r x _ (st _ fun us q=>by cases q)
  |nil=>exact ih r x _ (st _ fun us q=>by cases q)
  |mp j=>exact ih r x _ (st _ fun us q=>by cases q)
  |sub j o n=>exact ih r x _ (st _ fun us q=>by cases q)
  |cst k n=>exact ih r x _ (st _ fun us q=>by cases q)
  |agg cs=>exact ih r _ _ (st _ fun us q=>by cases q)
theorem Nt (sh:Sh) (x:Ty.aQ sh.tys):∀ z∈(emb sh x).t,∀ us,z≠.tup us:=by
 refine Ht _ _ _ _ (KR _ _ _ _ fun z hz us q=>?_)
 have:=List.eq_of_mem_replicate hz
 rw[this]at q;cases q
theorem PU {ish osh:Sh} {vs:List XV} {as rs:List AV} {foc ρ':List Nat} {x:Ty.aQ ish.tys} {y:Ty.aQ osh.tys} (hs:HS ρ h H) (hv:aI (VT ρ h) vs as) (hn:vs.length=ish.n) {nf:Nat} (hx:ext nf ish ⟨vs,h⟩=some (foc,x)) (hk:kinds ish.objs osh.objs=true)
  {kp:List Nat} (hkp:oV kp (emb ish x).h (emb osh y).h=true) (hS:Sim ρ' (emb osh y) ⟨rs,H'⟩) (hF:Frm H (foc.map fun id=>ρ.getD id 0) ρ' H') :
  ∃ ρc,Upd ρ h H ρc (j5 foc h.length foc (kE (jm kp 0 foc ish.objs) h) (emb osh y).h) H' (jm kp 0 foc ish.objs) foc/\VT ρc (j5 foc h.length foc (kE (jm kp 0 foc ish.objs) h) (emb osh y).h) (Pq foc h.length (emb osh y).t) (mo rs):=by
 obtain⟨hS0,hlt,hfl,hnd⟩:=yj (X:=⟨vs,h⟩) hv hs hn hx
 have hnv:∀ id∈foc,∀ ty cs,h[id]?≠some (.vec ty cs):=Nq hx
 obtain⟨l,hl1,hl2⟩:=hF.pre
 have hlt:∀ id∈foc,id<h.length:=hlt
 obtain⟨kl1,kl2⟩:=Q6 hk
 have ho2:(emb osh y).h.map kK=osh.objs.map kS:=sU _ _
 have ho1:(emb ish x).h.map kK=ish.objs.map kS:=sU _ _
 have hol:(emb osh y).h.length=osh.objs.length:=by have:=congrArg List.length ho2;simpa using this
 have a4g:(emb ish x).h.length=ish.objs.length:=by have:=congrArg List.length ho1;simpa using this
 have hkl:(kE (jm kp 0 foc ish.objs) h).length=h.length:=by rw[lQ];simp
 obtain⟨s1,s2,s3,s4⟩:=M6 foc h.length foc (kE (jm kp 0 foc ish.objs) h) (emb osh y).h hnd (fun id hid=>by rw[hkl];exact hlt id hid) (by rw[hol,hfl];exact kl1)
 rw[hkl]at s1 s3 s4
 generalize hkeq:jm kp 0 foc ish.objs=kl at *
 generalize a4j:j5 foc h.length foc (kE kl h) (emb osh y).h=hc at *
 have hρ':ρ'.length=(emb osh y).h.length:=hS.h.rl
 have hll:l.length=(emb osh y).h.length-foc.length:=by
  have:=congrArg List.length hl1;simp at this;omega
 have hfo:foc.length<=(emb osh y).h.length:=by rw[hol,hfl];exact kl1
 have num:∀ j,j<(emb osh y).h.length->(ρ++l).getD (if Nat.blt j foc.length=true then foc.getD j 0 else h.length+(j-foc.length)) 0=ρ'.getD j 0/\hc[if Nat.blt j foc.length=true then foc.getD j 0 else h.length+(j-foc.length)]?=((emb osh y).h[j]?).map (tL foc h.length):=by
  intro j hj
  by_cases hjf:Nat.blt j foc.length=true
  ·have hj':=ou hjf
   rw[if_pos hjf]
   have hg:foc[j]?=some (foc.getD j 0):=by simp[List.getD,List.getElem?_eq_getElem hj']
   refine⟨?_,s2 j _ hg⟩
   have hm:foc.getD j 0∈foc:=List.mem_of_getElem? hg
   rw[iC (by rw[hs.rl];exact hlt _ hm),hl1,iC (by simpa using hj')]
   simp[List.getD,List.getElem?_map,List.getElem?_eq_getElem hj']
  ·have hj':=Lb hjf
   rw[if_neg hjf]
   refine⟨?_,s4 j hj' hj⟩
   rw[hl1]
   have e1:(ρ++l)[h.length+(j-foc.length)]?=l[j-foc.length]?:=by rw[List.getElem?_append_right (by rw[hs.rl];omega),hs.rl,Nat.add_sub_cancel_left]
   have e2:((foc.map fun id=>ρ.getD id 0)++l)[j]?=l[j-foc.length]?:=by rw[List.getElem?_append_right (by simpa using hj')];simp
   exact getD_congr (e1.trans e2.symm)
 have oH:∀ (v:XV) (a:AV),V1 ρ' (emb osh y).h v a->V1 (ρ++l) hc (F8 foc h.length v) a:=by
  intro v a hv
  cases v with
  |row j =>
   obtain⟨ty,T,fz,es,he,rfl⟩:=hv
   obtain⟨n1,n2⟩:=num j (List.getElem?_eq_some_iff.1 he).1
   exact⟨ty,T,fz,es,by rw[n2,he];rfl,by rw[n1]⟩
  |sub j off len=>trivial
  |mD j len=>trivial
  |oG j=>trivial
  |mp j =>
   obtain⟨ty,K,V,es,he,rfl⟩:=hv
   obtain⟨n1,n2⟩:=num j (List.getElem?_eq_some_iff.1 he).1
   exact⟨ty,K,V,es,by rw[n2,he];rfl,by rw[n1]⟩
  |ptr j i o =>
   obtain⟨ob,he,rfl⟩:=hv
   obtain⟨n1,n2⟩:=num j (List.getElem?_eq_some_iff.1 he).1
   refine⟨tL foc h.length ob,by rw[n2,he];rfl,?_⟩
   rw[n1]
   cases ob<;>rfl
  |me j =>
   rcases hv with hv|⟨ob,he,rfl⟩
   ·exact .inl hv
   ·obtain⟨n1,n2⟩:=num j (List.getElem?_eq_some_iff.1 he).1
    refine .inr ⟨tL foc h.length ob,by rw[n2,he];rfl,?_⟩
    rw[n1]
    cases ob<;>rfl
  |agg=>exact hv.elim
  |tup=>exact hv.elim
  |_=>exact hv
 have a3n:∀ (v:XV) (a:AV),VA ρ' (emb osh y).h v a->VA (ρ++l) hc (EZ foc h.length v) a:=by
  intro v a hv
  by_cases ha:∃ cs,v=.agg cs
  ·obtain⟨cs,rfl⟩:=ha
   obtain⟨us,rfl,hcs⟩:=hv
   refine⟨us,rfl,by simp[hcs.1],fun i z b p q=>?_⟩
   rw[List.getElem?_map]at p
   cases hz:cs[i]? with
   |none=>rw[hz]at p;cases p
   |some w=>rw[hz]at p;cases p;exact oH w b (hcs.2 i w b hz q)
  ·have e1:EZ foc h.length v=F8 foc h.length v:=by cases v<;>first|rfl|exact absurd ⟨_,rfl⟩ ha
   rw[e1]
   exact VA.of1 (oH v a (by cases v<;>first|exact hv|exact absurd ⟨_,rfl⟩ ha))
 have nov:∀ (j:Nat) (ty:Nat) (cs:List XV),(emb osh y).h[j]?≠some (.vec ty cs):=fun j ty cs q=>KS _ _ ty cs (List.mem_of_getElem? q)
 have Yc:∀ (j:Nat) (o:XO) (O:ah),(emb osh y).h[j]?=some o->mE ρ' (emb osh y).h o O->mE (ρ++l) hc (tL foc h.length o) O:=by
  intro j o O hj hR
  cases o with
  |vec ty cs=>exact absurd hj (nov j ty cs)
  |row=>exact hR
  |map=>exact hR
  |box ty cs =>
   obtain⟨a,b,c,d,e,he,hcs⟩:=hR
   refine⟨a,by simpa using b,c,d,e,he,by simp[hcs.1],fun i z w p q=>?_⟩
   rw[List.getElem?_map]at p
   cases hz:cs[i]? with
   |none=>rw[hz]at p;cases p
   |some u=>rw[hz]at p;cases p;exact oH u w (hcs.2 i u w hz q)
 have a0S:∀ (j id:Nat) (o:XO),foc[j]?=some id->h[id]?=some o->(ish.objs.map kS)[j]?=some (kK o):=Qw hx
 have tr:Trn ρ h (ρ++l) hc kl:=by
  refine Trn.mk (fun id o ho hn=>?_) (fun id hid=>iC (by rw[hs.rl];exact hid))
  by_cases hf:id∈foc
  ·obtain⟨j,hj⟩:=List.mem_iff_getElem?.1 hf
   have hjl:j<foc.length:=(List.getElem?_eq_some_iff.1 hj).1
   have hk1:=a0S j id o hj ho
   have hjo:j<(emb osh y).h.length:=by omega
   have hk2:=kl2 j (by rw[<- hfl];exact hjl)
   rw[hk1,<- ho2,List.getElem?_map,List.getElem?_eq_getElem hjo]at hk2
   have hk3:kK (emb osh y).h[j]=kK o:=by simpa using hk2.symm
   refine⟨tL foc h.length (emb osh y).h[j],by rw[s2 j id hj,List.getElem?_eq_getElem hjo];rfl,?_⟩
   by_cases hr:kK o=0
   ·rw[hr]at hk1
    rcases Mc (kp:=kp) foc ish.objs 0 hfl j id hj hk1 with q|q
    ·rw[hkeq]at q;exact absurd q hn
    ·rw[Nat.zero_add]at q
     obtain⟨ty,T,fz,fz',es,es',e1,e2,e3⟩:=Kk hkp j q
     rw[List.getElem?_eq_getElem hjo]at e2
     have e2:=Option.some.inj e2
     rw[e2]
     have:=VE hx j id o hj ho e1
     rw[this]
     exact⟨rfl,rfl,e3⟩
   ·generalize (emb osh y).h[j]=o2 at hk3 ⊢
    cases o with
    |row=>exact absurd rfl hr
    |vec ty cs=>exact absurd ho (hnv id hf ty cs)
    |box ty cs=>cases o2<;>first|(cases hk3;done)|trivial
    |map ty K V es=>cases o2<;>first|(cases hk3;done)|trivial
  ·refine⟨gZ kl o,?_,?_⟩
   ·rw[s3 id (List.getElem?_eq_some_iff.1 ho).1 hf,lQ,List.getElem?_map,ho];rfl
   ·cases o<;>simp[lD,gZ]
 refine⟨ρ++l,⟨⟨?_,?_,fun id o ho=>?_⟩,tr,hF.ge,fun j hj hn=>?_,⟨l,rfl,hl2⟩,by rw[s1];omega⟩,?_⟩
 ·rw[List.length_append,s1,hs.rl,hll]
 ·have hnd':=hS.h.nd
  rw[hl1,List.nodup_append]at hnd'
  rw[List.nodup_append]
  refine⟨hs.nd,hnd'.2.1,fun a ha b hb=>?_⟩
  have:=hs.MI ha
  have:=hl2 b hb
  omega
 ·by_cases hid:id<h.length
  ·by_cases hf:id∈foc
   ·obtain⟨j,hj⟩:=List.mem_iff_getElem?.1 hf
    have hjl:j<foc.length:=(List.getElem?_eq_some_iff.1 hj).1
    have hjo:j<(emb osh y).h.length:=by omega
    rw[s2 j id hj,List.getElem?_eq_getElem hjo]at ho
    cases ho
    obtain⟨O,hO,hR⟩:=hS.h.hr j _ (List.getElem?_eq_getElem hjo)
    refine⟨O,?_,Yc _ _ _ (List.getElem?_eq_getElem hjo) hR⟩
    rw[iC (by rw[hs.rl];exact hid)]
    have:ρ'.getD j 0=ρ.getD id 0:=by rw[hl1,iC (by simpa using hjl)];simp[List.getD,List.getElem?_map,hj]
    rw[this]at hO;exact hO
   ·rw[s3 id hid hf,lQ,List.getElem?_map]at ho
    cases hx2:h[id]? with
    |none=>rw[hx2]at ho;cases ho
    |some ox =>
     rw[hx2]at ho;cases ho
     obtain⟨O,hO,hR⟩:=hs.hr id ox hx2
     refine⟨O,?_,tr.obj hR⟩
     rw[iC (by rw[hs.rl];exact hid),hF.fr _ (hs.lt hid) (fun q=>?_)]
     ·exact hO
     ·obtain⟨id',YL,e⟩:=List.mem_map.1 q
      exact hf (hs.inj (hlt id' YL) hid e▸YL)
  ·have l5:=(List.getElem?_eq_some_iff.1 ho).1
   rw[s1]at l5
   have hk':=s4 (id-h.length+foc.length) (by omega) (by omega)
   rw[Nat.add_sub_cancel,show h.length+(id-h.length)=id by omega,ho]at hk'
   have hjo:id-h.length+foc.length<(emb osh y).h.length:=by omega
   rw[List.getElem?_eq_getElem hjo]at hk'
   cases hk'
   obtain⟨O,hO,hR⟩:=hS.h.hr _ _ (List.getElem?_eq_getElem hjo)
   refine⟨O,?_,Yc _ _ _ (List.getElem?_eq_getElem hjo) hR⟩
   have e1:(ρ++l)[id]?=l[id-h.length]?:=by rw[List.getElem?_append_right (by rw[hs.rl];omega),hs.rl]
   have e2:ρ'[id-h.length+foc.length]?=l[id-h.length]?:=by rw[hl1,List.getElem?_append_right (by simp)];simp
   have:(ρ++l).getD id 0=ρ'.getD (id-h.length+foc.length) 0:=getD_congr (e1.trans e2.symm)
   rw[this];exact hO
 ·refine hF.fr j hj (fun q=>?_)
  obtain⟨id,hid,e⟩:=List.mem_map.1 q
  exact hn id hid (hlt id hid) e
 ·have ht:=hS.t
  have hts:∀ (z:XV) (a:AV),VT ρ' (emb osh y).h z a->(∀ us,z≠.tup us)->VA (ρ++l) hc (EZ foc h.length z) a:=fun z a q hz=>a3n z a (q.kW hz)
  have hnt:∀ z∈(emb osh y).t,∀ us,z≠.tup us:=Nt osh y
  unfold Pq mo
  generalize (emb osh y).t=tl at ht hnt
  match tl,rs,ht,hnt with
  |[],rs,ht,_=>have:=ht.iy;subst this;exact⟨[],rfl,.nil⟩
  |[v],rs,ht,hnt =>
   obtain⟨a,r,rfl,hv,htt⟩:=ht.dW
   have:=htt.iy
   subst this
   exact VT.ofA (hts v a hv (hnt v (by simp)))
  |v::w::tl,rs,ht,hnt =>
   obtain⟨a,r,rfl,hv,htt⟩:=ht.dW
   obtain⟨b,r',rfl,hw,a4e⟩:=htt.dW
   refine⟨_,rfl,by simpa using ht.1,fun i z c p q=>?_⟩
   rw[List.getElem?_map]at p
   cases hz:(v::w::tl)[i]? with
   |none=>rw[hz]at p;cases p
   |some u=>rw[hz]at p;cases p;exact hts u c (ht.2 i u c hz q) (hnt u (List.mem_of_getElem? hz))
end
end Abs
end Go.Proofs.YtgfnhpadmifiiaaDoor
end
section
namespace Go.Proofs.YtgfnhpadmifiiaaDoor
namespace Abs
open Go.RowKit
structure aW (P:Program) (c:Cfg):Prop where
 pis:∀ p∈c.pis,POk P (gx c.GX) p
 his:∀ p∈c.his,HOk P (gx c.GX) p
section
variable {P:Program} {c:Cfg} {ρ:List Nat} {h:List XO} {H:List ah} {σ:St} {rd:Opd->XV} {tt:Nat->Option Ty} {Gl:Nat->Option (List AV)} {β:Type} {r:β}
theorem wm {i:I} {p:Bool} {v:XV} {kl:Option Nat} {h':List XO} (hc:i.cls<=1) (hx:cK tt h rd i=some (p,v,kl,h')):kl=none/\h'=h:=by
 cases i<;>simp only[I.cls]at hc<;>first|omega|skip
 all_goals (simp only[cK]at hx)
 all_goals (repeat' (split at hx))
 all_goals first|(cases hx;done)|(cases hx;exact⟨rfl,rfl⟩)
theorem EH {i:I} (hc:i.cls<=1) {q:Prop} {a:AV} {H':List ah} (hx:step Gl σ i=some (q,a,H')):H'=σ.h:=by
 by_cases h0:i.cls=0
 ·exact (wB (τ:=σ) h0 (fun _ _=>rfl) hx).1
 ·cases i with
  |kF b st n x i =>
   simp only[step]at hx
   repeat' (split at hx)
   all_goals first
    |(cases hx;done)
    |(cases hx;rfl)
  |b2s x =>
   simp only[step]at hx
   split at hx
   ·rw[Option.map_eq_some_iff]at hx;obtain⟨_,_,q⟩:=hx;cases q;rfl
   ·cases hx
  |aslice b n x lo hi =>
   simp only[step]at hx
   repeat' (split at hx)
   all_goals first
    |(cases hx;done)
    |(rw[Option.map_eq_some_iff]at hx;obtain⟨_,_,q⟩:=hx;cases q;rfl)
  |load sz ag x =>
   simp only[step]at hx
   repeat' (split at hx)
   all_goals first
    |(cases hx;done)
    |(cases hx;rfl)
    |(rw[Option.map_eq_some_iff]at hx;obtain⟨_,_,q⟩:=hx;cases q;rfl)
  |lM kt ok z x k =>
   simp only[step]at hx
   repeat' (split at hx)
   all_goals first
    |(cases hx;done)
    |(cases hx;rfl)
  |call f as=>cases hx
  |_=>first|exact absurd rfl h0|(simp[I.cls]at hc;done)
theorem qZ {d:Bool} {dst:Option Nat} {K:St->Prop} {i:I} (hn:∀ f as,i ≠ .call f as):bZ P Gl d σ dst K i=match step Gl σ i with
  |some (p,a,h')=>p/\K (St.put ⟨σ.t,h'⟩ dst a)
  |none=>False:=by
 cases i<;>first|rfl|exact absurd rfl (hn _ _)
theorem Ck {ρ':List Nat} {h':List XO} {H':List ah} {kl tch:List Nat} (hu:Upd ρ h H ρ' h' H' kl tch) (hρ:ρ.length=h.length) (he:h'.length=h.length):ρ'=ρ:=by
 obtain⟨n,e,_⟩:=hu.ap
 have:=hu.hs.rl
 rw[e,List.length_append]at this
 have hn:n=[]:=List.length_eq_zero_iff.1 (by omega)
 rw[e,hn,List.append_nil]
def Aft (ρ:List Nat) (h:List XO) (σ:St) (d:Bool) (ok:Nat->Bool) (rd:Opd->XV) (i:I) (K:XV->List Nat->List XO->Option β) (r:β) (a:AV) (H':List ah):Prop :=
 ∃ ρ' v kl h' tch,Upd ρ h σ.h ρ' h' H' kl tch/\VT ρ' h' v a/\(leaves ok rd i=true->∀ id∈tch,ok id=true)/\(i.cls<=1->d=true->ρ'=ρ/\H'=σ.h/\kl=[]/\h'=h)/\K v kl h'=some r
theorem Lu (hs:HS ρ h H) {vs:List XV} {as:List AV} (hv:aI (VT ρ h) vs as) {f:Nat} {d:Bool} {K:XV->List Nat->List XO->Option β} {o:Option β}:∀ (ps:List PI),(∀ p ∈ ps,POk P Gl p)->wo f d h vs K o ps=some r ->
  (∃ bs res v h' tch,callable P f=true/\aP H as=some bs/\Pure P Gl f bs res/\(d=true->(if scalar res then H else freeze H (as.flatMap aT))=H)/\Upd ρ h H ρ h' (if scalar res then H else freeze H (as.flatMap aT)) [] tch/\(∀ id∈tch,id∈vs.flatMap fC)/\VT ρ h' v res/\(d=true->h'=h)/\K v [] h'=some r)\/o=some r:=by
 intro ps
 induction ps with
 |nil=>intro _ hx;exact .inr hx
 |cons p ps ih =>
  intro hp hx
  simp only[wo]at hx
  split at hx
  ·rename_i hf
   have hf:=beq_eq hf
   subst hf
   split at hx
   ·rename_i x ha
    obtain⟨bs,k1,k2,k3,k4⟩:=GL hs _ _ _ _ ha hv
    have hpure:∀ y,p.run x=some y->Pure P Gl p.f bs (mo (encs p.rs y)):=fun y hy =>
     ((hp p (by simp)).2 x y hy).weak k2.1 fun j a b q q'=>(k2.2 j a b q q').wk
    split at hx
    ·rename_i hsc
     cases hy:p.run x with
     |none=>rw[hy]at hx;cases hx
     |some y =>
      rw[hy]at hx
      have hsr:scalar (mo (encs p.rs y))=true:=by rw[EK _ (wF hsc)];exact hsc
      refine .inl ⟨bs,_,ze p.rs y,h,[],(hp p (by simp)).1,k1,hpure y hy,fun _=>by rw[hsr];rfl,?_,(fun _ q=>by simp at q),BD _ _,fun _=>rfl,hx⟩
      rw[hsr];exact Upd.same hs
    ·rename_i hsc
     split at hx
     ·rename_i hd
      cases hy:p.run x with
      |none=>rw[hy]at hx;cases hx
      |some y =>
       rw[hy]at hx
       have Z0:(vs.flatMap fC).all (zy h)=true->freeze H (as.flatMap aT)=H/\jL h (vs.flatMap fC)=h:=by
        intro hd
        rw[k3]
        refine⟨?_,Vx _ _ hd⟩
        clear hx ih hpure
        have:∀ (ids:List Nat),(∀ id∈ids,isRow h id)->ids.all (zy h)=true->freeze H (ids.map fun id=>ρ.getD id 0)=H:=by
         intro ids
         induction ids with
         |nil=>intro _ _;rfl
         |cons id ids ih =>
          intro hr ha
          simp only[List.all_cons,Bool.and_eq_true]at ha
          obtain⟨ty,T,fz,es,he⟩:=hr id (by simp)
          have hfz:fz=true:=by have:=ha.1;simp only[zy,he]at this;exact this
          obtain⟨O,hO,o1,o2,o3,o4,o5⟩:=hs.hr id _ he
          rw[hfz,if_pos rfl]at o4
          have hlen:O.es.length=es.length:=by have:=o5.1;simpa using this
          have hst:H.set (ρ.getD id 0) { O with fz:=O.es.length }=H:=by
           have:({ O with fz:=O.es.length }:ah)=O:=by rw[hlen,<- o4]
           rw[this]
           apply List.ext_getElem?
           intro j
           rw[List.getElem?_set]
           split
           ·rename_i hj
            subst hj
            split
            ·rw[hO]
            ·rename_i hl;rw[List.getElem?_eq_none (by omega)]
           ·rfl
          have e:freeze H ((id::ids).map fun id=>ρ.getD id 0)=freeze H (ids.map fun id=>ρ.getD id 0):=by
           simp only[List.map_cons,freeze,List.foldl_cons,hO];rw[hst]
          rw[e]
          exact ih (fun j hj=>hr j (by simp[hj])) ha.2
        exact this _ k4 hd
       by_cases hall:(vs.flatMap fC).all (zy h)=true
       ·obtain⟨f1,f2⟩:=Z0 hall
        have hif:(if scalar (mo (encs p.rs y))=true then H else freeze H (as.flatMap aT))=H:=by rw[f1];split<;>rfl
        rw[f2]at hx
        exact .inl ⟨bs,_,ze p.rs y,h,[],(hp p (by simp)).1,k1,hpure y hy,fun _=>hif,by rw[hif];exact Upd.same hs,(fun _ q=>by simp at q),BD _ _,fun _=>rfl,hx⟩
       ·have hd':d=false/\mY p.rs=false:=by
         have:=Bool.not_eq_true _▸hall
         rw[this]at hd
         simpa using hd
        have hsr:scalar (mo (encs p.rs y))=false:=by rw[EK _ hd'.2];simpa using hsc
        have hu:=Upd.frz _ hs k4
        rw[<- k3]at hu
        refine .inl ⟨bs,_,ze p.rs y,_,_,(hp p (by simp)).1,k1,hpure y hy,fun q=>?_,by rw[hsr];exact hu,(fun _ q=>q),BD _ _,fun q=>?_,hx⟩
        ·rw[hd'.1]at q;cases q
        ·rw[hd'.1]at q;cases q
     ·cases hx
   ·exact ih (fun q hq=>hp q (by simp[hq])) hx
  ·exact ih (fun q hq=>hp q (by simp[hq])) hx
theorem Lv (hs:HS ρ h H) {vs:List XV} {as:List AV} (hv:aI (VT ρ h) vs as) {f:Nat} {ok:Nat->Bool} {K:XV->List Nat->List XO->Option β}:∀ (ps:List HI),(∀ p ∈ ps,HOk P Gl p)->wu f ok h vs K ps=some r ->
  callable P f=true/\fP P Gl f H as fun res H'=>∃ ρ' v kl h' tch,Upd ρ h H ρ' h' H' kl tch/\(∀ id∈tch,ok id=true)/\VT ρ' h' v res/\K v kl h'=some r:=by
 intro ps
 induction ps with
 |nil=>intro _ hx;cases hx
 |cons p ps ih =>
  intro hp hx
  simp only[wu]at hx
  split at hx
  ·rename_i hb
   simp only[Bool.and_eq_true]at hb
   have hf:=beq_eq hb.1.1
   have hn:=beq_eq hb.1.2
   subst hf
   split at hx
   ·rename_i foc x he
    split at hx
    case isFalse=>cases hx
    rename_i hfo
    cases hy:p.run x with
    |none=>rw[hy]at hx;cases hx
    |some y =>
     rw[hy]at hx
     have hx:cond (oV p.kp (emb p.ish x).h (emb p.osh y).h) (K _ _ _) none=some r:=hx
     cases hkp:oV p.kp (emb p.ish x).h (emb p.osh y).h with
     |false=>rw[hkp]at hx;cases hx
     |true =>
     rw[hkp]at hx
     have hS:=(yj (X:=⟨vs,h⟩) hv hs hn.symm he).1
     refine⟨(hp p (by simp)).1,((hp p (by simp)).2 x y hy H _ as hS).mono ?_⟩
     rintro res H' ⟨ρ',rs,hS',rfl,hF⟩
     obtain⟨ρc,hu,hvt⟩:=PU hs hv hn.symm he hb.2 hkp hS' hF
     exact⟨ρc,_,_,_,_,hu,fun id hid=>List.all_eq_true.1 hfo id hid,hvt,hx⟩
   ·exact ih (fun q hq=>hp q (by simp[hq])) hx
  ·exact ih (fun q hq=>hp q (by simp[hq])) hx
theorem Ol (hs:HS ρ h σ.h) (hrd:∀ o,VT ρ h (rd o) (σ.val Gl o)) {tt:Nat->Option Ty} {d:Bool} {ok:Nat->Bool} {K:XV->List Nat->List XO->Option β} {ty sz bytes:Nat} {s x:Opd} {id len:Nat} (h1:rd s=.mD id len)
  (hx:(match tt ty,h[id]? with
   | some T,some (.row _ T' _ es)=>if Nat.beq T.size sz=true then match qb h T (rd x),dH (a:=.list T') (b:=.list T) es with
     |some ys,some es=>cond (someE ys) (cond (fits (len+List.length ys) bytes) (K (.row h.length) [] (h++[.row ty T false (List.take len es++ys)])) none) (K (.sub id 0 len) [] h)
     |_,_=>none
    else none
   |_,_=>none)=some r):∃ q a H',step Gl σ (.app ty sz bytes s x)=some (q,a,H')/\q/\Aft ρ h σ d ok rd (.app ty sz bytes s x) K r a H':=by
 have hv:=hrd s
 rw[h1]at hv
 split at hx
 case h_2=>cases hx
 rename_i T ty' T' fz es0 hT he
 split at hx
 case isFalse=>cases hx
 rename_i hz
 have hz:=beq_eq hz
 split at hx
 case h_2=>cases hx
 rename_i ys es hys hcast
 obtain⟨q,rfl⟩:=gH hcast
 cases q
 obtain⟨ty2,T2,fz2,es2,he2,hav,hle⟩:=hv
 rw[he]at he2
 cases he2
 obtain⟨as,ha,hc⟩:=vP hs hz hys (hrd x)
 have hal:as.length=ys.length:=by rw[hc.1,List.length_map]
 obtain⟨O,hO,o1,o2,o3,o4,o5⟩:=hs.hr id _ he
 have hlen:O.es.length=es0.length:=by have:=o5.1;simpa using this
 cases hy:ys with
 |nil =>
  rw[hy]at hx
  have has:as=[]:=List.length_eq_zero_iff.1 (by rw[hal,hy];rfl)
  subst has
  refine⟨True,.row (ρ.getD id 0) es0.length sz 0 len,σ.h,?_,trivial,ρ,.sub id 0 len,[],h,[],Upd.same hs,?_,fun _ _ q=>by simp at q,fun q=>?_,hx⟩
  ·simp only[step,qH,ha,hav,hO,hlen,hz,o2,o3,and_self,if_true,List.isEmpty_nil]
  ·exact VT.of1 ⟨ty',T,fz,es0,he,by rw[hz]⟩
  ·simp[I.cls]at q
 |cons y0 ys0 =>
  have hse:someE ys=true:=by rw[hy];rfl
  rw[hse]at hx
  simp only[cond_true]at hx
  cases hf:fits (len+List.length ys) bytes with
  |false=>rw[hf]at hx;cases hx
  |true =>
   rw[hf]at hx
   simp only[cond_true]at hx
   have hf:=rR hf
   have hne:as.isEmpty=false:=by
    cases as with
    |nil=>rw[hy]at hal;simp at hal
    |cons=>rfl
   have hcc:aI Wp (O.es.take len++as) ((es0.take len++ys).map (Ty.enc T)):=by
    rw[List.map_append,List.map_take];exact (o5.take len).append hc
   obtain⟨u1,u2⟩:=jP (ty:=ty) hs hz hcc
   have hl2:(O.es.take len++as).length=len+as.length:=by rw[List.length_append,List.length_take,hlen];omega
   rw[hl2]at u2
   refine⟨(len+as.length)*bytes<=gY/\len+as.length<=4611686018427387904,.row σ.h.length (len+as.length) sz 0 (len+as.length),σ.h++[⟨ty,sz,0,true,O.es.take len++as⟩],?_,⟨by rw[hal];exact hf.1,by rw[hal];exact hf.2⟩,_,.row h.length,[],_,[],u1,VT.of1 u2,fun _ _ q=>by simp at q,fun q=>?_,hx⟩
   ·simp only[step,qH,ha,hav,hO,hlen,hz,o2,o3,and_self,if_true,hne,Bool.false_eq_true,if_false]
   ·simp[I.cls]at q
theorem Og (hc:aW P c) (hs:HS ρ h σ.h) (hrd:∀ o,VT ρ h (rd o) (σ.val (gx c.GX) o)) {d:Bool} {ok:Nat->Bool} {K:XV->List Nat->List XO->Option β} {i:I} {dst:Option Nat} {Q:St->Prop} (hx:xE c d ok h rd K i=some r) (hQ:∀ a H',Aft ρ h σ d ok rd i K r a H'->Q (St.put ⟨σ.t,H'⟩ dst a)):bZ P (gx c.GX) d σ dst Q i:=by
 by_cases hcall:∃ f as,i=.call f as
 ·obtain⟨f,as,rfl⟩:=hcall
  simp only[xE]at hx
  split at hx
  case h_2=>cases hx
  rename_i fi u hfo
  have hfv:σ.val (gx c.GX) f=.v (.func (.func fi) #[] #[]):=by
   have:=hrd f
   rw[hfo]at this
   exact Xa this
  have hv:=wS (xs:=as) hrd
  rcases Lu hs hv c.pis hc.pis hx with ⟨bs,res,v,h',tch,k0,k1,k2,k3,k4,k4',k5,k6,k7⟩|ho
  ·refine .inr ⟨fi,hfv,k0,.inl ⟨bs,res,k1,k2,k3,hQ _ _ ⟨ρ,v,[],h',tch,k4,k5,(fun hm id hid=>List.all_eq_true.1 hm id (k4' id hid)),fun _ hd=>⟨rfl,k3 hd,rfl,k6 hd⟩,k7⟩⟩⟩
  ·cases d with
   |true=>cases ho
   |false =>
    obtain⟨k0,kH⟩:=Lv hs hv c.his hc.his ho
    refine .inr ⟨fi,hfv,k0,.inr ⟨rfl,kH.mono ?_⟩⟩
    rintro res H' ⟨ρ',v,kl,h',tch,u1,u1',u2,u3⟩
    exact hQ _ _ ⟨ρ',v,kl,h',tch,u1,u2,(fun _=>u1'),(fun _ hd=>by cases hd),u3⟩
 ·have hn:∀ f as,i≠.call f as:=fun f as q=>hcall ⟨f,as,q⟩
  rw[qZ hn]
  by_cases happ:∃ ty sz bytes s x id len,i=.app ty sz bytes s x/\rd s=.mD id len
  ·obtain⟨ty,sz,bytes,s,x,id,len,rfl,h1⟩:=happ
   simp only[xE,h1]at hx
   obtain⟨q,a,H',e1,e2,e3⟩:=Ol (d:=d) (ok:=ok) hs hrd h1 hx
   rw[e1]
   exact⟨e2,hQ _ _ e3⟩
  have hx':(match cK c.tt h rd i with
    |some (p,v,kl,h')=>cond p (K v kl.toList (kE kl.toList h')) none
    |none=>none)=some r:=by
   rw[<- hx]
   cases i with
   |call f as=>exact absurd rfl (hn _ _)
   |app ty sz bytes s x =>
    simp only[xE]
    cases h1:rd s with
    |mD id len=>exact absurd ⟨ty,sz,bytes,s,x,id,len,rfl,h1⟩ happ
    |_=>rfl
   |_=>rfl
  split at hx'
  ·rename_i p v kl h' hst
   cases p with
   |false=>cases hx'
   |true =>
    obtain⟨q,a,H',ρ',tch,e1,e2,e3,e4,e5⟩:=wh i hs hrd _ _ _ _ hst rfl
    rw[e1]
    refine⟨e2,hQ _ _ ⟨ρ',v,kl.toList,_,tch,e3,e4,e5 ok,fun hcl _=>?_,hx'⟩⟩
    obtain⟨c1,c2⟩:=wm hcl hst
    subst c1 c2
    exact⟨Ck e3 hs.rl rfl,EH hcl e1,rfl,rfl⟩
  ·cases hx'
end
end Abs
end Go.Proofs.YtgfnhpadmifiiaaDoor
end
section
namespace Go.Proofs.YtgfnhpadmifiiaaDoor
namespace Abs
open Go.RowKit
def SpR (ρ:List Nat) (h:List XO) (σ:St) (sp:Sp):Prop:=∀ q∈sp,(σ.t.getD q.2.1 .any=.v (.bool q.2.2.1)/\VT ρ h q.2.2.2 (σ.t.getD q.1 .any))\/(σ.t.getD q.2.1 .any≠.v (.bool q.2.2.1)/\σ.t.getD q.1 .any=und)
section
variable {P:Program} {c:Cfg} {ρ:List Nat} {X:XS} {H:List ah} {σ:St} {β:Type} {r:β} {sp:Sp}
theorem l6 {h:List XO} {t:List XV} {ts:List AV} (ht:aI (VT ρ h) t ts) (i:Nat):VT ρ h (t.getD i .any) (ts.getD i .any):=by
 rcases Nat.lt_or_ge i ts.length with q|q
 ·exact ht.getD q _ _
 ·have:t[i]?=none:=List.getElem?_eq_none (by rw[ht.1];exact q)
  simp only[List.getD,this,Option.getD_none];trivial
theorem uy (hS:Sim ρ X σ) (o:Opd):VT ρ X.h (rdG c.GX X.t o) (σ.val (gx c.GX) o):=by
 cases o with
 |t i=>exact l6 hS.t i
 |k v=>exact VT.of1 (Dy v)
 |g i =>
  simp only[rdG,St.val,gx]
  by_cases hb:Nat.blt i 1000000=true
  case neg=>rw[if_neg hb];trivial
  rw[if_pos hb,if_pos hb]
  cases c.GX i with
  |none=>trivial
  |some p =>
   obtain⟨T,x⟩:=p
   exact⟨_,rfl,by rw[List.drop_zero];exact aI.rfl' .refl _⟩
theorem rM (hS:Sim ρ X σ) (hsp:SpR ρ X.h σ sp) {ctx:List (Nat×Bool)} (hg:∀ g∈ctx,σ.t.getD g.1 .any=.v (.bool g.2)) (o:Opd):VT ρ X.h (rdC c.GX sp ctx X.t o) (σ.val (gx c.GX) o):=by
 cases o with
 |t i =>
  simp only[rdC]
  split
  ·rename_i q hq
   have hm:=List.mem_of_find?_eq_some hq
   have hp:=List.find?_some hq
   simp only[Bool.and_eq_true,List.any_eq_true]at hp
   obtain⟨e1,g,hgm,hg2⟩:=hp
   have e1:=beq_eq e1
   simp only[Bool.and_eq_true,beq_iff_eq]at hg2
   have e2:=beq_eq hg2.1
   have hgg:=hg g hgm
   rw[e2,hg2.2]at hgg
   rcases hsp q hm with ⟨_,h2⟩|⟨h1,_⟩
   ·rw[e1]at h2;exact h2
   ·exact absurd hgg h1
  ·exact l6 hS.t i
 |k v=>exact uy (c:=c) hS (.k v)
 |g i=>exact uy (c:=c) hS (.g i)
theorem Cm {h:List XO} {t:List XV} {ts:List AV} (ht:aI (VT ρ h) t ts) {u:Nat} {x:XV} (hx:VT ρ h x (ts.getD u .any)):aI (VT ρ h) (t.set u x) ts:=by
 refine⟨by simp[ht.1],fun i y a p q=>?_⟩
 rw[List.getElem?_set]at p
 split at p
 ·rename_i hi
  subst hi
  split at p
  ·cases p
   have:ts.getD u .any=a:=by simp only[List.getD,q,Option.getD_some]
   rw[this]at hx;exact hx
  ·cases p
 ·exact ht.2 i y a p q
theorem Yh {h:List XO} {s:Nat} {v:Bool} (hg:σ.t.getD s .any=.v (.bool v)):∀ (l:Sp) (t:List XV),aI (VT ρ h) t σ.t->(∀ q∈l,(σ.t.getD q.2.1 .any=.v (.bool q.2.2.1)/\VT ρ h q.2.2.2 (σ.t.getD q.1 .any))\/(σ.t.getD q.2.1 .any≠.v (.bool q.2.2.1)/\σ.t.getD q.1 .any=und))->aI (VT ρ h) (l.foldl (fun t q=>if Nat.beq q.2.1 s=true then t.set q.1 (if (q.2.2.1==v)=true then q.2.2.2 else kU) else t) t) σ.t:=by
 intro l
 induction l with
 |nil=>intro t ht _;exact ht
 |cons q l ih =>
  intro t ht hl
  refine ih _ ?_ (fun q' hq'=>hl q' (by simp[hq']))
  dsimp only
  split
  ·rename_i hb
   have hb:=beq_eq hb
   rcases hl q (by simp) with ⟨h1,h2⟩|⟨h1,h2⟩
   ·rw[hb,hg]at h1
    cases h1
    rw[if_pos (by simp)]
    exact Cm ht h2
   ·have hne:¬ (q.2.2.1==v)=true:=fun e=>h1 (by rw[hb,hg];simp only[beq_iff_eq]at e;rw[e])
    rw[if_neg hne]
    refine Cm ht ?_
    rw[h2];exact rfl
  ·exact ht
theorem EN {t:List XV} {ts:List AV} {h:List XO} (ht:aI (VT ρ h) t ts) {s:Nat} {b:Bool} (hb:ts.getD s .any=.v (.bool b)):aI (VT ρ h) (t.set s (.d .bool b)) ts:=Cm ht (by rw[hb];exact Wp.refl _)
theorem uF {s:Nat} {v:Bool} (hS:Sim ρ X σ) (hsp:SpR ρ X.h σ sp) (hg:σ.t.getD s .any=.v (.bool v)):Sim ρ ⟨lN s v sp X.t,X.h⟩ σ/\SpR ρ X.h σ (nW s sp) :=
 ⟨⟨Yh hg sp _ (EN hS.t hg) hsp,hS.h⟩,fun q hq=>hsp q (List.mem_filter.1 hq).1⟩
theorem MZ (kl:List Nat):∀ sp,y7 kl sp=sp.map fun q=>(q.1,q.2.1,q.2.2.1,mM kl q.2.2.2):=by
 induction kl with
 |nil=>intro sp;show sp=_;simp[mM]
 |cons k kl ih =>
  intro sp
  show y7 kl (sp.map _)=_
  rw[ih,List.map_map];rfl
theorem EB {h:List XO} (a:AV):VT ρ h .any a:=trivial
theorem lJ {ρ':List Nat} {h':List XO} {H':List ah} {kl tch:List Nat} {t:List XV} (ht:aI (VT ρ X.h) t σ.t) (hu:Upd ρ X.h H ρ' h' H' kl tch) {v:XV} {a:AV} (hv:VT ρ' h' v a) (dst:Option Nat):Sim ρ' ⟨mh (y8 kl t) dst v,h'⟩ (St.put ⟨σ.t,H'⟩ dst a):=by
 have h1:aI (VT ρ' h') (y8 kl t) σ.t:=by
  rw[CZ]
  exact⟨by simp[ht.1],fun i y b p q=>by
   rw[List.getElem?_map]at p
   cases hy:t[i]? with
   |none=>rw[hy]at p;cases p
   |some z=>rw[hy]at p;cases p;exact hu.tr.T (ht.2 i z b hy q)⟩
 cases dst with
 |none=>exact⟨h1,hu.hs⟩
 |some i=>exact⟨h1.set hv i,hu.hs⟩
theorem zD {σ:St} {H':List ah} {dst:Option Nat} {a:AV} {j:Nat} (hj:dst≠some j):(St.put ⟨σ.t,H'⟩ dst a).t.getD j .any=σ.t.getD j .any:=by
 cases dst with
 |none=>rfl
 |some i =>
  have:i≠j:=fun q=>hj (by rw[q])
  simp only[St.put,List.getD,List.getElem?_set_ne this]
theorem uI {ρ':List Nat} {h':List XO} {H H':List ah} {kl tch:List Nat} (hsp:SpR ρ X.h σ sp) (hu:Upd ρ X.h H ρ' h' H' kl tch) (dst:Option Nat) (a:AV):SpR ρ' h' (St.put ⟨σ.t,H'⟩ dst a) (gD dst (y7 kl sp)):=by
 intro q hq
 have hne:dst≠some q.1/\dst≠some q.2.1/\q∈y7 kl sp:=by
  cases dst with
  |none=>exact⟨by simp,by simp,hq⟩
  |some i =>
   simp only[gD,List.mem_filter,Bool.and_eq_true,Bool.not_eq_true']at hq
   refine⟨fun e=>?_,fun e=>?_,hq.1⟩
   ·cases e;simp at hq
   ·cases e;simp at hq
 rw[zD hne.1,zD hne.2.1]
 have hm:=hne.2.2
 rw[MZ]at hm
 obtain⟨q0,hq0,rfl⟩:=List.mem_map.1 hm
 rcases hsp q0 hq0 with ⟨h1,h2⟩|⟨h1,h2⟩
 ·exact .inl ⟨h1,hu.tr.T h2⟩
 ·exact .inr ⟨h1,h2⟩
def a4a (c:Cfg) (ρ:List Nat) (X:XS) (σ:St) (d:Bool) (ok:Nat->Bool) (ins:Ins) (K:XS->Sp->Option β) (r:β) (τ:St):Prop :=
 ∃ ρ' X' sp',Sim ρ' X' τ/\SpR ρ' X'.h τ sp'/\(∃ kl tch,Upd ρ X.h σ.h ρ' X'.h τ.h kl tch/\(ins.gd=none->leaves ok (rdG c.GX X.t) ins.i=true->∀ id∈tch,ok id=true))/\K X' sp'=some r
theorem xR {σ:St} {H':List ah} {dst:Option Nat} {a:AV}:(St.put ⟨σ.t,H'⟩ dst a).h=H':=by cases dst<;>rfl
theorem Cx {i:I} (h:A9 i=true):i.cls<=1/\∀ f as,i≠.call f as:=by
 cases i<;>simp[A9]at h<;>exact⟨by simp[I.cls],fun f as q=>by cases q⟩
theorem MG {t:Bool} {x y v:XV} {a b:AV} {h:List XO} (hm:mrg t x y=some v) (ha:t=true->VT ρ h x a) (hb:t=false->VT ρ h y b):VT ρ h v (if t=true then a else b):=by
 unfold mrg at hm
 split at hm
 ·rename_i T x T' y
  split at hm
  ·rename_i y' hy
   cases hm
   obtain⟨rfl,rfl⟩:=gH hy
   cases t with
   |true=>exact ha rfl
   |false=>exact hb rfl
  ·cases hm
 ·cases hm
theorem CO {Gl:Nat->Option (List AV)} {σ:St} {s:Nat} {a b:Opd} {t:Bool} (ht:σ.t.getD s .any=.v (.bool t)):step Gl σ (.pick (.t s) a b)=some (True,if t=true then σ.val Gl a else σ.val Gl b,σ.h):=by
 have hts:σ.val Gl (.t s)=.v (.bool t):=ht
 simp only[step,hts]
def ZN (c:Cfg) (ρ:List Nat) (X:XS) (σ:St) (d:Bool) (ok:Nat->Bool) (i:I) (K:XS->Sp->Option β) (r:β) (τ:St):Prop :=
 ∃ ρ' X' sp',Sim ρ' X' τ/\SpR ρ' X'.h τ sp'/\(∃ kl tch,Upd ρ X.h σ.h ρ' X'.h τ.h kl tch/\(leaves ok (rdG c.GX X.t) i=true->∀ id∈tch,ok id=true)/\(i.cls<=1->d=true->ρ'=ρ/\X'.h=X.h/\τ.h=σ.h))/\K X' sp'=some r
theorem zV (hc:aW P c) (hS:Sim ρ X σ) (hsp:SpR ρ X.h σ sp) {d:Bool} {ok:Nat->Bool} {K:XS->Sp->Option β} {Q:St->Prop} {dst:Option Nat} {i:I} (hx:xun c d ok X sp dst K i=some r) (hQ:∀ τ,ZN c ρ X σ d ok i K r τ->Q τ):bZ P (gx c.GX) d σ dst Q i:=by
 by_cases hp:∃ s a b,i=.pick (.t s) a b
 ·obtain⟨s,a,b,rfl⟩:=hp
  simp only[xun,Rb]at hx
  have hvs:=l6 hS.t s
  have go:∀ t:Bool,σ.t.getD s .any=.v (.bool t)->(match (generalizing:=false) mrg t (rdC c.GX sp [(s,true)] X.t a) (rdC c.GX sp [(s,false)] X.t b) with
   |some v=>K ⟨mh X.t dst v,X.h⟩ (gD dst sp)
   |none=>cond t (K ⟨mh (lN s true sp X.t) dst (rdC c.GX sp [(s,true)] X.t a),X.h⟩ (gD dst (nW s sp))) (K ⟨mh (lN s false sp X.t) dst (rdC c.GX sp [(s,false)] X.t b),X.h⟩ (gD dst (nW s sp))))=some r->bZ P (gx c.GX) d σ dst Q (.pick (.t s) a b):=by
   intro t ht hy
   rw[qZ (by intro f as q;cases q),CO ht]
   refine⟨trivial,hQ _ ?_⟩
   have hva:t=true->VT ρ X.h (rdC c.GX sp [(s,true)] X.t a) (σ.val (gx c.GX) a):=fun q=>rM hS hsp (by simp only[List.mem_singleton,forall_eq];rw[ht,q]) a
   have hvb:t=false->VT ρ X.h (rdC c.GX sp [(s,false)] X.t b) (σ.val (gx c.GX) b):=fun q=>rM hS hsp (by simp only[List.mem_singleton,forall_eq];rw[ht,q]) b
   have hu:=Upd.same hS.h
   have fin:∀ (t':List XV) (sp1:Sp) (v:XV),aI (VT ρ X.h) t' σ.t->SpR ρ X.h σ sp1->VT ρ X.h v (if t=true then σ.val (gx c.GX) a else σ.val (gx c.GX) b)->K ⟨mh t' dst v,X.h⟩ (gD dst sp1)=some r->ZN c ρ X σ d ok (.pick (.t s) a b) K r (St.put ⟨σ.t,σ.h⟩ dst (if t=true then σ.val (gx c.GX) a else σ.val (gx c.GX) b)):=by
    intro t' sp1 v ht' hsp1 hv hK
    refine⟨ρ,⟨mh t' dst v,X.h⟩,gD dst sp1,lJ (X:=X) (kl:=[]) ht' hu hv dst,uI (kl:=[]) hsp1 hu dst _,⟨[],[],by rw[xR];exact hu,(fun _ _ q=>by simp at q),fun _ _=>⟨rfl,rfl,xR⟩⟩,hK⟩
   split at hy
   ·rename_i v hm
    exact fin X.t sp v hS.t hsp (MG hm hva hvb) hy
   ·cases t with
    |true=>obtain⟨m1,m2⟩:=uF hS hsp ht;exact fin _ _ _ m1.t m2 (hva rfl) hy
    |false=>obtain⟨m1,m2⟩:=uF hS hsp ht;exact fin _ _ _ m1.t m2 (hvb rfl) hy
  split at hx
  ·rename_i t hcb
   have hcb:X.t.getD s .any=.d .bool t:=hcb
   rw[hcb]at hvs
   exact go t (kI hvs) hx
  ·cases hx
 ·have hx':xE c d ok X.h (rdG c.GX X.t) (fun x kl h'=>K ⟨mh (y8 kl X.t) dst x,h'⟩ (gD dst (y7 kl sp))) i=some r:=by
   rw[<- hx]
   unfold xun
   split
   ·exact absurd ⟨_,_,_,rfl⟩ hp
   ·rfl
  refine Og hc hS.h (uy hS) hx' ?_
  rintro a H' ⟨ρ',v,kl,h',tch,u1,u2,u3,u4,u5⟩
  exact hQ _ ⟨ρ',_,_,lJ hS.t u1 u2 dst,uI hsp u1 dst a,⟨kl,tch,by rw[xR];exact u1,u3,fun p q=>⟨(u4 p q).1,(u4 p q).2.2.2,by rw[xR];exact (u4 p q).2.1⟩⟩,u5⟩
theorem Es {tt:Nat->Option Ty} (hS:Sim ρ X σ) (hsp:SpR ρ X.h σ sp) {s:Nat} {want:Bool} (hg:σ.t.getD s .any=.v (.bool want)) {i:I} (hcl:i.cls<=1) {p:Bool} {v:XV} (hx:zW c.GX tt X.h X.t sp s want i=some (p,v)) (hp:p=true):∃ q a,step (gx c.GX) σ i=some (q,a,σ.h)/\q/\VT ρ X.h v a:=by
  by_cases hpk:∃ s' a b,i=.pick (.t s') a b
  · obtain ⟨s',a,b,rfl⟩:=hpk
    simp only[zW]at hx
    have hv1:=rM (c:=c) hS hsp (ctx:=[(s,want)]) (by simp only[List.mem_singleton,forall_eq];exact hg) (.t s')
    have go:∀ t:Bool,σ.t.getD s' .any=.v (.bool t)->(match (generalizing:=false) mrg t (rdC c.GX sp [(s',true),(s,want)] X.t a) (rdC c.GX sp [(s',false),(s,want)] X.t b) with
      |some v=>some (true,v)
      |none=>none)=some (p,v)->∃ q a',step (gx c.GX) σ (.pick (.t s') a b)=some (q,a',σ.h)/\q/\VT ρ X.h v a':=by
      intro t ht hy
      split at hy
      · rename_i w hm
        cases hy
        refine⟨_,_,CO ht,trivial,?_⟩
        refine MG hm (fun q=>?_) (fun q=>?_)
        · exact rM hS hsp (by simp only[List.mem_cons,List.not_mem_nil,or_false,forall_eq_or_imp,forall_eq];exact⟨by rw[ht,q],hg⟩) a
        · exact rM hS hsp (by simp only[List.mem_cons,List.not_mem_nil,or_false,forall_eq_or_imp,forall_eq];exact⟨by rw[ht,q],hg⟩) b
      · cases hy
    split at hx
    · rename_i t hcb
      rw[hcb]at hv1
      exact go t (kI hv1) hx
    · cases hx
  · have hx' : (match cK tt X.h (rdC c.GX sp [(s, want)] X.t) i with
        |some (p,v,_,_)=>some (p,v)
        |none=>none)=some (p,v):=by
      rw[<- hx]
      cases i with
      | pick c' a b=>cases c' with
        |t s'=>exact absurd ⟨_,_,_,rfl⟩ hpk
        |_=>rfl
      |_=>rfl
    split at hx'
    · rename_i p1 v1 q1 q2 hst
      cases hx'
      obtain⟨q,a,H',ρ2,tch,e1,e2,e3,e4,e5⟩:=wh i hS.h (fun o=>rM hS hsp (by simp only[List.mem_singleton,forall_eq];exact hg) o) _ _ _ _ hst hp
      obtain⟨c1,c2⟩:=wm hcl hst
      subst c1 c2
      have hρ:=Ck e3 hS.h.rl rfl
      have hH:=EH hcl e1
      subst hρ
      rw[hH]at e1
      exact⟨q,a,e1,e2,e4⟩
    · cases hx'
theorem uW {u s:Nat} {want b:Bool} {v:XV} {a:AV} (hsp:SpR ρ X.h σ sp) (hs:HS ρ X.h σ.h) (hul:u<σ.t.length) (hus:u≠s) (hg:σ.t.getD s .any=.v (.bool b)) (hv:(b=want/\VT ρ X.h v a)\/(b≠want/\a=und)):SpR ρ X.h (St.put ⟨σ.t,σ.h⟩ (some u) a) ((u,s,want,v)::gD (some u) sp):=by
 intro q hq
 rcases List.mem_cons.1 hq with rfl|hq
 ·have h1:(St.put ⟨σ.t,σ.h⟩ (some u) a).t.getD u .any=a:=by simp[St.put,List.getD,hul]
  have h2:(St.put ⟨σ.t,σ.h⟩ (some u) a).t.getD s .any=.v (.bool b):=by rw[zD (by simpa using hus)];exact hg
  show ((St.put ⟨σ.t,σ.h⟩ (some u) a).t.getD s .any=.v (.bool want)/\VT ρ X.h v ((St.put ⟨σ.t,σ.h⟩ (some u) a).t.getD u .any))\/((St.put ⟨σ.t,σ.h⟩ (some u) a).t.getD s .any≠.v (.bool want)/\(St.put ⟨σ.t,σ.h⟩ (some u) a).t.getD u .any=und)
  rw[h1,h2]
  rcases hv with ⟨rfl,hv⟩|⟨hb,rfl⟩
  ·exact .inl ⟨rfl,hv⟩
  ·exact .inr ⟨fun q=>by cases q;exact hb rfl,rfl⟩
 ·exact uI (kl:=[]) hsp (Upd.same hs) (some u) a q hq
theorem Bt (hc:aW P c) {d:Bool} {ok:Nat->Bool} {K:XS->Sp->Option β} {ins:Ins}:∀ (n:Nat) (X:XS) (sp:Sp) (Q:St->Prop),Sim ρ X σ->SpR ρ X.h σ sp->qp c d ok n X sp K ins=some r->(∀ τ,a4a c ρ X σ d ok ins K r τ->Q τ)->dz P (gx c.GX) d σ ins Q:=by
 intro n
 induction n with
 |zero=>intro X sp Q _ _ hx;cases hx
 |succ n ih =>
  intro X sp Q hS hsp hx hQ
  obtain⟨dst,gd,i⟩:=ins
  cases gd with
  |none =>
   show bZ P (gx c.GX) d σ dst Q i
   simp only[qp]at hx
   refine zV hc hS hsp hx fun τ hτ=>hQ τ ?_
   obtain⟨ρ',X',sp',a1,a2,⟨kl,tch,a3,a4,_⟩,a5⟩:=hτ
   exact⟨ρ',X',sp',a1,a2,⟨kl,tch,a3,fun _=>a4⟩,a5⟩
  |some g =>
   obtain⟨s,want⟩:=g
   simp only[qp]at hx
   have hvs:=l6 hS.t s
   have hu:=Upd.same hS.h
   have skip:∀ (X1:XS) (sp1:Sp),X1.h=X.h->Sim ρ X1 σ->SpR ρ X1.h σ sp1->K ⟨mh X1.t dst kU,X1.h⟩ (gD dst sp1)=some r->Q (σ.put dst und):=by
    intro X1 sp1 he hS1 hsp1 hK
    have hu1:=Upd.same hS1.h
    refine hQ _ ⟨ρ,⟨mh X1.t dst kU,X1.h⟩,gD dst sp1,lJ (X:=X1) (kl:=[]) hS1.t hu1 (show VT ρ X1.h kU und from rfl) dst,uI (kl:=[]) hsp1 hu1 dst und,⟨[],[],?_,fun q=>by cases q⟩,hK⟩
    have:(σ.put dst und).h=σ.h:=xR (H':=σ.h)
    rw[this]
    show Upd ρ X.h σ.h ρ X1.h σ.h [] []
    rw[he];exact hu
   have a06:∀ b:Bool,σ.t.getD s .any=.v (.bool b)->(match (generalizing:=false) A9 i,dst,zW c.GX c.tt X.h X.t sp s want i with
     |true,some u,some (p,v)=>if (Nat.blt u X.t.length&&!(Nat.beq u s))=true then cond (p||not (bEq b want)) (K ⟨X.t.set u .any,X.h⟩ ((u,s,want,v)::gD (some u) sp)) none else none
     |_,_,_=>cond b (uj c d ok X sp dst s want i K true) (uj c d ok X sp dst s want i K false))=some r->dz P (gx c.GX) d σ ⟨dst,some (s,want),i⟩ Q:=by
    clear hx
    intro b hg hx
    have hstep:dz P (gx c.GX) d σ ⟨dst,some (s,want),i⟩ Q=if b=want then bZ P (gx c.GX) d σ dst Q i else Q (σ.put dst und):=by
     simp only[dz,hg]
    rw[hstep]
    have EI:uj c d ok X sp dst s want i K b=some r->if b=want then bZ P (gx c.GX) d σ dst Q i else Q (σ.put dst und):=by
     intro hy
     obtain⟨m1,m2⟩:=uF hS hsp hg
     unfold uj at hy
     by_cases hw:b=want
     ·rw[if_pos hw]
      rw[if_pos (by rw[hw];simp)]at hy
      refine zV hc m1 m2 hy fun τ hτ=>hQ τ ?_
      obtain⟨ρ',X',sp',a1,a2,⟨kl,tch,a3,a4,_⟩,a5⟩:=hτ
      exact⟨ρ',X',sp',a1,a2,⟨kl,tch,a3,fun q=>by cases q⟩,a5⟩
     ·rw[if_neg hw]
      rw[if_neg (by simpa using hw)]at hy
      exact skip ⟨lN s b sp X.t,X.h⟩ _ rfl m1 m2 hy
    split at hx
    ·rename_i u p v hsi hxs
     split at hx
     case isFalse=>cases hx
     rename_i hub
     simp only[Bool.and_eq_true,Bool.not_eq_true']at hub
     have hul:=ou hub.1
     have hus:u≠s:=fun q=>by subst q;simp at hub
     have FY:u<σ.t.length:=by rw[<- hS.t.1];exact hul
     obtain⟨hcl,G6⟩:=Cx hsi
     cases hpb:(p||not (bEq b want)) with
     |false=>rw[hpb]at hx;cases hx
     |true =>
      rw[hpb]at hx
      have hx:K ⟨X.t.set u .any,X.h⟩ ((u,s,want,v)::gD (some u) sp)=some r:=hx
      by_cases hw:b=want
      ·rw[if_pos hw]
       have hp:p=true:=by
        subst hw
        simpa [bEq]using hpb
       obtain⟨q,a,e1,e2,e4⟩:=Es hS hsp (by rw[hg,hw]) hcl hxs hp
       rw[qZ G6,e1]
       exact⟨e2,hQ _ ⟨ρ,_,_,lJ (X:=X) (kl:=[]) hS.t hu (EB _) (some u),uW hsp hS.h FY hus hg (.inl ⟨hw,e4⟩),⟨[],[],hu,fun q=>by cases q⟩,hx⟩⟩
      ·rw[if_neg hw]
       exact hQ _ ⟨ρ,_,_,lJ (X:=X) (kl:=[]) hS.t hu (EB _) (some u),uW hsp hS.h FY hus hg (.inr ⟨hw,rfl⟩),⟨[],[],hu,fun q=>by cases q⟩,hx⟩
    ·cases b with
     |true=>exact EI hx
     |false=>exact EI hx
   split at hx
   ·rename_i b hb
    rw[hb]at hvs
    exact a06 b (kI hvs) hx
   ·rename_i xs hb
    rw[hb]at hvs
    have hg:=yT hvs
    have hstep:dz P (gx c.GX) d σ ⟨dst,some (s,want),i⟩ Q=Q (σ.put dst und):=by simp only[dz,hg]
    rw[hstep]
    exact skip X sp rfl hS hsp hx
   ·split at hx
    ·rename_i q hq
     have hvq:=l6 hS.t q.2.1
     have go:∀ b:Bool,σ.t.getD q.2.1 .any=.v (.bool b)->cond b (qp c d ok n ⟨lN q.2.1 true sp X.t,X.h⟩ (nW q.2.1 sp) K ⟨dst,some (s,want),i⟩) (qp c d ok n ⟨lN q.2.1 false sp X.t,X.h⟩ (nW q.2.1 sp) K ⟨dst,some (s,want),i⟩)=some r->dz P (gx c.GX) d σ ⟨dst,some (s,want),i⟩ Q:=by
      intro b hb hy
      obtain⟨m1,m2⟩:=uF hS hsp hb
      have hy':qp c d ok n ⟨lN q.2.1 b sp X.t,X.h⟩ (nW q.2.1 sp) K ⟨dst,some (s,want),i⟩=some r:=by cases b<;>exact hy
      refine ih _ _ Q m1 m2 hy' fun τ hτ=>hQ τ ?_
      obtain⟨ρ',X',sp',a1,a2,⟨kl,tch,a3,a4⟩,a5⟩:=hτ
      exact⟨ρ',X',sp',a1,a2,⟨kl,tch,a3,fun q=>by cases q⟩,a5⟩
     split at hx
     ·rename_i b hb
      rw[hb]at hvq
      exact go b (kI hvq) hx
     ·cases hx
    ·cases hx
   ·cases hx
theorem TS (hc:aW P c) {d:Bool} {K:XS->Option β} {H0:List ah} {ρ0:List Nat}:∀ (l:List Ins) (X:XS) (sp:Sp) (ρ:List Nat) (σ:St),Sim ρ X σ->SpR ρ X.h σ sp->Frm H0 ρ0 ρ σ.h->Oe c d K l X sp=some r->rY P (gx c.GX) d (fun τ=>∃ ρ' X',Sim ρ' X' τ/\Frm H0 ρ0 ρ' τ.h/\K X'=some r) l σ:=by
 intro l
 induction l with
 |nil=>intro X sp ρ σ hS _ hF hx;exact⟨ρ,X,hS,hF,hx⟩
 |cons i l ih =>
  intro X sp ρ σ hS hsp hF hx
  refine Bt hc 8 X sp _ hS hsp hx ?_
  rintro τ ⟨ρ',X',sp',s1,s2,⟨kl,tch,u,_⟩,hK⟩
  exact ih X' sp' ρ' τ s1 s2 (hF.upd hS.h.rl u) hK
end
end Abs
end Go.Proofs.YtgfnhpadmifiiaaDoor
end
section
namespace Go.Proofs.YtgfnhpadmifiiaaDoor
namespace Abs
open Go.RowKit
section
variable {P:Program} {c:Cfg} {ρ:List Nat} {X:XS} {h:List XO} {H:List ah} {σ:St} {β:Type} {r:β} {sp:Sp} {m N:Nat} {U:List Nat} {Gl:Nat->Option (List AV)} {rd:Opd->XV}
theorem Xv {v:XV} {a:AV} (hv:V1 ρ h v a) (hp:Ai v=true):bR a=(iI v).map fun id=>ρ.getD id 0:=by
 cases v with
 |d T x =>
  have hw:Wp a (Ty.enc T x):=hv
  have:=(xI hw []).2
  cases a with
  |agg cs=>rfl
  |_=>exact this
 |k y=>have:a=.v y:=hv;subst this;rfl
 |row id=>obtain⟨ty,T,fz,es,he,rfl⟩:=hv;rfl
 |sub id o l=>obtain⟨ty,T,fz,es,he,rfl⟩:=hv;rfl
 |_=>cases hp
theorem Xu {v:XV} {a:AV} (hv:VT ρ h v a) (hp:Fh v=true):aT a=(fC v).map fun id=>ρ.getD id 0:=by
 cases v with
 |agg cs =>
  obtain⟨as,rfl,hl⟩:=hv
  show as.flatMap bR=(cs.flatMap iI).map _
  have hp':cs.all Ai=true:=hp
  clear hp
  induction cs generalizing as with
  |nil=>rw[hl.iy];rfl
  |cons c cs ih =>
   obtain⟨a,as',rfl,h1,h2⟩:=hl.dW
   simp only[List.all_cons,Bool.and_eq_true]at hp'
   rw[List.flatMap_cons,List.flatMap_cons,List.map_append,Xv h1 hp'.1,ih as' h2 hp'.2]
 |d T x=>exact (xI (show Wp a (Ty.enc T x) from hv) []).2
 |k y=>have:a=.v y:=hv;subst this;rfl
 |row id=>obtain⟨ty,T,fz,es,he,rfl⟩:=hv;rfl
 |sub id o l=>obtain⟨ty,T,fz,es,he,rfl⟩:=hv;rfl
 |_=>cases hp
theorem Xt:∀ {vs:List XV} {as:List AV},aI (VT ρ h) vs as->vs.all Fh=true->as.flatMap aT=(vs.flatMap fC).map fun id=>ρ.getD id 0:=by
 intro vs
 induction vs with
 |nil=>intro as hl _;rw[hl.iy];rfl
 |cons v vs ih =>
  intro as hl hp
  obtain⟨a,as',rfl,h1,h2⟩:=hl.dW
  simp only[List.all_cons,Bool.and_eq_true]at hp
  rw[List.flatMap_cons,List.flatMap_cons,List.map_append,Xu h1 hp.1,ih h2 hp.2]
theorem IZ {ok:Nat->Bool} (hrd:∀ o,VT ρ h (rd o) (σ.val Gl o)) {i:I} (hx:BX ok rd i=true):∀ id∈i.ids Gl σ,∃ j,id=ρ.getD j 0/\ok j=true/\j<h.length:=by
 have one:∀ x:Opd,(match rd x with|.ptr id _ _=>ok id|.lp _ _ _=>true|_=>false)=true->∀ id∈(match σ.val Gl x with|.ptr id _ _ _=>[id]|_=>[]),∃ j,id=ρ.getD j 0/\ok j=true/\j<h.length:=by
  intro x hb id hid
  have hv:=hrd x
  split at hb
  ·rename_i j i o hj
   rw[hj]at hv
   obtain⟨ob,he,ha⟩:=hv
   rw[ha]at hid
   simp only[List.mem_singleton]at hid
   exact⟨j,hid,hb,(List.getElem?_eq_some_iff.1 he).1⟩
  ·rename_i T y o hj
   rw[hj]at hv
   obtain⟨cs,ha,_⟩:=hv
   rw[ha]at hid
   cases hid
  ·cases hb
 have two:∀ x:Opd,(match rd x with|.ptr id _ _=>ok id|_=>false)=true->(match rd x with|.ptr id _ _=>ok id|.lp _ _ _=>true|_=>false)=true:=by
  intro x hb
  split at hb
  ·rename_i h1;rw[h1];exact hb
  ·cases hb
 cases i with
 |load sz ag x=>exact one x hx
 |kF b st n x k=>exact one x hx
 |b2s x =>
  intro id hid
  have hv:=hrd x
  simp only[BX]at hx
  simp only[I.ids]at hid
  split at hx
  ·rename_i j hj
   rw[hj]at hv
   obtain⟨ty,T,fz,es,he,ha⟩:=hv
   rw[ha]at hid
   simp only[List.mem_singleton]at hid
   exact⟨j,hid,hx,(List.getElem?_eq_some_iff.1 he).1⟩
  ·rename_i j o l hj
   rw[hj]at hv
   obtain⟨ty,T,fz,es,he,ha⟩:=hv
   rw[ha]at hid
   simp only[List.mem_singleton]at hid
   exact⟨j,hid,hx,(List.getElem?_eq_some_iff.1 he).1⟩
  ·rename_i T y hj
   rw[hj]at hv
   have hw:Wp (σ.val Gl x) (Ty.enc T y):=hv
   split at hid
   ·rename_i q
    rw[q]at hw
    exfalso
    cases T<;>first|(cases hw;done)|(cases y<;>cases hw)
   ·cases hid
  ·rename_i v hj
   rw[hj]at hv
   rw[show σ.val Gl x=.v v from hv]at hid
   cases hid
  ·cases hx
 |aslice b n x lo hi=>exact one x (two x hx)
 |lM kt k z x y =>
  intro id hid
  have hv:=hrd x
  simp only[BX]at hx
  simp only[I.ids]at hid
  split at hx
  ·rename_i j hj
   rw[hj]at hv
   obtain⟨ty,K,V,es,he,ha⟩:=hv
   rw[ha]at hid
   simp only[List.mem_singleton]at hid
   exact⟨j,hid,hx,(List.getElem?_eq_some_iff.1 he).1⟩
  ·cases hx
 |call fo args =>
  simp only[BX,Bool.and_eq_true]at hx
  intro id hid
  simp only[I.ids]at hid
  rw[Xt (wS (xs:=args) hrd) hx.1]at hid
  obtain⟨j,hj,rfl⟩:=List.mem_map.1 hid
  refine⟨j,rfl,List.all_eq_true.1 hx.2 j hj,?_⟩
  obtain⟨v,hv,hjv⟩:=List.mem_flatMap.1 hj
  obtain⟨o,ho,rfl⟩:=List.mem_map.1 hv
  have hV:=hrd o
  have lt1:∀ {v:XV} {a:AV},V1 ρ h v a->∀ j∈iI v,j<h.length:=by
   intro v a hv j hj
   cases v with
   |row id=>obtain⟨ty,T,fz,es,he,_⟩:=hv;simp only[iI,List.mem_singleton]at hj;subst hj;exact (List.getElem?_eq_some_iff.1 he).1
   |sub id o l=>obtain⟨ty,T,fz,es,he,_⟩:=hv;simp only[iI,List.mem_singleton]at hj;subst hj;exact (List.getElem?_eq_some_iff.1 he).1
   |_=>cases hj
  generalize rd o=v at hV hjv
  cases v with
  |agg cs =>
   obtain⟨as,_,hl⟩:=hV
   obtain⟨c',hc',hj'⟩:=List.mem_flatMap.1 hjv
   obtain⟨k,hk⟩:=List.getElem?_of_mem hc'
   obtain⟨b,_,hb⟩:=hl.jh hk
   exact lt1 hb j hj'
  |row id=>exact lt1 (show V1 ρ h (.row id) _ from hV) j hjv
  |sub id o l=>exact lt1 (show V1 ρ h (.sub id o l) _ from hV) j hjv
  |_=>cases hjv
 |_=>intro id hid;cases hid
theorem Y0 {j:Nat} (h:(Nat.blt j m&&!(U.any (Nat.beq j)))=true):j<m/\j∉U:=by
 simp only[Bool.and_eq_true,Bool.not_eq_true']at h
 refine⟨ou h.1,fun q=>?_⟩
 have:U.any (Nat.beq j)=true:=List.any_eq_true.2 ⟨j,q,Nat.beq_refl j⟩
 rw[this]at h;cases h.2
theorem a0P {j:Nat} (h:(Nat.ble m j||U.any (Nat.beq j))=true):m<=j\/j∈U:=by
 simp only[Bool.or_eq_true,List.any_eq_true]at h
 rcases h with q|⟨x,hx,q⟩
 ·exact .inl (Nat.le_of_ble_eq_true q)
 ·have:=beq_eq q;subst this;exact .inr hx
theorem getD_inj (hnd:ρ.Nodup) {i j:Nat} (hi:i<ρ.length) (hj:j<ρ.length) (h:ρ.getD i 0=ρ.getD j 0):i=j:=by
 simp only[List.getD,List.getElem?_eq_getElem hi,List.getElem?_eq_getElem hj,Option.getD_some]at h
 exact (List.getElem_inj hnd).1 h
theorem WY (hc:aW P c) {ok:Nat->Bool} (hS:Sim ρ X σ) (hsp:SpR ρ X.h σ sp) {K:XS->Sp->Option β} {ins:Ins} {Q:St->Prop} (hcl:ins.i.cls<=1) (hx:xrd c ok X sp K ins=some r)
  (hQ:∀ (X':XS) (sp':Sp) (τ:St),Sim ρ X' τ->SpR ρ X'.h τ sp'->X'.h=X.h->τ.h=σ.h->K X' sp'=some r->Q τ):(wants σ ins->∀ id∈ins.i.ids (gx c.GX) σ,∃ j,id=ρ.getD j 0/\ok j=true/\j<X.h.length)/\dz P (gx c.GX) true σ ins Q:=by
 have hu:=Upd.same hS.h
 obtain⟨dst,gd,i⟩:=ins
 cases gd with
 |none =>
  simp only[xrd]at hx
  split at hx
  case isFalse=>cases hx
  rename_i hid
  refine⟨fun _=>IZ (uy hS) hid,?_⟩
  show bZ P (gx c.GX) true σ dst Q i
  refine zV hc hS hsp hx fun τ hτ=>?_
  obtain⟨ρ',X',sp',a1,a2,⟨kl,tch,a3,_,a4⟩,a5⟩:=hτ
  obtain⟨rfl,e1,e2⟩:=a4 hcl rfl
  exact hQ X' sp' τ a1 a2 e1 e2 a5
 |some g =>
  obtain⟨s,want⟩:=g
  simp only[xrd]at hx
  have hvs:=l6 hS.t s
  split at hx
  case h_2=>cases hx
  rename_i b hb
  change Bool at b
  rw[hb]at hvs
  have hg:=kI hvs
  split at hx
  case h_2=>cases hx
  rename_i u p v hsi hxs
  split at hx
  case isFalse=>cases hx
  rename_i hub
  simp only[Bool.and_eq_true,Bool.not_eq_true']at hub
  obtain⟨⟨hu1,hu2⟩,hid⟩:=hub
  have hul:=ou hu1
  have hus:u≠s:=fun q=>by subst q;simp at hu2
  have FY:u<σ.t.length:=by rw[<- hS.t.1];exact hul
  refine⟨fun hw=>IZ (fun o=>rM hS hsp (by simp only[List.mem_singleton,forall_eq];exact hw) o) hid,?_⟩
  have hstep:dz P (gx c.GX) true σ ⟨some u,some (s,want),i⟩ Q=if b=want then bZ P (gx c.GX) true σ (some u) Q i else Q (St.put σ (some u) und):=by
   simp only[dz,hg]
  rw[hstep]
  cases hpb:(p||not (bEq b want)) with
  |false=>rw[hpb]at hx;cases hx
  |true =>
   rw[hpb]at hx
   have hx:K ⟨X.t.set u .any,X.h⟩ ((u,s,want,v)::gD (some u) sp)=some r:=hx
   obtain⟨_,G6⟩:=Cx hsi
   have hany:∀ a,Sim ρ ⟨X.t.set u .any,X.h⟩ (St.put ⟨σ.t,σ.h⟩ (some u) a):=fun a=>lJ (X:=X) (kl:=[]) hS.t hu (EB a) (some u)
   by_cases hw:b=want
   ·rw[if_pos hw]
    have hp:p=true:=by
     subst hw
     simpa [bEq]using hpb
    obtain⟨q,a,e1,e2,e4⟩:=Es hS hsp (by rw[hg,hw]) hcl hxs hp
    rw[qZ G6,e1]
    exact⟨e2,hQ _ _ (St.put ⟨σ.t,σ.h⟩ (some u) a) (hany a) (uW hsp hS.h FY hus hg (.inl ⟨hw,e4⟩)) rfl rfl hx⟩
   ·rw[if_neg hw]
    exact hQ _ _ (St.put ⟨σ.t,σ.h⟩ (some u) und) (hany und) (uW hsp hS.h FY hus hg (.inr ⟨hw,rfl⟩)) rfl rfl hx
theorem Od (hc:aW P c) {K:XS->Option β} {H0:List ah} {ρ0:List Nat} {V:List Nat}:∀ (l:List (Nat × Ins)) (X:XS) (sp:Sp) (ρ:List Nat) (σ:St),Sim ρ X σ->SpR ρ X.h σ sp->Frm H0 ρ0 ρ σ.h->(∀ i,i < m->i < ρ.length->ρ.getD i 0 < N/\(ρ.getD i 0 ∈ V ↔ i ∈ U))->(∀ i,m<=i->i < ρ.length->N<=ρ.getD i 0)->N<=σ.h.length->m<=X.h.length ->
  kR c m U K l X sp=some r->dO P (gx c.GX) N V (fun τ=>∃ ρ' X',Sim ρ' X' τ/\Frm H0 ρ0 ρ' τ.h/\K X'=some r) l σ:=by
 intro l
 induction l with
 |nil=>intro X sp ρ σ hS _ hF _ _ _ _ hx;exact⟨ρ,X,hS,hF,hx⟩
 |cons p l ih =>
  intro X sp ρ σ hS hsp hF hA hB hN hM hx
  obtain⟨mk,i⟩:=p
  have next:∀ (ρ':List Nat) (X':XS) (sp':Sp) (τ:St) (kl tch:List Nat),Sim ρ' X' τ->SpR ρ' X'.h τ sp'->Upd ρ X.h σ.h ρ' X'.h τ.h kl tch->kR c m U K l X' sp'=some r->dO P (gx c.GX) N V (fun τ=>∃ ρ' X',Sim ρ' X' τ/\Frm H0 ρ0 ρ' τ.h/\K X'=some r) l τ:=by
   intro ρ' X' sp' τ kl tch s1 s2 u hK
   obtain⟨n,e,q⟩:=u.ap
   have hml:m<=ρ.length:=by rw[hS.h.rl];exact hM
   refine ih X' sp' ρ' τ s1 s2 (hF.upd hS.h.rl u) (fun j hj hj'=>?_) (fun j hj hj'=>?_) (Nat.le_trans hN u.ge) (Nat.le_trans hM u.hl) hK
   ·rw[e,iC (by omega)];exact hA j hj (by omega)
   ·rcases Nat.lt_or_ge j ρ.length with hl|hl
    ·rw[e,iC hl];exact hB j hj hl
    ·rw[e]at hj' ⊢
     simp only[List.length_append]at hj'
     have:(ρ++n).getD j 0=n[j-ρ.length]'(by omega):=by
      simp only[List.getD]
      rw[List.getElem?_append_right hl,List.getElem?_eq_getElem (by omega)];rfl
     rw[this]
     exact Nat.le_trans hN (q _ (List.getElem_mem _))
  match mk with
  |0 =>
   simp only[kR]at hx
   refine Bt hc 8 X sp _ hS hsp hx ?_
   rintro τ ⟨ρ',X',sp',s1,s2,⟨kl,tch,u,_⟩,hK⟩
   exact next ρ' X' sp' τ kl tch s1 s2 u hK
  |1 =>
   simp only[kR]at hx
   split at hx
   case isFalse=>cases hx
   rename_i hcl
   obtain⟨k1,k2⟩:=WY (Q:=dO P (gx c.GX) N V (fun τ=>∃ ρ' X',Sim ρ' X' τ/\Frm H0 ρ0 ρ' τ.h/\K X'=some r) l) hc hS hsp (Nat.le_of_ble_eq_true hcl) hx (fun X' sp' τ s1 s2 he hh hK=>ih X' sp' ρ τ s1 s2 (by rw[hh];exact hF) hA hB (by rw[hh];exact hN) (by rw[he];exact hM) hK)
   refine⟨fun hw id hid=>?_,k2⟩
   obtain⟨j,rfl,hok,hj⟩:=k1 hw id hid
   obtain⟨o1,o2⟩:=Y0 hok
   have:=hA j o1 (by rw[hS.h.rl];exact hj)
   exact⟨this.1,fun q=>o2 (this.2.1 q)⟩
  |k+2 =>
   show dz P (gx c.GX) false σ i (fun ρ=>agree N V σ.h ρ.h/\dO P (gx c.GX) N V _ l ρ)
   have fin:∀ (ρ':List Nat) (X':XS) (sp':Sp) (τ:St) (kl tch:List Nat),Sim ρ' X' τ->SpR ρ' X'.h τ sp'->Upd ρ X.h σ.h ρ' X'.h τ.h kl tch->(∀ id∈tch,(Nat.ble m id||U.any (Nat.beq id))=true)->kR c m U K l X' sp'=some r->agree N V σ.h τ.h/\dO P (gx c.GX) N V (fun τ=>∃ ρ' X',Sim ρ' X' τ/\Frm H0 ρ0 ρ' τ.h/\K X'=some r) l τ:=by
    intro ρ' X' sp' τ kl tch s1 s2 u hlv hK
    refine⟨?_,next ρ' X' sp' τ kl tch s1 s2 u hK⟩
    intro j hj hjV
    refine u.fr j (by omega) (fun id hid hil q=>?_)
    have Qi:id<ρ.length:=by rw[hS.h.rl];exact hil
    rcases a0P (hlv id hid) with r1|r1
    ·have:=hB id r1 Qi;omega
    ·rcases Nat.lt_or_ge id m with r2|r2
     ·exact hjV (q▸(hA id r2 Qi).2.2 r1)
     ·have:=hB id r2 Qi;omega
   obtain⟨dst,gd,ii⟩:=i
   cases gd with
   |none =>
    have hx:(if leaves (fun id=>Nat.ble m id||U.any (Nat.beq id)) (rdG c.GX X.t) ii=true then qp c false (fun id=>Nat.ble m id||U.any (Nat.beq id)) 8 X sp (fun X' sp'=>kR c m U K l X' sp') ⟨dst,none,ii⟩ else none)=some r:=hx
    split at hx
    case isFalse=>cases hx
    rename_i hb
    refine Bt hc 8 X sp _ hS hsp hx ?_
    rintro τ ⟨ρ',X',sp',s1,s2,⟨kl,tch,u,hlv⟩,hK⟩
    exact fin ρ' X' sp' τ kl tch s1 s2 u (hlv rfl hb) hK
   |some g =>
    obtain⟨s,want⟩:=g
    have hx:(match X.t.getD s .any with
     |.d .bool b=>cond b (xwr c (fun id=>Nat.ble m id||U.any (Nat.beq id)) X sp dst s want ii (fun X' sp'=>kR c m U K l X' sp') true) (xwr c (fun id=>Nat.ble m id||U.any (Nat.beq id)) X sp dst s want ii (fun X' sp'=>kR c m U K l X' sp') false)
     |_=>none)=some r:=hx
    have hvs:=l6 hS.t s
    split at hx
    case h_2=>cases hx
    rename_i b hb
    change Bool at b
    rw[hb]at hvs
    have hg:=kI hvs
    have hw:xwr c (fun id=>Nat.ble m id||U.any (Nat.beq id)) X sp dst s want ii (fun X' sp'=>kR c m U K l X' sp') b=some r:=by
     cases b<;>exact hx
    obtain⟨m1,m2⟩:=uF hS hsp hg
    have hstep:∀ Q,dz P (gx c.GX) false σ ⟨dst,some (s,want),ii⟩ Q=if b=want then bZ P (gx c.GX) false σ dst Q ii else Q (σ.put dst und):=by
     intro Q;simp only[dz,hg]
    rw[hstep]
    unfold xwr at hw
    by_cases hbw:b=want
    ·rw[if_pos hbw]
     rw[if_pos (by rw[hbw];simp)]at hw
     split at hw
     case isFalse=>cases hw
     rename_i hlv
     refine zV hc m1 m2 hw fun τ hτ=>?_
     obtain⟨ρ',X',sp',a1,a2,⟨kl,tch,a3,a4,_⟩,a5⟩:=hτ
     exact fin ρ' X' sp' τ kl tch a1 a2 a3 (a4 hlv) a5
    ·rw[if_neg hbw]
     rw[if_neg (by simpa using hbw)]at hw
     have hu1:=Upd.same m1.h
     refine fin ρ _ _ _ [] [] (lJ (X:=⟨lN s b sp X.t,X.h⟩) (kl:=[]) m1.t hu1 (show VT ρ X.h kU und from rfl) dst) (uI (kl:=[]) m2 hu1 dst und) ?_ (fun id q=>by simp at q) hw
     have:(σ.put dst und).h=σ.h:=xR (H':=σ.h)
     show Upd ρ X.h σ.h ρ X.h (σ.put dst und).h [] []
     rw[this];exact Upd.same hS.h
end
end Abs
end Go.Proofs.YtgfnhpadmifiiaaDoor
end
section
namespace Go.Proofs.YtgfnhpadmifiiaaDoor
namespace Abs
open Go.RowKit
section
variable {Gl:Nat->Option (List AV)} {F:Addr->Option Value} {own own':List Ent} {B:Nat} {w0:W0} {σ:St} {act:Act} {w:World}
def Okc (F:Addr->Option Value) (own own':List Ent) (a:AV):Prop:=∀ v,R F own v a->R F own' v a
def Cl (n:Nat) (a:AV):Prop:=∀ (F:Addr->Option Value) (own own':List Ent),(∀ i,i<n->own'[i]?=own[i]?)->Okc F own own' a
theorem a19 {x:Value} {a:AV} (h:RP F x a) (n:Nat):Cl n a:=by
 induction h with
 |any x=>exact fun _ _ _ _ v _=>.pure (.any v)
 |v x=>exact fun F own own' _ v h=>by rw[h.aS];exact .pure (.v _)
 |nil sz=>exact fun F own own' _ v h=>.pure h.fM
 |list ad n cap sz xs cv hn hc hz hF hR ih=>exact fun F own own' _ v h=>.pure h.fM
 |fQ ad cs cv hF hR ih=>exact fun F own own' _ v h=>.pure h.kg
 |agg xs cs hl h1 hR ih =>
  intro F own own' hw v h
  obtain⟨ys,rfl,hl',h1',hR'⟩:=h.dD
  refine .agg ys cs hl' h1' fun j y a p q=>?_
  have hj:j<xs.size:=by rw[hl];exact (List.getElem?_eq_some_iff.1 q).1
  exact ih j _ a (Array.getElem?_eq_getElem hj) q F own own' hw y (hR' j y a p q)
 |tup xs cs hl hR ih =>
  intro F own own' hw v h
  obtain⟨ys,rfl,hl',hR'⟩:=h.nI
  refine .tup ys cs hl' fun j y a p q=>?_
  have hj:j<xs.size:=by rw[hl];exact (List.getElem?_eq_some_iff.1 q).1
  exact ih j _ a (Array.getElem?_eq_getElem hj) q F own own' hw y (hR' j y a p q)
theorem xU {id G sz off len:Nat} (h:own'[id]?=own[id]?):Okc F own own' (.row id G sz off len):=fun v hv=>by
 obtain⟨e,he,hG,hs,hx⟩:=hv.iB
 exact .row _ _ _ _ _ _ e (by rw[h];exact he) hG hs hx (hv.jl he)
theorem Fx {id G sz len:Nat} (h:own'[id]?=own[id]?):Okc F own own' (.jN id G sz len):=fun v hv=>by
 obtain⟨e,he,hG,hs,hx⟩:=hv.zL
 exact .jN _ _ _ _ _ e (by rw[h];exact he) hG hs hx (hv.lg he)
theorem BI {id G i off:Nat} (h:own'[id]?=own[id]?):Okc F own own' (.ptr id G i off):=fun v hv=>by
 obtain⟨e,he,hG,hs,hx⟩:=hv.jE
 exact .ptr _ _ _ _ _ e (by rw[h];exact he) hG hs hx (hv.iT he)
theorem Ml {id:Nat} (h:own'[id]?=own[id]?):Okc F own own' (.mp id):=fun v hv=>by
 obtain⟨e,he,h0,hx⟩:=hv.uE
 exact .mp _ _ e (by rw[h];exact he) h0 hx
theorem a3R {n:Nat} {x:Value} {a:AV} (h:R F own x a) (hn:own.length<=n):Cl n a:=by
 have lt:∀ {id:Nat} {e:Ent},own[id]?=some e->id<n:=fun q=>Nat.lt_of_lt_of_le (List.getElem?_eq_some_iff.1 q).1 hn
 induction h with
 |pure h=>exact a19 h n
 |mp x id e he h0 hx=>exact fun F own own' hw=>Ml (hw id (lt he))
 |row x id G sz off len e he hG hs hx hz=>exact fun F own own' hw=>xU (hw id (lt he))
 |jN x id G sz len e he hG hs hx hz=>exact fun F own own' hw=>Fx (hw id (lt he))
 |ptr x id G i off e he hG hs hx hz=>exact fun F own own' hw=>BI (hw id (lt he))
 |clo f xs cs hl hR ih =>
  intro F own own' hw v h
  obtain⟨ys,rfl,hl',hR'⟩:=h.uK
  refine .clo f ys cs hl' fun j y a p q=>?_
  have hj:j<xs.size:=by rw[hl];exact (List.getElem?_eq_some_iff.1 q).1
  exact ih j _ a (Array.getElem?_eq_getElem hj) q F own own' hw y (hR' j y a p q)
 |agg xs cs hl h1 hR ih =>
  intro F own own' hw v h
  obtain⟨ys,rfl,hl',h1',hR'⟩:=h.dD
  refine .agg ys cs hl' h1' fun j y a p q=>?_
  have hj:j<xs.size:=by rw[hl];exact (List.getElem?_eq_some_iff.1 q).1
  exact ih j _ a (Array.getElem?_eq_getElem hj) q F own own' hw y (hR' j y a p q)
 |tup xs cs hl hR ih =>
  intro F own own' hw v h
  obtain⟨ys,rfl,hl',hR'⟩:=h.nI
  refine .tup ys cs hl' fun j y a p q=>?_
  have hj:j<xs.size:=by rw[hl];exact (List.getElem?_eq_some_iff.1 q).1
  exact ih j _ a (Array.getElem?_eq_getElem hj) q F own own' hw y (hR' j y a p q)
def ClH (n:Nat) (H:List ah):Prop:=∀ (j:Nat) (O:ah),H[j]?=some O->O.pr=false->∀ (i k:Nat) (e a:AV),O.es[i]?=some e->e.cells[k]?=some a->Cl n a
theorem Inv.clH (h:Inv Gl F own B w0 σ act w):ClH σ.h.length σ.h:=by
 intro j O hO hpr i k e a hi hk
 obtain⟨en,hen,hOr⟩:=h.xV hO
 rcases hOr with ⟨_,k1,k2,k3,k4,k5,k6,k7,k8⟩|⟨_,_,m2,_⟩
 case inr=>rw[hpr]at m2;cases m2
 cases hg:en.g with
 |none =>
  rw[hg]at k8
  have:O.es.length=0:=by have k8:en.cap=0:=k8;omega
  have:=(List.getElem?_eq_some_iff.1 hi).1
  omega
 |some g =>
  rw[hg]at k8
  obtain⟨cs,a1,a2,a3,a4⟩:=k8
  obtain⟨y,b1,b2,b3⟩:=a3 i k e a hi hk
  unfold RC at b3
  rw[if_neg (by rw[hpr];simp)]at b3
  exact a3R b3 (Nat.le_of_eq h.hl)
open Classical in
noncomputable def off1 (F:Addr->Option Value) (own own':List Ent) (a:AV):AV:=if Okc F own own' a then a else .any
noncomputable def jZ (F:Addr->Option Value) (own own':List Ent):AV->AV
 |.agg cs=>.agg (cs.map (off1 F own own'))
 |a=>off1 F own own' a
noncomputable def wO (F:Addr->Option Value) (own own':List Ent):AV->AV
 |.tup vs=>.tup (vs.map (jZ F own own'))
 |a=>jZ F own own' a
noncomputable def kM (F:Addr->Option Value) (own own':List Ent) (o:ah):ah:=if o.pr=true then o else { o with es:=o.es.map (jZ F own own') }
theorem BJ {a:AV} (h:Okc F own own' a):off1 F own own' a=a:=by unfold off1;rw[if_pos h]
theorem Iz (a:AV):off1 F own own' a=a\/off1 F own own' a=.any:=by
 unfold off1;split
 ·exact .inl rfl
 ·exact .inr rfl
theorem R.off1 {x:Value} {a:AV} (h:R F own x a):R F own' x (off1 F own own' a):=by
 unfold Abs.off1
 split
 ·rename_i hk;exact hk x h
 ·exact .pure (.any x)
theorem q9 {a:AV} (h:∀ cs,a≠.agg cs):jZ F own own' a=Abs.off1 F own own' a:=by
 cases a<;>first|rfl|exact absurd rfl (h _)
theorem CU {a:AV} (h:∀ cs,a≠.tup cs):wO F own own' a=jZ F own own' a:=by
 cases a<;>first|rfl|exact absurd rfl (h _)
theorem R.jZ {x:Value} {a:AV} (h:R F own x a):R F own' x (jZ F own own' a):=by
 by_cases ha:∃ cs,a=.agg cs
 ·obtain⟨cs,rfl⟩:=ha
  obtain⟨xs,rfl,hl,h1,hR⟩:=h.dD
  refine .agg xs _ (by simp[hl]) h1 fun j x a p q=>?_
  rw[List.getElem?_map]at q
  cases hc:cs[j]? with
  |none=>rw[hc]at q;cases q
  |some c=>rw[hc]at q;cases q;exact (hR j x c p hc).off1
 ·rw[q9 fun cs q=>ha ⟨cs,q⟩];exact h.off1
theorem R.wO {x:Value} {a:AV} (h:R F own x a):R F own' x (wO F own own' a):=by
 by_cases ha:∃ cs,a=.tup cs
 ·obtain⟨cs,rfl⟩:=ha
  obtain⟨xs,rfl,hl,hR⟩:=h.nI
  refine .tup xs _ (by simp[hl]) fun j x a p q=>?_
  rw[List.getElem?_map]at q
  cases hc:cs[j]? with
  |none=>rw[hc]at q;cases q
  |some c=>rw[hc]at q;cases q;exact (hR j x c p hc).jZ
 ·rw[CU fun cs q=>ha ⟨cs,q⟩];exact h.jZ
theorem vC (a:AV):(jZ F own own' a).cells=a.cells.map (off1 F own own'):=by
 by_cases ha:∃ cs,a=.agg cs
 ·obtain⟨cs,rfl⟩:=ha;rfl
 ·rw[q9 fun cs q=>ha ⟨cs,q⟩]
  have hc:a.cells=[a]:=by cases a<;>first|rfl|exact absurd ⟨_,rfl⟩ ha
  rw[hc]
  rcases Iz (F:=F) (own:=own) (own':=own') a with q|q
  ·rw[q,hc];simp[q]
  ·rw[q];simp[q,AV.cells]
theorem Inv.off (h:Inv Gl F own B w0 σ act w) {k:Nat} {e e':Ent} {ob':ah} (he:own[k]?=some e) (hN:w0.N<=k) (hg:e'.g=e.g) (hO':jB F (own.set k e') w e' ob') :
  Inv Gl F (own.set k e') B w0 ⟨σ.t.map (wO F own (own.set k e')),(σ.h.map (kM F own (own.set k e'))).set k ob'⟩ act w:=by
 have hk:k<own.length:=(List.getElem?_eq_some_iff.1 he).1
 have hk':k<σ.h.length:=by rw[<- h.hl];exact hk
 have get:∀ {id:Nat} {f:Ent},(own.set k e')[id]?=some f->(id=k/\f=e')\/(id≠k/\own[id]?=some f):=fun {id f} q=>by
  by_cases hi:k=id
  ·subst hi;rw[List.getElem?_set_self hk]at q;cases q;exact .inl ⟨rfl,rfl⟩
  ·rw[List.getElem?_set_ne hi]at q;exact .inr ⟨fun q=>hi q.symm,q⟩
 have KH:∀ {id:Nat} {f:Ent},(own.set k e')[id]?=some f->∃ f0,own[id]?=some f0/\f0.g=f.g:=fun {id f} q=>by
  rcases get q with ⟨rfl,rfl⟩|⟨_,q⟩
  ·exact⟨e,he,hg.symm⟩
  ·exact⟨f,q,rfl⟩
 refine { tl:=by simp[h.tl],tr:=fun i x a p q=>?_,defers:=h.defers,sub:=h.sub,hl:=by simp[h.hl],objs:=fun id f o p q=>?_,inj:=fun i j f f' g p q r s=>?_,below:=h.below,base:=fun id f g p q=>?_,gl:=h.gl,gw:=h.gw,room:=h.room,ext:=h.ext,iN:=h.iN,nl:=by have:=h.nl;simpa using this,fr:=fun q hq=>?_,pd:=xD.turn h.pd (fun _ _ _=>rfl) (fun _ _ _ q=>.inl q) (fun id f g p q=>by obtain⟨f0,q1,q2⟩:=KH p;exact .inl fun r=>r id f0 q1 (q2.trans q)) }
 ·have q:(σ.t.map (Abs.wO F own (own.set k e')))[i]?=some a:=q
  rw[List.getElem?_map]at q
  cases hc:σ.t[i]? with
  |none=>rw[hc]at q;cases q
  |some c=>rw[hc]at q;cases q;exact (h.tr i x c p hc).wO
 ·have q:((σ.h.map (kM F own (own.set k e'))).set k ob')[id]?=some o:=q
  rcases get p with ⟨rfl,rfl⟩|⟨hid,hf⟩
  ·rw[List.getElem?_set_self (by simpa using hk')]at q
   cases q
   exact hO'
  ·rw[List.getElem?_set_ne (fun q=>hid q.symm),List.getElem?_map]at q
   cases ho:σ.h[id]? with
   |none=>rw[ho]at q;cases q
   |some O =>
    rw[ho]at q;cases q
    rcases h.objs id f O hf ho with ⟨k0,k1,k2,k3,k4,k5,k6,k7,k8⟩|hm
    case inr =>
     have:kM F own (own.set k e') O=O:=by simp[kM,hm.2.2.1]
     rw[this]
     exact .inr hm
    by_cases hpr:O.pr=true
    ·have:kM F own (own.set k e') O=O:=by simp[kM,hpr]
     rw[this]
     refine .inl ⟨k0,k1,k2,k3,k4,k5,k6,k7,?_⟩
     cases hg:f.g with
     |none=>rw[hg]at k8;exact k8
     |some g =>
      rw[hg]at k8
      obtain⟨cs,a1,a2,a3,a4⟩:=k8
      refine⟨cs,a1,a2,fun i j x a r s=>?_,a4⟩
      obtain⟨y,b1,b2,b3⟩:=a3 i j x a r s
      refine⟨y,b1,b2,?_⟩
      unfold RC at b3 ⊢
      rw[if_pos hpr]at b3 ⊢
      exact b3
    ·have e1:kM F own (own.set k e') O={ O with es:=O.es.map (Abs.jZ F own (own.set k e')) }:=by simp[kM,hpr]
     rw[e1]
     have el:∀ (i:Nat) (x:AV),(O.es.map (Abs.jZ F own (own.set k e')))[i]?=some x->∃ z,O.es[i]?=some z/\x=Abs.jZ F own (own.set k e') z:=fun i x q=>by
      rw[List.getElem?_map]at q
      cases hz:O.es[i]? with
      |none=>rw[hz]at q;cases q
      |some z=>rw[hz]at q;cases q;exact⟨z,rfl,rfl⟩
     refine .inl ⟨k0,by simp[k1],k2,k3,k4,⟨k5.1,by simpa using k5.2⟩,by simpa using k6,fun i x q=>?_,?_⟩
     ·obtain⟨z,hz,rfl⟩:=el i x q
      rw[vC,List.length_map];exact k7 i z hz
     ·cases hg:f.g with
      |none=>rw[hg]at k8;exact k8
      |some g =>
       rw[hg]at k8
       obtain⟨cs,a1,a2,a3,a4⟩:=k8
       obtain⟨fr,a1,af⟩:=a1
       refine⟨cs,⟨fr,a1,by rw[List.length_map];exact af⟩,a2,fun i j x a r s=>?_,a4⟩
       obtain⟨z,hz,rfl⟩:=el i x r
       rw[vC,List.getElem?_map]at s
       cases hc:z.cells[j]? with
       |none=>rw[hc]at s;cases s
       |some c =>
        rw[hc]at s;cases s
        obtain⟨y,b1,b2,b3⟩:=a3 i j z c hz hc
        refine⟨y,b1,b2,?_⟩
        unfold RC at b3 ⊢
        rw[if_neg hpr]at b3 ⊢
        exact b3.off1
 ·obtain⟨f0,q1,q2⟩:=KH p
  obtain⟨f1,q3,q4⟩:=KH q
  exact h.inj i j f0 f1 g q1 q3 (by rw[q2];exact r) (by rw[q4];exact s)
 ·obtain⟨f0,q1,q2⟩:=KH p
  exact h.base id f0 g q1 (by rw[q2];exact q)
 ·have:(own.set k e').take q.1=own.take q.1:=by
   apply List.ext_getElem?
   intro j
   rw[List.getElem?_take,List.getElem?_take]
   split
   ·rename_i hj
    have:=w0.hfr q hq
    rw[List.getElem?_set_ne (by omega)]
   ·rfl
  rw[this];exact h.fr q hq
theorem Inv.cut (h:Inv Gl F own B w0 σ act w) {k s len:Nat} {ob:ah} {sz:Nat} (hob:σ.h[k]?=some ob) (hpr:ob.pr=true) (hfz:ob.fz=0) (hN:w0.N<=k) (hs:σ.t[s]?=some (.row k ob.es.length sz 0 len)) :
  ∃ e',len<=ob.es.length/\Inv Gl F (own.set k e') B w0 ⟨(σ.t.map (wO F own (own.set k e'))).set s (.row k len sz 0 len),(σ.h.map (kM F own (own.set k e'))).set k { ob with es:=ob.es.take len }⟩ act w:=by
 obtain⟨e,he,hOr⟩:=h.xV hob
 have hk:k<own.length:=(List.getElem?_eq_some_iff.1 he).1
 have hlt:s<act.tmps.size:=by rw[h.tl];exact (List.getElem?_eq_some_iff.1 hs).1
 have hR:=h.tr s _ _ (Array.getElem?_eq_getElem hlt) hs
 obtain⟨k1,k2,k3,k4,k5,k6,k7,k8⟩:=hOr.oQ (hR.jl he)
 obtain⟨e2,he2,hG,hsl,hx⟩:=hR.iB
 rw[he]at he2
 cases he2
 obtain⟨x1,x2,x3⟩:=hx k1.symm
 obtain⟨cp,c1,c2⟩:=x3 (.inr rfl)
 have hle:len<=ob.es.length:=by omega
 have hO':jB F (own.set k { e with G:=len }) w { e with G:=len } { ob with es:=ob.es.take len }:=by
  refine ji.r ⟨by simp[hle],k2,k3,by show len<=e.cap;omega,⟨k5.1,fun q=>by have q:ob.pr=false:=q;rw[hpr]at q;cases q⟩,by show ob.fz<=_;omega,fun i x q=>?_,?_⟩
  ·have q:(ob.es.take len)[i]?=some x:=q
   rw[List.getElem?_take]at q
   split at q
   ·exact k7 i x q
   ·cases q
  ·show match e.g with
    |none=>e.cap=0
    |some g=>_
   cases hg:e.g with
   |none=>rw[hg]at k8;exact k8
   |some g =>
    rw[hg]at k8
    obtain⟨cs,a1,a2,a3,a4⟩:=k8
    obtain⟨fr,a1,af⟩:=a1
    refine⟨cs,⟨fr,a1,af.imp id (fun q=>by exfalso;omega)⟩,a2,fun i j x a r s=>?_,a4⟩
    have r:(ob.es.take len)[i]?=some x:=r
    rw[List.getElem?_take]at r
    split at r
    ·obtain⟨y,b1,b2,b3⟩:=a3 i j x a r s
     refine⟨y,b1,b2,?_⟩
     unfold RC at b3 ⊢
     rw[if_pos hpr]at b3
     rw[if_pos (show ({ ob with es:=ob.es.take len }:ah).pr=true from hpr)]
     exact b3
    ·cases r
 refine⟨{ e with G:=len },hle,?_⟩
 have hI:=h.off (e':={ e with G:=len }) he hN rfl hO'
 have hrow:R F (own.set k { e with G:=len }) act.tmps[s] (.row k len sz 0 len) :=
  .row _ _ _ _ _ _ { e with G:=len } (by rw[List.getElem?_set_self hk]) (Nat.le_refl _) hsl (fun _=>⟨x1,by omega,fun _=>⟨cp,c1,c2⟩⟩) (by show 0<e.sz;rw[k2];exact k3)
 have:=hI.put hrow (some s)
 have e1:act.put (some s) act.tmps[s]=act:=by
  have hs:act.tmps.setIfInBounds s act.tmps[s]=act.tmps:=by
   apply Array.ext_getElem?
   intro j
   rw[Array.getElem?_setIfInBounds]
   split
   ·rename_i hj
    subst hj
    rw[Array.getElem?_eq_getElem hlt]
   ·rfl
  show ({ act with tmps:=act.tmps.setIfInBounds s act.tmps[s] }:Act)=act
  rw[hs]
 rw[e1]at this
 exact this
def wE (e:AV) (o:Nat) (a:AV):AV:=match e with
 |.agg us=>.agg (us.set o a)
 |_=>a
theorem Ac {e a b:AV} {o:Nat} (ha:a.cells=[a]) (ho:e.cells[o]?=some b):(wE e o a).cells=e.cells.set o a:=by
 by_cases h:∃ us,e=.agg us
 ·obtain⟨us,rfl⟩:=h;rfl
 ·have hc:e.cells=[e]:=by cases e<;>first|rfl|exact absurd ⟨_,rfl⟩ h
  have hs:wE e o a=a:=by cases e<;>first|rfl|exact absurd ⟨_,rfl⟩ h
  rw[hc]at ho ⊢
  have:o=0:=by
   have:=(List.getElem?_eq_some_iff.1 ho).1
   simp at this;exact this
  subst this
  rw[hs,ha];rfl
theorem Inv.Jk (h:Inv Gl F own B w0 σ act w) {k o:Nat} {ob:ah} {e0 a':AV} {v:Value} (hob:σ.h[k]?=some ob) (hes:ob.es=[e0]) (hpr:ob.pr=false) (ho:e0.cells[o]?=some (.v v)) (ha:R F own v a') (hac:a'.cells=[a']) :
  Inv Gl F own B w0 ⟨σ.t,σ.h.set k { ob with es:=[wE e0 o a'] }⟩ act w:=by
 have hk:k<σ.h.length:=(List.getElem?_eq_some_iff.1 hob).1
 refine h.turn (fun _ _ q=>q) (Le.refl _) h.sub (by simp[h.hl]) (fun id e o' p q=>?_) h.inj h.below h.base
 have q:(σ.h.set k { ob with es:=[wE e0 o a'] })[id]?=some o':=q
 by_cases hid:k=id
 ·subst hid
  rw[List.getElem?_set_self hk]at q
  cases q
  rcases h.objs k e ob p hob with ⟨k0,k1,k2,k3,k4,k5,k6,k7,k8⟩|⟨_,_,m2,_⟩
  case inr=>rw[hpr]at m2;cases m2
  have hcl:=Ac hac ho
  refine ji.r ⟨by rw[k1,hes];rfl,k2,k3,k4,⟨k5.1,fun q=>by rw[k5.2 q,hes];rfl⟩,by rw[hes]at k6;exact k6,fun i x q=>?_,?_⟩
  ·have q:[wE e0 o a'][i]?=some x:=q
   have hi:i=0:=by have:=(List.getElem?_eq_some_iff.1 q).1;simpa using this
   subst hi
   cases q
   rw[hcl,List.length_set]
   exact k7 0 e0 (by rw[hes];rfl)
  ·cases hg:e.g with
   |none=>rw[hg]at k8;exact k8
   |some g =>
    rw[hg]at k8
    obtain⟨cs,a1,a2,a3,a4⟩:=k8
    obtain⟨fr,a1,af⟩:=a1
    refine⟨cs,⟨fr,a1,by rw[hes]at af;exact af⟩,a2,fun i j x a r s=>?_,a4⟩
    have r:[wE e0 o a'][i]?=some x:=r
    have hi:i=0:=by have:=(List.getElem?_eq_some_iff.1 r).1;simpa using this
    subst hi
    cases r
    rw[hcl,List.getElem?_set]at s
    split at s
    ·rename_i hj
     subst hj
     split at s
     ·cases s
      obtain⟨y,b1,b2,b3⟩:=a3 0 o e0 _ (by rw[hes];rfl) ho
      refine⟨y,b1,b2,?_⟩
      unfold RC at b3 ⊢
      rw[if_neg (by rw[hpr];simp)]at b3
      rw[if_neg (by show ¬ ob.pr=true;rw[hpr];simp)]
      rw[b3.aS];exact ha
     ·cases s
    ·exact a3 0 j e0 a (by rw[hes];rfl) s
 ·rw[List.getElem?_set_ne hid]at q
  exact h.objs id e o' p q
end
section
variable {ρ:List Nat} {h h':List XO} {H:List ah} {F:Addr->Option Value} {own:List Ent} {e':Ent} {id:Nat}
theorem XT {own':List Ent} {T:Ty} {y:T.den} {a:AV} (hw:Wp a (Ty.enc T y)):Okc F own own' a:=by
 have one:∀ {a:AV},Pl1 a->Okc F own own' a:=fun {a} hp v hv=>by
  rcases hp with ⟨y,rfl,hy⟩|⟨sz,xs,rfl⟩
  ·rw[hv.aS];exact .pure (.v _)
  ·exact .pure hv.fM
 by_cases ha:∃ cs,a=.agg cs
 ·obtain⟨cs,rfl⟩:=ha
  intro v hv
  obtain⟨xs,rfl,hl,h1,hR⟩:=hv.dD
  exact .agg xs cs hl h1 fun j x a p q=>one (xH hw (List.mem_of_getElem? q)) x (hR j x a p q)
 ·have hc:a.cells=[a]:=by cases a<;>first|rfl|exact absurd ⟨_,rfl⟩ ha
  exact one (xH hw (by rw[hc];simp))
theorem V1.okc (hs:HS ρ h H) (hid:id<h.length) {x:XV} {a:AV} (hv:V1 ρ h x a) (hn:x≠.any) (hh:hit [id] x=false):Okc F own (own.set (ρ.getD id 0) e') a:=by
 have ne:∀ {j:Nat} {o:XO},h[j]?=some o->[id].contains j=false->(own.set (ρ.getD id 0) e')[ρ.getD j 0]?=own[ρ.getD j 0]?:=fun {j o} q hj=>by
  rw[List.getElem?_set_ne (fun q'=>?_)]
  have:=hs.inj hid (List.getElem?_eq_some_iff.1 q).1 q'
  subst this
  simp at hj
 cases x with
 |any=>exact absurd rfl hn
 |d T y=>exact XT hv
 |k v =>
  have hv:a=.v v:=hv
  subst hv
  intro v h;rw[h.aS];exact .pure (.v _)
 |row j=>obtain⟨_,_,_,_,q,rfl⟩:=hv;exact xU (ne q hh)
 |sub j o l=>obtain⟨_,_,_,_,q,rfl⟩:=hv;exact xU (ne q hh)
 |mD j l=>obtain⟨_,_,_,_,q,rfl,_⟩:=hv;exact Fx (ne q hh)
 |oG j=>obtain⟨_,_,q,rfl⟩:=hv;exact xU (ne q hh)
 |me j =>
  rcases hv with rfl|⟨_,q,rfl⟩
  ·intro v h;rw[h.aS];exact .pure (.v _)
  ·exact BI (ne q hh)
 |ptr j i o=>obtain⟨_,q,rfl⟩:=hv;exact BI (ne q hh)
 |mp j=>obtain⟨_,_,_,_,q,rfl⟩:=hv;exact Ml (ne q hh)
 |lp T y o=>obtain⟨_,rfl,_⟩:=hv;intro v h;exact .pure h.kg
 |agg=>exact hv.elim
 |tup=>exact hv.elim
theorem V1.off (hs:HS ρ h H) (hid:id<h.length) (ht:Trn ρ h ρ h' [id]) {x:XV} {a:AV} (hv:V1 ρ h x a):V1 ρ h' (jc [id] x) (off1 F own (own.set (ρ.getD id 0) e') a):=by
 have hv':=ht x a hv
 by_cases hn:x=.any
 ·subst hn;trivial
 ·rw[D5]at hv' ⊢
  cases hh:hit [id] x with
  |true=>simp only[if_true];trivial
  |false =>
   rw[hh]at hv'
   simp only[Bool.false_eq_true,if_false]at hv' ⊢
   rw[BJ (hv.okc hs hid hn hh)];exact hv'
theorem Dj (hs:HS ρ h H) (hid:id<h.length) (ht:Trn ρ h ρ h' [id]) {cs:List XV} {as:List AV} (hc:aI (V1 ρ h) cs as):aI (V1 ρ h') (cs.map (jc [id])) (as.map (off1 F own (own.set (ρ.getD id 0) e'))) :=
 ⟨by simp[hc.1],fun i y b p q=>by
  rw[List.getElem?_map]at p q
  cases hy:cs[i]? with
  |none=>rw[hy]at p;cases p
  |some z =>
   cases hb:as[i]? with
   |none=>rw[hb]at q;cases q
   |some c=>rw[hy]at p;rw[hb]at q;cases p;cases q;exact (hc.2 i z c hy hb).off hs hid ht⟩
theorem VA.off (hs:HS ρ h H) (hid:id<h.length) (ht:Trn ρ h ρ h' [id]) {x:XV} {a:AV} (hv:VA ρ h x a):VA ρ h' (mO [id] x) (jZ F own (own.set (ρ.getD id 0) e') a):=by
 by_cases ha:∃ cs,x=.agg cs
 ·obtain⟨cs,rfl⟩:=ha
  obtain⟨as,rfl,hc⟩:=hv
  rw[AA]
  exact⟨_,rfl,Dj hs hid ht hc⟩
 ·rw[yK _ x fun cs q=>ha ⟨cs,q⟩]
  have hv1:V1 ρ h x a:=by cases x<;>first|exact hv|exact absurd ⟨_,rfl⟩ ha
  by_cases hag:∃ cs,a=.agg cs
  ·obtain⟨cs,rfl⟩:=hag
   cases x with
   |d T y =>
    have hv1:Wp (.agg cs) (Ty.enc T y):=hv1
    have he:jZ F own (own.set (ρ.getD id 0) e') (.agg cs)=.agg cs:=by
     show AV.agg (cs.map _)=_
     congr 1
     refine (List.map_congr_left fun c hc=>?_).trans (List.map_id cs)
     refine BJ fun v hv=>?_
     rcases xH hv1 hc with ⟨y,rfl,hy⟩|⟨sz,xs,rfl⟩
     ·rw[hv.aS];exact .pure (.v _)
     ·exact .pure hv.fM
    rw[he];exact hv1
   |any=>trivial
   |k v=>cases hv1
   |row j=>obtain⟨_,_,_,_,_,q⟩:=hv1;cases q
   |sub j o l=>obtain⟨_,_,_,_,_,q⟩:=hv1;cases q
   |mD j l=>obtain⟨_,_,_,_,_,q,_⟩:=hv1;cases q
   |oG j=>obtain⟨_,_,_,q⟩:=hv1;cases q
   |ptr j i o=>obtain⟨_,_,q⟩:=hv1;cases q
   |mp j=>obtain⟨_,_,_,_,_,q⟩:=hv1;cases q
   |me j=>rcases hv1 with q|⟨_,_,q⟩<;>cases q
   |lp T y o=>obtain⟨_,q,_⟩:=hv1;cases q
   |agg=>exact hv1.elim
   |tup=>exact hv1.elim
  ·rw[q9 fun cs q=>hag ⟨cs,q⟩]
   exact VA.of1 (hv1.off hs hid ht)
theorem VT.off (hs:HS ρ h H) (hid:id<h.length) (ht:Trn ρ h ρ h' [id]) {x:XV} {a:AV} (hv:VT ρ h x a):VT ρ h' (mM [id] x) (wO F own (own.set (ρ.getD id 0) e') a):=by
 by_cases ha:∃ cs,x=.tup cs
 ·obtain⟨cs,rfl⟩:=ha
  obtain⟨as,rfl,hc⟩:=hv
  rw[Az]
  refine⟨_,rfl,by simp[hc.1],fun i y b p q=>?_⟩
  rw[List.getElem?_map]at p q
  cases hy:cs[i]? with
  |none=>rw[hy]at p;cases p
  |some z =>
   cases hb:as[i]? with
   |none=>rw[hb]at q;cases q
   |some c=>rw[hy]at p;rw[hb]at q;cases p;cases q;exact (hc.2 i z c hy hb).off hs hid ht
 ·rw[yJ _ x fun cs q=>ha ⟨cs,q⟩]
  have hvA:VA ρ h x a:=by cases x<;>first|exact hv|exact absurd ⟨_,rfl⟩ ha
  by_cases hat:∃ cs,a=.tup cs
  ·obtain⟨cs,rfl⟩:=hat
   by_cases hx:x=.any
   ·subst hx;rw[show mO [id] XV.any=.any from rfl];trivial
   ·exfalso
    cases x with
    |any=>exact hx rfl
    |d T y =>
     have hw:Wp (.tup cs) (Ty.enc T y):=hvA
     rcases xH hw (c:=.tup cs) (by simp[AV.cells]) with ⟨y,q,_⟩|⟨sz,xs,q⟩<;>cases q
    |k v=>cases hvA
    |row j=>obtain⟨_,_,_,_,_,q⟩:=hvA;cases q
    |sub j o l=>obtain⟨_,_,_,_,_,q⟩:=hvA;cases q
    |mD j l=>obtain⟨_,_,_,_,_,q,_⟩:=hvA;cases q
    |oG j=>obtain⟨_,_,_,q⟩:=hvA;cases q
    |ptr j i o=>obtain⟨_,_,q⟩:=hvA;cases q
    |me j=>rcases hvA with q|⟨_,_,q⟩<;>cases q
    |mp j=>obtain⟨_,_,_,_,_,q⟩:=hvA;cases q
    |lp T y o=>obtain⟨_,q,_⟩:=hvA;cases q
    |agg us=>obtain⟨_,q,_⟩:=hvA;cases q
    |tup us=>exact ha ⟨_,rfl⟩
  ·rw[CU fun cs q=>hat ⟨cs,q⟩]
   exact VT.ofA (hvA.off hs hid ht)
theorem mE.off (hs:HS ρ h H) (hid:id<h.length) (ht:Trn ρ h ρ h' [id]) {o:XO} {O:ah} (hR:mE ρ h o O):mE ρ h' (gZ [id] o) (kM F own (own.set (ρ.getD id 0) e') O):=by
 cases o with
 |row ty T fz es =>
  have:kM F own (own.set (ρ.getD id 0) e') O=O:=by simp[kM,hR.2.2.1]
  rw[this];exact hR
 |map ty K V es =>
  have:kM F own (own.set (ρ.getD id 0) e') O=O:=by simp[kM,hR.2.2.1]
  rw[this];exact hR
 |box ty cs =>
  obtain⟨a,b,c,d,e,he,hc⟩:=hR
  have:kM F own (own.set (ρ.getD id 0) e') O={ O with es:=O.es.map (jZ F own (own.set (ρ.getD id 0) e')) }:=by simp[kM,c]
  rw[this]
  exact⟨a,by simpa using b,c,d,jZ F own (own.set (ρ.getD id 0) e') e,by simp[he],by rw[vC];exact Dj hs hid ht hc⟩
 |vec ty cs =>
  obtain⟨a,b,c,d,hc⟩:=hR
  have:kM F own (own.set (ρ.getD id 0) e') O={ O with es:=O.es.map (jZ F own (own.set (ρ.getD id 0) e')) }:=by simp[kM,c]
  rw[this]
  refine⟨a,b,c,d,by simp[hc.1],fun i y e p q=>?_⟩
  have q:(O.es.map (jZ F own (own.set (ρ.getD id 0) e')))[i]?=some e:=q
  rw[List.getElem?_map]at p q
  cases hy:cs[i]? with
  |none=>rw[hy]at p;cases p
  |some z =>
   cases hb:O.es[i]? with
   |none=>rw[hb]at q;cases q
   |some e1 =>
    rw[hy]at p;rw[hb]at q;cases p;cases q
    obtain⟨c1,c2⟩:=hc.2 i z e1 hy hb
    have hna:∀ cs,e1≠.agg cs:=fun cs q=>by
     subst q
     have c1:cs=[AV.agg cs]:=c1
     have:=congrArg (fun l:List AV=>SizeOf.sizeOf l) c1
     simp at this
     omega
    rw[q9 hna]
    refine⟨?_,c2.off hs hid ht⟩
    rcases Iz (F:=F) (own:=own) (own':=own.set (ρ.getD id 0) e') e1 with q|q
    ·rw[q];exact c1
    ·rw[q];rfl
end
end Abs
end Go.Proofs.YtgfnhpadmifiiaaDoor
end
section
namespace Go.Proofs.YtgfnhpadmifiiaaDoor
namespace Abs
open Go.RowKit
section
variable {S R:Type} {step:S->Option (S⊕R)}
theorem CB:∀ {n m:Nat} {s:S} {r:R},kV step n s=some r->n<=m->kV step m s=some r:=by
 intro n
 induction n with
 |zero=>intro m s r h;cases h
 |succ n ih =>
  intro m s r h hm
  cases m with
  |zero=>omega
  |succ m =>
   simp only[kV]at h ⊢
   split at h
   ·exact ih h (by omega)
   ·exact h
   ·cases h
theorem qO {s:S} {r:R}:bX step s=some r↔∃ n,kV step n s=some r:=by
 constructor
 ·intro h
  unfold bX at h
  split at h
  ·rename_i hn;exact⟨_,h⟩
  ·cases h
 ·rintro⟨n,h⟩
  have hn:∃ n r,kV step n s=some r:=⟨n,r,h⟩
  obtain⟨r',hr'⟩:=hn.choose_spec
  have e1:=CB hr' (Nat.le_max_left _ n)
  have e2:=CB h (Nat.le_max_right hn.choose n)
  rw[e1]at e2
  cases e2
  unfold bX
  rw[dif_pos hn]
  exact hr'
theorem FN (step:S->Option (S ⊕ R)) (s:S):bX step s=match step s with
  |some (.inl s')=>bX step s'
  |some (.inr r)=>some r
  |none=>none:=by
 apply Option.ext
 intro r
 rw[qO]
 constructor
 ·rintro⟨n,h⟩
  cases n with
  |zero=>cases h
  |succ n =>
   simp only[kV]at h
   split at h
   ·rename_i s' hs;rw[hs];exact qO.2 ⟨n,h⟩
   ·rename_i r' hs;rw[hs];exact h
   ·cases h
 ·intro h
  split at h
  ·rename_i s' hs
   obtain⟨n,hn⟩:=qO.1 h
   exact⟨n+1,by simp only[kV,hs];exact hn⟩
  ·rename_i r' hs
   cases h
   exact⟨1,by simp only[kV,hs]⟩
  ·cases h
end
section
variable {P:Program} {c:Cfg} {ρ:List Nat} {X:XS} {σ:St} {F:Addr->Option Value} {own:List Ent} {B:Nat} {w0:W0} {act:Act} {w:World} {H0:List ah} {ρ0:List Nat} {Gl:Nat->Option (List AV)}
theorem GU {i:Nat} (hlt:i<act.tmps.size):act.put (some i) act.tmps[i]=act:=by
 have hs:act.tmps.setIfInBounds i act.tmps[i]=act.tmps:=by
  apply Array.ext_getElem?
  intro j
  rw[Array.getElem?_setIfInBounds]
  split
  ·rename_i hj
   subst hj
   rw[Array.getElem?_eq_getElem hlt]
  ·rfl
 show ({ act with tmps:=act.tmps.setIfInBounds i act.tmps[i] }:Act)=act
 rw[hs]
theorem Frm.mine {nf id:Nat} {h:List XO} {H:List ah} (hF:Frm H0 ρ0 ρ H) (hs:HS ρ h H) (hnf:nf=ρ0.length) (hid:nf<=id) (hl:id<h.length):H0.length<=ρ.getD id 0:=by
 subst hnf
 obtain⟨l,hl',hq⟩:=hF.pre
 have l5:id<ρ.length:=by rw[hs.rl];exact hl
 rw[hl']at l5 ⊢
 simp only[List.length_append]at l5
 have:(ρ0++l).getD id 0=l[id-ρ0.length]'(by omega):=by
  simp only[List.getD]
  rw[List.getElem?_append_right hid,List.getElem?_eq_getElem (by omega)];rfl
 rw[this]
 exact hq _ (List.getElem_mem _)
theorem UC {nf:Nat} (hnf:nf=ρ0.length) (hN:w0.N<=H0.length) (hcl:ClH H0.length H0) (hI:Inv Gl F own B w0 σ act w) (hS:Sim ρ X σ) (hF:Frm H0 ρ0 ρ σ.h) {s id len ty:Nat} {T:Ty} {es:List T.den} (hk:X.t.getD s .any=.sub id 0 len) (he:X.h[id]?=some (.row ty T false es)) (hid:nf<=id) :
  ∃ F' own' σ' ρ',Inv Gl F' own' B w0 σ' act w/\Sim ρ' ⟨(X.t.map (qP id)).set s (.row id),(X.h.map (vG id)).set id (.row ty T false (es.take len))⟩ σ'/\Frm H0 ρ0 ρ' σ'.h:=by
 have l5:id<X.h.length:=(List.getElem?_eq_some_iff.1 he).1
 have hsl:s<X.t.length:=by
  rcases Nat.lt_or_ge s X.t.length with q|q
  ·exact q
  ·simp[List.getD,List.getElem?_eq_none q]at hk
 have qF:s<σ.t.length:=by rw[<- hS.t.1];exact hsl
 have hv:=l6 hS.t s
 rw[hk]at hv
 obtain⟨ty',T',fz',es',he',ha⟩:=hv
 rw[he]at he'
 cases he'
 obtain⟨O,hO,o1,o2,o3,o4,o5⟩:=hS.h.hr id _ he
 have hlen:O.es.length=es.length:=by have:=o5.1;simpa using this
 have hkn:H0.length<=ρ.getD id 0:=hF.mine hS.h hnf hid l5
 have hs?:σ.t[s]?=some (.row (ρ.getD id 0) O.es.length T.size 0 len):=by
  rw[List.getElem?_eq_getElem qF]
  simp only[List.getD,List.getElem?_eq_getElem qF,Option.getD_some]at ha
  rw[ha,hlen];rfl
 obtain⟨e',hle,hI'⟩:=hI.cut hO o3 (by rw[o4];simp) (Nat.le_trans hN hkn) hs?
 have hkH:ρ.getD id 0<σ.h.length:=hS.h.lt l5
 have hmap:X.h.map (vG id)=X.h.map (gZ [id]):=lQ [id] X.h
 have htm:X.t.map (qP id)=X.t.map (mM [id]):=CZ [id] X.t
 rw[hmap,htm]
 have ht:Trn ρ X.h ρ ((X.h.map (gZ [id])).set id (.row ty T false (es.take len))) [id]:=Trn.mk (fun j oj e hj=>by
  refine⟨gZ [id] oj,by rw[List.getElem?_set_ne (fun q=>hj (by simp[q])),List.getElem?_map,e];rfl,?_⟩
  cases oj<;>simp[lD,gZ]) (fun _ _=>rfl)
 refine⟨F,_,_,ρ,hI',⟨?_,by simp[hS.h.rl],hS.h.nd,fun j oj q=>?_⟩,⟨hF.pre,by simpa using hF.ge,fun j hj hn=>?_⟩⟩
 ·have hvr:VT ρ ((X.h.map (gZ [id])).set id (.row ty T false (es.take len))) (.row id) (.row (ρ.getD id 0) len T.size 0 len):=by
   refine⟨ty,T,false,es.take len,by rw[List.getElem?_set_self (by simpa using l5)],?_⟩
   rw[List.length_take,Nat.min_eq_left (by omega)]
  refine aI.set ⟨by simp[hS.t.1],fun i y b p q=>?_⟩ hvr s
  rw[List.getElem?_map]at p q
  cases hy:X.t[i]? with
  |none=>rw[hy]at p;cases p
  |some z =>
   cases hb:σ.t[i]? with
   |none=>rw[hb]at q;cases q
   |some c=>rw[hy]at p;rw[hb]at q;cases p;cases q;exact (hS.t.2 i z c hy hb).off hS.h l5 ht
 ·have q:((X.h.map (gZ [id])).set id (.row ty T false (es.take len)))[j]?=some oj:=q
  by_cases hj:id=j
  ·subst hj
   rw[List.getElem?_set_self (by simpa using l5)]at q
   cases q
   refine⟨{ O with es:=O.es.take len },by show ((σ.h.map _).set _ _)[ρ.getD id 0]?=_;rw[List.getElem?_set_self (by simpa using hkH)],o1,o2,o3,by rw[show ({ O with es:=O.es.take len }:ah).fz=O.fz from rfl,o4];simp,?_⟩
   rw[List.map_take];exact o5.take len
  ·rw[List.getElem?_set_ne hj,List.getElem?_map]at q
   cases hx:X.h[j]? with
   |none=>rw[hx]at q;cases q
   |some ox =>
    rw[hx]at q;cases q
    have hjl:=(List.getElem?_eq_some_iff.1 hx).1
    obtain⟨O1,hO1,hR⟩:=hS.h.hr j ox hx
    refine⟨_,?_,hR.off (F:=F) (own:=own) (e':=e') hS.h l5 ht⟩
    show ((σ.h.map _).set _ _)[ρ.getD j 0]?=_
    rw[List.getElem?_set_ne (fun q=>hj (hS.h.inj l5 hjl q)),List.getElem?_map,hO1];rfl
 ·show ((σ.h.map _).set _ _)[j]?=_
  rw[List.getElem?_set_ne (by omega),List.getElem?_map,hF.fr j hj hn]
  cases hj0:H0[j]? with
  |none=>rfl
  |some O1 =>
   show some (kM _ _ _ O1)=some O1
   congr 1
   unfold kM
   split
   ·rfl
   ·rename_i hpr
    have hpr:O1.pr=false:=by simpa using hpr
    have:O1.es.map (jZ F own (own.set (ρ.getD id 0) e'))=O1.es:=by
     refine (List.map_congr_left fun e hem=>?_).trans (List.map_id O1.es)
     obtain⟨i,hi⟩:=List.mem_iff_getElem?.1 hem
     have hc:∀ c∈e.cells,off1 F own (own.set (ρ.getD id 0) e') c=c:=fun c hcm=>by
      obtain⟨k,hk⟩:=List.mem_iff_getElem?.1 hcm
      exact BJ (hcl j O1 hj0 hpr i k e c hi hk F own _ fun i hi=>by rw[List.getElem?_set_ne (by omega)])
     show jZ F own (own.set (ρ.getD id 0) e') e=e
     by_cases hag:∃ cs,e=.agg cs
     ·obtain⟨cs,rfl⟩:=hag
      show AV.agg (cs.map _)=_
      congr 1
      exact (List.map_congr_left fun c hcm=>hc c hcm).trans (List.map_id cs)
     ·rw[q9 fun cs q=>hag ⟨cs,q⟩]
      exact hc e (by cases e<;>first|exact List.mem_singleton.2 rfl|exact absurd ⟨_,rfl⟩ hag)
    rw[this]
theorem Pn (hI:Inv Gl F own B w0 σ act w) (hS:Sim ρ X σ) (hF:Frm H0 ρ0 ρ σ.h) {id o ty ty':Nat} {T:Ty} {cs:List XV} (he:X.h[id]?=some (.box ty' cs)) (ho:cs[o]?=some (.k (.slice none 0 0))) (hz:0 < T.size) :
  ∃ F' own' σ' ρ',Inv Gl F' own' B w0 σ' act w/\Sim ρ' ⟨X.t,(X.h++[XO.row ty T false []]).set id (.box ty' (cs.set o (.row X.h.length)))⟩ σ'/\Frm H0 ρ0 ρ' σ'.h:=by
 have l5:id<X.h.length:=(List.getElem?_eq_some_iff.1 he).1
 obtain⟨O,hO,o1,o2,o3,o4,e,o5,hc⟩:=hS.h.hr id _ he
 have hkH:ρ.getD id 0<σ.h.length:=hS.h.lt l5
 have hI1:=hI.wQ ty T.size true hz
 obtain⟨a,ha,hva⟩:=hc.jh ho
 have hva:a=.v (.slice none 0 0):=hva
 subst hva
 have hrow:R F (own++[⟨none,0,T.size,0⟩]) (.slice none 0 0) (.row σ.h.length 0 T.size 0 0):=by
  rw[<- hI.hl]
  exact .row _ _ _ _ _ _ _ gP (by simp) ⟨_,_,rfl,by simp,fun q=>by simp at q⟩ (fun _=>⟨rfl,by simp,fun _=>⟨_,Nat.le_of_eq (Nat.zero_add _),by simp⟩⟩) (by first|assumption|(show 0<T.size;omega)|(show 0<_;assumption))
 have hO1:(σ.h++[(⟨ty,T.size,0,true,[]⟩:ah)])[ρ.getD id 0]?=some O:=by rw[List.getElem?_append_left hkH];exact hO
 have hI2:=hI1.Jk hO1 o5 o3 ha hrow rfl
 obtain⟨u1,u2⟩:=jP (ty:=ty) (ys:=([]:List T.den)) (as:=[]) hS.h rfl .nil
 have he1:(X.h++[XO.row ty T false []])[id]?=some (.box ty' cs):=by rw[List.getElem?_append_left l5];exact he
 have hg:(ρ++[σ.h.length]).getD id 0=ρ.getD id 0:=iC (by rw[hS.h.rl];exact l5)
 have hcl:=Ac (e:=e) (a:=.row σ.h.length 0 T.size 0 0) rfl ha
 have hob:mE (ρ++[σ.h.length]) (X.h++[XO.row ty T false []]) (.box ty' (cs.set o (.row X.h.length))) { O with es:=[wE e o (.row σ.h.length 0 T.size 0 0)] }:=by
  refine⟨o1,by simpa using o2,o3,o4,_,rfl,?_⟩
  rw[hcl]
  refine aI.set ?_ u2 o
  have:=u1.tr.cells hc
  rw[nX]at this
  exact this
 have u3:=Upd.set u1.hs he1 (o':=.box ty' (cs.set o (.row X.h.length))) trivial hob
 have u4:=u1.trans u3 hS.h.rl
 rw[hg]at u4
 refine⟨F,_,_,ρ++[σ.h.length],hI2,?_,hF.upd hS.h.rl u4⟩
 exact lJ (X:=X) (kl:=[]) hS.t u4 (v:=.any) (a:=.any) trivial none
theorem Po (hI:Inv Gl F own B w0 σ act w) (hS:Sim ρ X σ) (hF:Frm H0 ρ0 ρ σ.h) {s o ty:Nat} {T:Ty} {cs:List XV} (hk:X.t.getD s .any=.agg cs) (ho:cs[o]?=some (.k (.slice none 0 0))) (hz:0 < T.size) :
  ∃ F' own' σ' ρ',Inv Gl F' own' B w0 σ' act w/\Sim ρ' ⟨X.t.set s (.agg (cs.set o (.row X.h.length))),X.h++[XO.row ty T false []]⟩ σ'/\Frm H0 ρ0 ρ' σ'.h:=by
 have hsl:s<X.t.length:=by
  rcases Nat.lt_or_ge s X.t.length with q|q
  ·exact q
  ·simp[List.getD,List.getElem?_eq_none q]at hk
 have qF:s<σ.t.length:=by rw[<- hS.t.1];exact hsl
 have hst:s<act.tmps.size:=by rw[hI.tl];exact qF
 have hv:=l6 hS.t s
 rw[hk]at hv
 obtain⟨as,has,hc⟩:=hv
 have hs?:σ.t[s]?=some (.agg as):=by
  rw[List.getElem?_eq_getElem qF]
  simp only[List.getD,List.getElem?_eq_getElem qF,Option.getD_some]at has
  rw[has]
 obtain⟨a,ha,hva⟩:=hc.jh ho
 have hva:a=.v (.slice none 0 0):=hva
 subst hva
 have hI1:=hI.wQ ty T.size true hz
 have hrow:R F (own++[⟨none,0,T.size,0⟩]) (.slice none 0 0) (.row σ.h.length 0 T.size 0 0):=by
  rw[<- hI.hl]
  exact .row _ _ _ _ _ _ _ gP (by simp) ⟨_,_,rfl,by simp,fun q=>by simp at q⟩ (fun _=>⟨rfl,by simp,fun _=>⟨_,Nat.le_of_eq (Nat.zero_add _),by simp⟩⟩) (by first|assumption|(show 0<T.size;omega)|(show 0<_;assumption))
 have hR:=hI1.tr s _ _ (Array.getElem?_eq_getElem hst) hs?
 have hag:R F (own++[⟨none,0,T.size,0⟩]) act.tmps[s] (.agg (as.set o (.row σ.h.length 0 T.size 0 0))):=by
  obtain⟨xs,hxs,hl,h1,hRc⟩:=hR.dD
  rw[hxs]
  refine .agg xs _ (by simp[hl]) h1 fun j x b p q=>?_
  rw[List.getElem?_set]at q
  split at q
  ·rename_i hj
   subst hj
   split at q
   ·cases q
    have:=(hRc o x _ p ha).aS
    subst this
    exact hrow
   ·cases q
  ·exact hRc j x b p q
 obtain⟨u1,u2⟩:=jP (ty:=ty) (ys:=([]:List T.den)) (as:=[]) hS.h rfl .nil
 have hI2:=hI1.put hag (some s)
 rw[GU hst]at hI2
 refine⟨F,_,_,ρ++[σ.h.length],hI2,?_,hF.upd hS.h.rl u1⟩
 refine lJ (X:=X) (kl:=[]) hS.t u1 (v:=.agg (cs.set o (.row X.h.length))) (a:=.agg (as.set o (.row σ.h.length 0 T.size 0 0))) ⟨_,rfl,?_⟩ (some s)
 refine aI.set ?_ u2 o
 have:=u1.tr.cells hc
 rw[nX]at this
 exact this
theorem UD {nf:Nat} (hnf:nf=ρ0.length) (hN:w0.N<=H0.length) (hcl:ClH H0.length H0) (hI:Inv Gl F own B w0 σ act w) (hS:Sim ρ X σ) (hF:Frm H0 ρ0 ρ σ.h) (p:Pre):∃ F' own' σ' ρ',Inv Gl F' own' B w0 σ' act w/\Sim ρ' (vk nf X p) σ'/\Frm H0 ρ0 ρ' σ'.h:=by
 cases p with
 |gh s ty T =>
  simp only[vk]
  split
  ·rename_i hk
   split
   ·rename_i hz
    have hz:=ou hz
    have hsl:s<X.t.length:=by
     rcases Nat.lt_or_ge s X.t.length with q|q
     ·exact q
     ·simp[List.getD,List.getElem?_eq_none q]at hk
    have qF:s<σ.t.length:=by rw[<- hS.t.1];exact hsl
    have hv:=l6 hS.t s
    rw[hk]at hv
    have ha:=yT hv
    have hs?:σ.t[s]?=some (.v (.slice none 0 0)):=by
     rw[List.getElem?_eq_getElem qF]
     simp only[List.getD,List.getElem?_eq_getElem qF,Option.getD_some]at ha
     rw[ha]
    obtain⟨own',hI'⟩:=hI.Nh (s,ty,T.size)
    have hgh:ghost σ (s,ty,T.size)=⟨σ.t.set s (.row σ.h.length 0 T.size 0 0),σ.h++[⟨ty,T.size,0,true,[]⟩]⟩:=by
     simp only[ghost,hs?,hz,if_true]
    rw[hgh]at hI'
    obtain⟨u1,u2⟩:=jP (ty:=ty) (ys:=([]:List T.den)) (as:=[]) hS.h rfl .nil
    refine⟨F,own',_,ρ++[σ.h.length],hI',?_,?_⟩
    ·exact lJ (X:=X) (kl:=[]) hS.t u1 (VT.of1 u2) (some s)
    ·exact hF.upd hS.h.rl u1
   ·exact⟨F,own,σ,ρ,hI,hS,hF⟩
  ·exact⟨F,own,σ,ρ,hI,hS,hF⟩
 |fz s T =>
  simp only[vk]
  split
  ·rename_i x hx
   have hsl:s<X.t.length:=by
    rcases Nat.lt_or_ge s X.t.length with q|q
    ·exact q
    ·rw[show X.t.getD s .any=.any by simp[List.getD,List.getElem?_eq_none q]]at hx
     cases T<;>simp[toD,lst]at hx
   have qF:s<σ.t.length:=by rw[<- hS.t.1];exact hsl
   have hst:s<act.tmps.size:=by rw[hI.tl];exact qF
   have hv:=l6 hS.t s
   have hnt:∀ us,X.t.getD s .any≠.tup us:=fun us q=>by
    rw[q]at hx
    cases T<;>simp[toD,lst]at hx
   obtain⟨b,k1,k2,k3,k4⟩:=uU hS.h hx (hv.kW hnt)
   obtain⟨F1,hF1,hI1,hkp⟩:=hI.ru (aT (σ.t.getD s .any))
   have hsg:σ.t[s]?=some (σ.t.getD s .any):=by simp[List.getD,List.getElem?_eq_getElem qF]
   have hR:=hI.tr s _ _ (Array.getElem?_eq_getElem hst) hsg
   obtain⟨r1,_,_⟩:=mQ hI hF1 hR k1 hkp
   have hI2:=hI1.put (.pure r1) (some s)
   rw[GU hst]at hI2
   have hu:=Upd.frz _ hS.h k4
   rw[<- k3]at hu
   refine⟨F1,own,_,ρ,hI2,?_,?_⟩
   ·exact lJ (X:=X) (kl:=[]) hS.t hu (EA k2) (some s)
   ·exact hF.upd hS.h.rl hu
  ·exact⟨F,own,σ,ρ,hI,hS,hF⟩
 |ghc s o ty T =>
  simp only[vk]
  split
  case h_2=>exact⟨F,own,σ,ρ,hI,hS,hF⟩
  split
  case h_2=>exact⟨F,own,σ,ρ,hI,hS,hF⟩
  rename_i he
  split
  case h_2=>exact⟨F,own,σ,ρ,hI,hS,hF⟩
  rename_i ho
  split
  ·rename_i hz
   exact Pn hI hS hF he ho (ou hz)
  ·exact⟨F,own,σ,ρ,hI,hS,hF⟩
 |gha s o ty T =>
  simp only[vk]
  split
  case h_2=>exact⟨F,own,σ,ρ,hI,hS,hF⟩
  rename_i hk
  split
  case h_2=>exact⟨F,own,σ,ρ,hI,hS,hF⟩
  rename_i ho
  split
  ·rename_i hz
   exact Po hI hS hF hk ho (ou hz)
  ·exact⟨F,own,σ,ρ,hI,hS,hF⟩
 |tr s =>
  simp only[vk]
  split
  case h_2=>exact⟨F,own,σ,ρ,hI,hS,hF⟩
  rename_i id off len hk
  split
  case h_2=>exact⟨F,own,σ,ρ,hI,hS,hF⟩
  rename_i ty T fz es he
  split
  ·rename_i hb
   simp only[Bool.and_eq_true,Bool.not_eq_true']at hb
   have h0:=beq_eq hb.1.1
   have hf:=hb.2
   subst h0 hf
   exact UC hnf hN hcl hI hS hF hk he (Nat.le_of_ble_eq_true hb.1.2)
  ·exact⟨F,own,σ,ρ,hI,hS,hF⟩
theorem Me {nf:Nat} (hnf:nf=ρ0.length) (hN:w0.N<=H0.length) (hcl:ClH H0.length H0) (pre:List Pre):∀ {X:XS} {F:Addr->Option Value} {own:List Ent} {σ:St} {ρ:List Nat},Inv Gl F own B w0 σ act w->Sim ρ X σ->Frm H0 ρ0 ρ σ.h->∃ F' own' σ' ρ',Inv Gl F' own' B w0 σ' act w/\Sim ρ' (zl nf pre X) σ'/\Frm H0 ρ0 ρ' σ'.h:=by
 induction pre with
 |nil=>intro X F own σ ρ hI hS hF;exact⟨F,own,σ,ρ,hI,hS,hF⟩
 |cons p pre ih =>
  intro X F own σ ρ hI hS hF
  obtain⟨F',own',σ',ρ',a,b,d⟩:=UD hnf hN hcl hI hS hF p
  exact ih a b d
theorem JJ:∀ (n j:Nat) (l:List Nat),oK n j l=true->∃ r,l=List.range' j n++r:=by
 intro n
 induction n with
 |zero=>intro j l _;exact⟨l,by simp⟩
 |succ n ih =>
  intro j l h
  cases l with
  |nil=>simp[oK]at h
  |cons a l =>
   simp only[oK,Bool.and_eq_true]at h
   have:=beq_eq h.1
   subst this
   obtain⟨r,rfl⟩:=ih (a+1) l h.2
   exact⟨r,by simp[List.range'_succ]⟩
theorem J2 {H:List ah} {foc:List Nat} {nf:Nat} {h:List XO} (hs:HS ρ h H) (hF:Frm H0 ρ0 ρ H) (hnf:nf=ρ0.length) (hst:oK nf 0 foc=true) (hnd:foc.Nodup) (hlt:∀ id∈foc,id<h.length):Frm H0 ρ0 (foc.map fun id=>ρ.getD id 0) H:=by
 subst hnf
 obtain⟨r,rfl⟩:=JJ _ _ _ hst
 obtain⟨l,hl,hq⟩:=hF.pre
 refine⟨⟨r.map fun id=>ρ.getD id 0,?_,fun x hx=>?_⟩,hF.ge,hF.fr⟩
 ·rw[List.map_append]
  congr 1
  apply List.ext_getElem
  ·simp
  ·intro i h1 h2
   simp only[List.length_map,List.length_range']at h1
   simp only[List.getElem_map,List.getElem_range',Nat.zero_add,Nat.one_mul]
   rw[hl,iC h1]
   simp[List.getD,List.getElem?_eq_getElem h1]
 ·obtain⟨id,hid,rfl⟩:=List.mem_map.1 hx
  have hge:ρ0.length<=id:=by
   rcases Nat.lt_or_ge id ρ0.length with q|q
   ·exfalso
    rw[List.nodup_append]at hnd
    exact hnd.2.2 id (by simp[List.mem_range'_1,q]) id hid rfl
   ·exact q
  have l5:id<ρ.length:=by rw[hs.rl];exact hlt id (by simp[hid])
  rw[hl]at l5 ⊢
  simp only[List.length_append]at l5
  have:(ρ0++l).getD id 0=l[id-ρ0.length]'(by omega):=by
   simp only[List.getD]
   rw[List.getElem?_append_right hge,List.getElem?_eq_getElem (by omega)];rfl
  rw[this]
  exact hq _ (List.getElem_mem _)
theorem C9 {nf:Nat} (hN:w0.N<=H0.length) (hcl:ClH H0.length H0) {pre:List Pre} {sh:Sh} {s:Ty.aQ sh.tys} (hI:Inv Gl F own B w0 σ act w) (hS:Sim ρ X σ) (hF:Frm H0 ρ0 ρ σ.h) (hnf:nf=ρ0.length) (hx:vO nf pre sh X=some s):∃ F' own' σ' ρ',Inv Gl F' own' B w0 σ' act w/\Sim ρ' (emb sh s) σ'/\Frm H0 ρ0 ρ' σ'.h:=by
 obtain⟨F',own',σ',ρ',hI',hS',hF'⟩:=Me hnf hN hcl pre hI hS hF
 unfold vO at hx
 split at hx
 ·rename_i foc x he
  split at hx
  ·rename_i hb
   cases hx
   simp only[Bool.and_eq_true]at hb
   have hn:(zl nf pre X).t.length=sh.n:=by
    have h1:=beq_eq hb.2
    rw[<- h1,hS'.t.1,hS.t.1,<- hI'.tl,<- hI.tl]
   obtain⟨e1,e2,e3,e4⟩:=yj hS'.t hS'.h hn he
   exact⟨F',own',σ',_,hI',e1,J2 hS'.h hF' hnf hb.1 e4 e2⟩
  ·cases hx
 ·cases hx
def Std {β:Type} (H0:List ah) (ρ0:List Nat) (K:Exit->XS->Option β) (r:β) (e:Exit) (τ:St):Prop:=∃ ρ' X',Sim ρ' X' τ/\Frm H0 ρ0 ρ' τ.h/\K e X'=some r
theorem A8 {β:Type} {f:XS->Option β} {s:Nat} {k:IntKind} {m:Int} {X:XS} {r:β} (h:X.t.getD s .any=.d (.int k) m):∀ ns:List Int,DF f s k m X ns=some r->f X=some r
 |[],hx=>by cases hx
 |n::ns,hx=>by
  unfold DF at hx
  by_cases hm:iEq m n=true
  ·rw[hm]at hx
   have hm:m=n:=by simpa [iEq]using hm
   subst hm
   have hs:s<X.t.length:=by
    rcases Nat.lt_or_ge s X.t.length with q|q
    ·exact q
    ·simp[List.getD,List.getElem?_eq_none q]at h
   have:X.t.set s (.d (.int k) m)=X.t:=by
    apply List.ext_getElem?
    intro j
    rw[List.getElem?_set]
    split
    ·rename_i hj
     subst hj
     have h2:X.t[s]?=some (X.t.getD s .any):=by simp[List.getD,List.getElem?_eq_getElem hs]
     exact (h2.trans (congrArg some h)).symm
    ·rfl
   rw[this]at hx
   exact hx
  ·rw[Bool.not_eq_true]at hm
   rw[hm]at hx
   exact A8 h ns hx
theorem mG {nf:Nat} {oc:Option C} {β:Type} {K:Exit->XS->Option β} {r:β} {X:XS}:∀ {xc:XC},oc=some xc.er->xwp c nf xc β K X=some r->∃ xc':XC,oc=some xc'.er/\xwp c nf xc' β K X=some r/\∀ s k ns b,xc'≠.Bw s k ns b:=by
 intro xc
 induction xc with
 |Bw s k ns b ih =>
  intro h1 h2
  simp only[xwp]at h2
  split at h2
  ·rename_i k' m hm
   split at h2
   ·rename_i hk
    have hk:=of_decide_eq_true hk
    subst hk
    exact ih h1 (A8 hm _ h2)
   ·cases h2
  ·cases h2
 |_=>intro h1 h2;exact⟨_,h1,h2,fun s k ns b q=>by cases q⟩
theorem Jt (hc:aW P c) (hm:P.follows .mixedOrders=true) {hl0:List Nat} {N nf:Nat} (hN:w0.N=N) (hN0:w0.N<=H0.length) (hcl:ClH H0.length H0) (hnf:nf=ρ0.length):∀ (code:Code) (xc:XC),cC P hl0 code=some xc.er->∀ (β:Type) (K:Exit->XS->Option β) (r:β) (X:XS) (ρ:List Nat) (σ:St) (F:Addr->Option Value) (own:List Ent) (act:Act) (w:World),
  xwp c nf xc β K X=some r->Sim ρ X σ->Frm H0 ρ0 ρ σ.h->Inv (gx c.GX) F own B w0 σ act w->code.wp P (fun e a w=>NG e/\iP (gx c.GX) B w0 (Std H0 ρ0 K r e) a w) act w:=by
 intro code
 induction code with
 |skip =>
  intro xc hcc β K r X ρ σ F own act w hx hS hF hI
  obtain⟨xc,hcc,hx,hnt⟩:=mG hcc hx
  cases xc<;>first|exact (hnt _ _ _ _ rfl).elim|simp only[cC,XC.er,Option.some.injEq,reduceCtorEq]at hcc
  exact wp_skip ⟨j6,F,own,σ,hI,ρ,X,hS,hF,hx⟩
 |region id ops draw =>
  intro xc hcc β K r X ρ σ F own act w hx hS hF hI
  obtain⟨xc,hcc,hx,hnt⟩:=mG hcc hx
  refine vX hm hN _ _ hcc _ σ F own act w ?_ hI
  have hsp:SpR ρ X.h σ []:=fun q hq=>by simp at hq
  cases xc with
  |ops d l=>exact TS hc l X [] ρ σ hS hsp hF hx
  |oN U l =>
   refine⟨(U.filter fun j=>Nat.blt j X.h.length).map fun j=>ρ.getD j 0,Od (m:=X.h.length) (N:=σ.h.length) (U:=U) hc l X [] ρ σ hS hsp hF (fun i hi hi'=>⟨hS.h.lt hi,fun q=>?_,fun q=>List.mem_map.2 ⟨i,List.mem_filter.2 ⟨q,Nat.ble_eq_true_of_le hi⟩,rfl⟩⟩) (fun i hi hi'=>by rw[hS.h.rl]at hi';omega) (Nat.le_refl _) (Nat.le_refl _) hx⟩
   obtain⟨j,hj,he⟩:=List.mem_map.1 q
   obtain⟨h1,h2⟩:=List.mem_filter.1 hj
   have:=getD_inj hS.h.nd (by rw[hS.h.rl];exact ou h2) hi' he
   subst this;exact h1
  |Bw s k ns b=>exact (hnt s k ns b rfl).elim
  |_ =>
   exfalso
   cases draw with
   |false =>
    simp only[cC,XC.er]at hcc
    rw[Option.map_eq_some_iff]at hcc
    obtain⟨_,_,q⟩:=hcc
    cases q
   |true =>
    simp only[cC,XC.er]at hcc
    repeat' (split at hcc)
    all_goals cases hcc
 |seq a b iha ihb =>
  intro xc hcc β K r X ρ σ F own act w hx hS hF hI
  obtain⟨xc,hcc,hx,hnt⟩:=mG hcc hx
  simp only[cC]at hcc
  split at hcc
  ·rename_i x y hxa hyb
   cases xc<;>first|exact (hnt _ _ _ _ rfl).elim|simp only[XC.er,Option.some.injEq,reduceCtorEq,C.seq.injEq]at hcc
   case seq xa xb =>
    obtain⟨rfl,rfl⟩:=hcc
    refine wp_seq (wp_mono (iha xa hxa β _ r X ρ σ F own act w hx hS hF hI) ?_)
    rintro e a1 w1 ⟨ng,F1,bU,τ,hI1,ρ1,X1,hS1,hF1,hK⟩
    cases e with
    |normal=>exact ihb xb hyb β K r X1 ρ1 τ F1 bU a1 w1 hK hS1 hF1 hI1
    |_=>exact⟨ng,F1,bU,τ,hI1,ρ1,X1,hS1,hF1,hK⟩
   case JV pre sh xa xb =>
    obtain⟨rfl,rfl⟩:=hcc
    simp only[xwp]at hx
    generalize hA:xwp c nf xa (Ty.aQ sh.tys⊕β) (fun e Y=>match e with
     |.normal=>match vO nf pre sh Y with
      |some s'=>some (.inl s')
      |none=>none
     |e=>Option.map Sum.inr (K e Y)) X=oA at hx
    unfold vI at hx
    split at hx
    ·rename_i s0
     refine wp_seq (wp_mono (iha xa hxa _ _ _ X ρ σ F own act w hA hS hF hI) ?_)
     rintro e a1 w1 ⟨ng,F1,bU,τ,hI1,ρ1,X1,hS1,hF1,hK⟩
     cases e with
     |normal =>
      simp only at hK
      split at hK
      ·rename_i s2 hs2
       cases hK
       obtain⟨F2,Fp,σ2,ρ2,hI2,hS2,hF2⟩:=C9 hN0 hcl hI1 hS1 hF1 hnf hs2
       exact ihb xb hyb β K r _ ρ2 σ2 F2 Fp a1 w1 hx hS2 hF2 hI2
      ·cases hK
     |_ =>
      simp only[Option.map_eq_some_iff]at hK
      obtain⟨_,_,q⟩:=hK
      cases q
    ·rename_i r0
     cases hx
     refine wp_seq (wp_mono (iha xa hxa _ _ _ X ρ σ F own act w hA hS hF hI) ?_)
     rintro e a1 w1 ⟨ng,F1,bU,τ,hI1,ρ1,X1,hS1,hF1,hK⟩
     cases e with
     |normal =>
      simp only at hK
      split at hK<;>cases hK
     |_ =>
      simp only[Option.map_eq_some_iff]at hK
      obtain⟨r2,hr2,q⟩:=hK
      cases q
      exact⟨ng,F1,bU,τ,hI1,ρ1,X1,hS1,hF1,hr2⟩
    ·cases hx
  ·cases hcc
 |cond c0 a b iha ihb =>
  intro xc hcc β K r X ρ σ F own act w hx hS hF hI
  obtain⟨xc,hcc,hx,hnt⟩:=mG hcc hx
  simp only[cC]at hcc
  split at hcc
  ·rename_i x y hxa hyb
   cases xc<;>first|exact (hnt _ _ _ _ rfl).elim|simp only[XC.er,Option.some.injEq,reduceCtorEq,C.cond.injEq]at hcc
   rename_i o xa xb
   obtain⟨rfl,rfl,rfl⟩:=hcc
   simp only[xwp]at hx
   have hv:=uy (c:=c) hS (ay c0)
   split at hx
   case h_2=>cases hx
   rename_i t ht
   rw[ht]at hv
   have hva:=kI hv
   have he:=hI.ev c0
   rw[hva]at he
   refine wp_cond he.aS ?_
   have lit:∀ v:Bool,St.val (gx c.GX) σ (ay c0)=.v (.bool v)->Sim ρ (BS (ay c0) v X) σ:=by
    intro v hv
    unfold BS
    split
    ·rename_i i hi
     rw[hi]at hv
     exact⟨EN hS.t hv,hS.h⟩
    ·exact hS
   have key:∀ v:Bool,St.val (gx c.GX) σ (ay c0)=.v (.bool v)->cond v (xwp c nf xa β K (BS (ay c0) true X)) (xwp c nf xb β K (BS (ay c0) false X))=some r->Code.wp P (if v=true then a else b) (fun e a w=>NG e/\iP (gx c.GX) B w0 (Std H0 ρ0 K r e) a w) act w:=by
    intro v hv hx
    cases v with
    |true=>simp only[if_true];exact iha xa hxa β K r _ ρ σ F own act w hx (lit true hv) hF hI
    |false=>simp only[Bool.false_eq_true,if_false];exact ihb xb hyb β K r _ ρ σ F own act w hx (lit false hv) hF hI
   exact key t hva hx
  ·cases hcc
 |block id b ih =>
  intro xc hcc β K r X ρ σ F own act w hx hS hF hI
  obtain⟨xc,hcc,hx,hnt⟩:=mG hcc hx
  simp only[cC]at hcc
  cases hb:cC P hl0 b with
  |none=>rw[hb]at hcc;cases hcc
  |some x =>
   rw[hb]at hcc
   cases xc<;>first|exact (hnt _ _ _ _ rfl).elim|simp only[XC.er,Option.map_some,Option.some.injEq,reduceCtorEq,C.block.injEq]at hcc
   rename_i id' xb
   obtain⟨rfl,rfl⟩:=hcc
   refine wp_block (wp_mono (ih xb hb β _ r X ρ σ F own act w hx hS hF hI) ?_)
   rintro e a1 w1 ⟨ng,F1,bU,τ,hI1,ρ1,X1,hS1,hF1,hK⟩
   cases e with
   |exit i =>
    simp only at hK
    simp only[Exit.inBlock]
    by_cases hi:i=id
    ·rw[if_pos (by rw[hi];simp)]at hK
     rw[if_pos hi]
     exact⟨j6,F1,bU,τ,hI1,ρ1,X1,hS1,hF1,hK⟩
    ·rw[if_neg (fun q=>hi (beq_eq q))]at hK
     rw[if_neg hi]
     exact⟨uz _,F1,bU,τ,hI1,ρ1,X1,hS1,hF1,hK⟩
   |_=>exact⟨ng,F1,bU,τ,hI1,ρ1,X1,hS1,hF1,hK⟩
 |loop b ih =>
  intro xc hcc β K r X ρ σ F own act w hx hS hF hI
  obtain⟨xc,hcc,hx,hnt⟩:=mG hcc hx
  simp only[cC]at hcc
  cases hb:cC P hl0 b with
  |none=>rw[hb]at hcc;cases hcc
  |some x =>
   rw[hb]at hcc
   cases xc<;>first|exact (hnt _ _ _ _ rfl).elim|simp only[XC.er,Option.map_some,Option.some.injEq,reduceCtorEq,C.loop.injEq]at hcc
   case loop pre sh xb =>
    subst hcc
    simp only[xwp]at hx
    split at hx
    case h_2=>cases hx
    rename_i s0 hs0
    obtain⟨F0,tO,σ0,ρ0',hI0,hS0,hF0⟩:=C9 hN0 hcl hI hS hF hnf hs0
    obtain⟨n,hn⟩:=qO.1 hx
    have key:∀ (n:Nat) (s:Ty.aQ sh.tys) (ρ:List Nat) (σ:St) (F:Addr->Option Value) (own:List Ent) (act:Act) (w:World),kV (fun s=>xwp c nf xb (Ty.aQ sh.tys ⊕ β) (fun e Y=>match e with
      |.normal=>match vO nf pre sh Y with
       |some s'=>some (.inl s')
       |none=>none
      |e=>Option.map Sum.inr (K e Y)) (emb sh s)) n s=some r->Sim ρ (emb sh s) σ->Frm H0 ρ0 ρ σ.h->Inv (gx c.GX) F own B w0 σ act w->Code.rounds P b (fun e a w=>NG e/\iP (gx c.GX) B w0 (Std H0 ρ0 K r e) a w) n act w:=by
     intro n
     induction n with
     |zero=>intro s ρ σ F own act w hr;cases hr
     |succ n ihn =>
      intro s ρ σ F own act w hr hS hF hI
      simp only[kV]at hr
      rw[rounds_succ]
      split at hr
      ·rename_i s' hs'
       refine wp_mono (ih xb hb _ _ _ _ ρ σ F own act w hs' hS hF hI) ?_
       rintro e a1 w1 ⟨ng,F1,bU,τ,hI1,ρ1,X1,hS1,hF1,hK⟩
       cases e with
       |normal =>
        simp only at hK
        split at hK
        ·rename_i s2 hs2
         cases hK
         obtain⟨F2,Fp,σ2,ρ2,hI2,hS2,hF2⟩:=C9 hN0 hcl hI1 hS1 hF1 hnf hs2
         exact ihn s' ρ2 σ2 F2 Fp a1 w1 hr hS2 hF2 hI2
        ·cases hK
       |_ =>
        simp only[Option.map_eq_some_iff]at hK
        obtain⟨_,_,q⟩:=hK
        cases q
      ·rename_i r' hs'
       cases hr
       refine wp_mono (ih xb hb _ _ _ _ ρ σ F own act w hs' hS hF hI) ?_
       rintro e a1 w1 ⟨ng,F1,bU,τ,hI1,ρ1,X1,hS1,hF1,hK⟩
       cases e with
       |normal =>
        simp only at hK
        split at hK<;>cases hK
       |_ =>
        simp only[Option.map_eq_some_iff]at hK
        obtain⟨r2,hr2,q⟩:=hK
        cases q
        exact⟨ng,F1,bU,τ,hI1,ρ1,X1,hS1,hF1,hr2⟩
      ·cases hr
    exact wp_loop_rounds n (key n s0 ρ0' σ0 F0 tO act w hn hS0 hF0 hI0)
   case Ay n xb =>
    subst hcc
    simp only[xwp]at hx
    have key:∀ (n:Nat) (X:XS) (ρ:List Nat) (σ:St) (F:Addr->Option Value) (own:List Ent) (act:Act) (w:World),xM (fun k Y=>xwp c nf xb β (fun e Z=>match e with|.normal=>k Z|e=>K e Z) Y) n X=some r->Sim ρ X σ->Frm H0 ρ0 ρ σ.h->Inv (gx c.GX) F own B w0 σ act w->Code.rounds P b (fun e a w=>NG e/\iP (gx c.GX) B w0 (Std H0 ρ0 K r e) a w) n act w:=by
     intro n
     induction n with
     |zero=>intro X ρ σ F own act w hr;cases hr
     |succ n ihn =>
      intro X ρ σ F own act w hr hS hF hI
      simp only[xM]at hr
      rw[rounds_succ]
      refine wp_mono (ih xb hb _ _ _ _ ρ σ F own act w hr hS hF hI) ?_
      rintro e a1 w1 ⟨ng,F1,bU,τ,hI1,ρ1,X1,hS1,hF1,hK⟩
      cases e with
      |normal=>exact ihn X1 ρ1 τ F1 bU a1 w1 hK hS1 hF1 hI1
      |_=>exact⟨ng,F1,bU,τ,hI1,ρ1,X1,hS1,hF1,hK⟩
    exact wp_loop_rounds n (key n X ρ σ F own act w hx hS hF hI)
 |exit id =>
  intro xc hcc β K r X ρ σ F own act w hx hS hF hI
  obtain⟨xc,hcc,hx,hnt⟩:=mG hcc hx
  cases xc<;>first|exact (hnt _ _ _ _ rfl).elim|simp only[cC,XC.er,Option.some.injEq,reduceCtorEq,C.exit.injEq]at hcc
  subst hcc
  exact wp_exit ⟨uz _,F,own,σ,hI,ρ,X,hS,hF,hx⟩
 |ret =>
  intro xc hcc β K r X ρ σ F own act w hx hS hF hI
  obtain⟨xc,hcc,hx,hnt⟩:=mG hcc hx
  cases xc<;>first|exact (hnt _ _ _ _ rfl).elim|simp only[cC,XC.er,Option.some.injEq,reduceCtorEq]at hcc
  exact wp_ret ⟨MF,F,own,σ,hI,ρ,X,hS,hF,hx⟩
 |label l =>
  intro xc hcc β K r X ρ σ F own act w hx hS hF hI
  obtain⟨xc,hcc,hx,hnt⟩:=mG hcc hx
  cases xc<;>first|exact (hnt _ _ _ _ rfl).elim|simp only[cC,XC.er,Option.some.injEq,reduceCtorEq]at hcc
  exact wp_label ⟨j6,F,own,σ,hI,ρ,X,hS,hF,hx⟩
 |scope b ih =>
  intro xc hcc β K r X ρ σ F own act w hx hS hF hI
  obtain⟨xc,hcc,hx,hnt⟩:=mG hcc hx
  refine wp_scope_straight (wp_mono (ih xc hcc β K r X ρ σ F own act w hx hS hF hI) ?_)
  rintro e a1 w1 ⟨ng,hK⟩
  cases e with
  |goto l=>exact absurd rfl (ng l)
  |_=>exact⟨ng,hK⟩
 |_=>intro xc hcc;cases hcc
theorem Cu (hc:aW P c) (hm:P.follows .mixedOrders=true) {hl0:List Nat} {N nf:Nat} (hN:w0.N=N) (hN0:w0.N<=H0.length) (hcl:ClH H0.length H0) (hnf:nf=ρ0.length):∀ (code:Code) (xc:XC),cC P hl0 code=some xc.er->∀ (β:Type) (K:Exit->XS->Option β) (r:β) (X:XS) (ρ:List Nat) (σ:St) (F:Addr->Option Value) (own:List Ent) (act:Act) (w:World),
  xwp c nf xc β K X=some r->Sim ρ X σ->Frm H0 ρ0 ρ σ.h->Inv (gx c.GX) F own B w0 σ act w->code.wp P (fun e a w=>iP (gx c.GX) B w0 (Std H0 ρ0 K r e) a w) act w:=by
 intro code xc hcc β K r X ρ σ F own act w hx hS hF hI
 exact wp_mono (Jt hc hm hN hN0 hcl hnf code xc hcc β K r X ρ σ F own act w hx hS hF hI) fun e a w h=>h.2
end
end Abs
end Go.Proofs.YtgfnhpadmifiiaaDoor
end
section
namespace Go.Proofs.YtgfnhpadmifiiaaDoor
namespace Abs
open Go.RowKit
section
variable {P:Program} {c:Cfg} {ρ:List Nat} {X:XS} {σ:St}
theorem Et (hS:Sim ρ X σ):∀ (rv:List RV) (vs:List XV),qI c X rv=some vs->∃ p l,lu (gx c.GX) σ rv=some (p,l)/\p/\aI (VT ρ X.h) vs l:=by
 intro rv
 induction rv with
 |nil=>intro vs h;cases h;exact⟨True,[],rfl,trivial,.nil⟩
 |cons v rv ih =>
  intro vs h
  cases v with
  |t i =>
   simp only[qI]at h
   split at h
   ·rename_i l hl
    cases h
    obtain⟨p,m,h1,h2,h3⟩:=ih l hl
    exact⟨p,_,by simp only[lu,h1,Option.map_some],h2,.cons (l6 hS.t i) h3⟩
   ·cases h
  |c i sz ag =>
   simp only[qI]at h
   split at h
   ·rename_i v1 kl h' l hst hl
    cases h
    obtain⟨p,m,h1,h2,h3⟩:=ih l hl
    obtain⟨q,a,H',ρ',tch,e1,e2,e3,e4,e5⟩:=wh (.load sz ag (.t i)) hS.h (uy hS) _ _ _ _ hst rfl
    obtain⟨c1,c2⟩:=wm (i:=.load sz ag (.t i)) (by simp[I.cls]) hst
    subst c1 c2
    have hρ:=Ck e3 hS.h.rl rfl
    subst hρ
    exact⟨q/\p,a::m,by simp only[lu,e1,h1],⟨e2,h2⟩,.cons e4 h3⟩
   ·cases h
theorem QA:∀ (ps:List Ty) (x:Ty.aQ ps),(encs ps x).length=ps.length:=by
 intro ps
 induction ps with
 |nil=>intro x;rfl
 |cons T ps ih=>intro x;simp only[encs,List.length_cons,ih]
theorem Jl (ρ:List Nat) (h:List XO) (n:Nat):aI (VT ρ h) (List.replicate n .any) (List.replicate n AV.any) :=
 ⟨by simp,fun i x a p q=>by
  have:=List.eq_of_mem_replicate (List.mem_of_getElem? p)
  subst this;trivial⟩
theorem EX {Gl:Nat->Option (List AV)} {rv:List RV} {p:Prop} {l:List AV} (e1:lu Gl σ rv=some (p,l)) (hone:¬ ∃ a,l=[a]):mg Gl σ rv=some (p,.tup l):=by
 unfold mg
 rw[e1]
 match l,hone with
 |[],_=>rfl
 |[a],h=>exact absurd ⟨a,rfl⟩ h
 |a::b::l,_=>rfl
theorem VQ {rv:List RV} {rs:List Ty} {y:Ty.aQ rs} {e:Exit} (hS:Sim ρ X σ) (hK:Ju c rv rs e X=some y):Ends (gx c.GX) rv (mo (encs rs y)) e σ:=by
 have key:∀ vs,qI c X rv=some vs->qX X.h rs vs=some y->∃ p a b,mg (gx c.GX) σ rv=some (p,a)/\p/\Kl σ.h a=some b/\Wk b (mo (encs rs y)):=by
  intro vs h1 h2
  obtain⟨p,l,e1,e2,e3⟩:=Et hS rv vs h1
  obtain⟨bs,k1,k2,k3,k4⟩:=GL hS.h rs vs y l h2 e3
  by_cases hone:∃ a,l=[a]
  ·obtain⟨a,rfl⟩:=hone
   obtain⟨v,vs',rfl,hv,hvs⟩:=e3.cons_right
   have:=hvs.nK
   subst this
   simp only[aP]at k1
   split at k1
   ·rename_i b l' hb hl'
    cases hl'
    cases k1
    obtain⟨en,r,he,hw,ht⟩:=k2.dW
    have hr:=ht.iy
    subst hr
    refine⟨p,a,b,by simp only[mg,e1],e2,?_,?_⟩
    ·have hnt:∀ us,a ≠ .tup us:=fun us q=>by
      subst q
      simp[bK,bO]at hb
     cases a<;>first|exact hb|exact absurd rfl (hnt _)
    ·rw[he];exact hw.wk
   ·cases k1
  ·refine⟨p,.tup l,.tup bs,?_,e2,by simp only[Kl,k1,Option.map_some],?_⟩
   ·exact EX e1 hone
   ·have hlen:l.length=(encs rs y).length:=by
     have h3:=k2.1
     have:∀ {as bs:List AV},aP σ.h as=some bs->as.length=bs.length:=by
      intro as
      induction as with
      |nil=>intro bs q;cases q;rfl
      |cons a as ih =>
       intro bs q
       simp only[aP]at q
       split at q
       ·rename_i b m _ hm;cases q;simp[ih hm]
       ·cases q
     rw[this k1,h3]
    have hot:mo (encs rs y)=.tup (encs rs y):=by
     unfold mo
     split
     ·rename_i a ha
      exfalso
      rw[ha]at hlen
      match l,hlen with
      |[x],_=>exact hone ⟨x,rfl⟩
     ·rfl
    rw[hot]
    exact Wk.tup k2.1 fun j a b p q=>(k2.2 j a b p q).wk
 unfold Ju at hK
 cases e with
 |normal =>
  simp only at hK
  split at hK
  ·rename_i vs h1;exact⟨trivial,key vs h1 hK⟩
  ·cases hK
 |ret =>
  simp only at hK
  split at hK
  ·rename_i vs h1;exact⟨trivial,key vs h1 hK⟩
  ·cases hK
 |_=>cases hK
theorem pok (hm:P.follows .mixedOrders=true) (hc:aW P c) {f n:Nat} {xc:XC} {rv:List RV} {ps rs:List Ty} {run:Ty.aQ ps->Option (Ty.aQ rs)} (hf:Fn P f n xc.er rv) (hrun:∀ x,dR c xc n rv ps rs x=run x):POk P (gx c.GX) ⟨f,ps,rs,run⟩:=by
 refine⟨hf.callable,?_⟩
 intro x y hy
 have hy:run x=some y:=hy
 rw[<- hrun]at hy
 obtain⟨fn,hl,h1,h2,h3,rfl,_⟩:=hf
 cases hb:fn.body with
 |none=>rw[hb]at h2;cases h2
 |some code =>
  rw[hb]at h2
  refine Pure.ofW h1 hb h3 ?_
  intro F own B w0 act w hN hI
  have hS:Sim [] ⟨xZ ps x++List.replicate (fn.ntmps-ps.length) .any,[]⟩ ⟨encs ps x++List.replicate (fn.ntmps-(encs ps x).length) .any,[]⟩:=by
   refine⟨?_,rfl,List.nodup_nil,fun i o q=>by simp at q⟩
   rw[QA]
   exact ((FQ ps x).mono fun _ _ q=>VT.ofA q).append (Jl _ _ _)
  refine wp_mono (Cu (H0:=[]) (ρ0:=[]) hc hm hN (Nat.le_of_eq hN) (fun j O q=>by simp at q) rfl code xc h2 _ (Ju c rv rs) y _ [] _ F own act w hy hS (Frm.refl [] []) hI) ?_
  rintro e a1 w1 ⟨F1,bU,τ,hI1,ρ1,X1,hS1,hF1,hK⟩
  exact⟨F1,bU,τ,hI1,VQ hS1 hK⟩
theorem VR {ρ:List Nat} {sh:Sh} {x:Ty.aQ sh.tys} {as:List AV} {H:List ah} (hS:Sim ρ (emb sh x) ⟨as,H⟩):as.length=sh.n:=by
 have h1:=hS.t.1
 rw[<- h1]
 have hv:∀ (vs:List (Nat×Ty)) (r:List Ty) (x:Ty.aQ (rE vs r)) (b:List XV),(p9 vs r x b).1.length=b.length:=by
  intro vs
  induction vs with
  |nil=>intro r x b;rfl
  |cons p vs ih=>intro r x b;obtain⟨s,T⟩:=p;simp only[p9];rw[ih];simp
 have hr:∀ (refs:List (Nat×SR)) (r:List Ty) (x:Ty.aQ (fu refs r)) (b:List XV),(j3 refs r x b).1.length=b.length:=by
  intro refs
  induction refs with
  |nil=>intro r x b;rfl
  |cons p refs ih =>
   intro r x b
   obtain⟨s,sr⟩:=p
   cases sr with
   |row j=>exact (ih r x _).trans (by simp)
   |ptr j i o=>exact (ih r x _).trans (by simp)
   |nil=>exact (ih r x _).trans (by simp)
   |mp j=>exact (ih r x _).trans (by simp)
   |sub j o n=>exact (ih r x _).trans (by simp)
   |cst k n=>exact (ih r x _).trans (by simp)
   |agg cs=>exact (ih r _ _).trans (by simp)
 refine (hr sh.refs (SO.tys sh.objs) _ _).trans ?_
 refine (hv sh.vars _ x _).trans ?_
 simp
theorem hok (hm:P.follows .mixedOrders=true) (hc:aW P c) {f n:Nat} {xc:XC} {rv:List RV} {pre:List Pre} {ish osh:Sh} {run:Ty.aQ ish.tys->Option (Ty.aQ osh.tys)} {kp:List Nat} (hf:Fn P f n xc.er rv) (hrun:∀ x,kD c xc n rv pre ish osh x=run x):HOk P (gx c.GX) ⟨f,ish,osh,run,kp⟩:=by
 refine⟨hf.callable,?_⟩
 intro x y hy H ρ as hS0
 have hS0:Sim ρ (emb ish x) ⟨as,H⟩:=hS0
 have hy:run x=some y:=hy
 rw[<- hrun]at hy
 obtain⟨fn,hl,h1,h2,h3,rfl,_⟩:=hf
 cases hb:fn.body with
 |none=>rw[hb]at h2;cases h2
 |some code =>
  rw[hb]at h2
  refine fP.ofW h1 hb h3 ?_
  intro F own B w0 act w hN hI
  have hlen:=VR hS0
  have hS:Sim ρ ⟨(emb ish x).t++List.replicate (fn.ntmps-ish.n) .any,(emb ish x).h⟩ ⟨as++List.replicate (fn.ntmps-as.length) .any,H⟩:=by
   refine⟨?_,hS0.h⟩
   rw[hlen]
   exact hS0.t.append (Jl _ _ _)
  have hrl:ish.objs.length=ρ.length:=by
   rw[hS0.h.rl]
   have:=congrArg List.length (sU ish.objs (u6 ish x).2)
   simp only[List.length_map]at this
   exact this.symm
  refine wp_mono (Cu (H0:=H) (ρ0:=ρ) hc hm hN (Nat.le_of_eq hN) hI.clH hrl code xc h2 _ _ y _ ρ _ F own act w hy hS (Frm.refl H ρ) hI) ?_
  rintro e a1 w1 ⟨F1,bU,τ,hI1,ρ1,X1,hS1,hF1,hK⟩
  obtain⟨F2,Fp,σ2,ρ2,hI2,hS2,hF2⟩:=Me hrl (Nat.le_of_eq hN) hI.clH pre hI1 hS1 hF1
  simp only at hK
  split at hK
  case h_2=>cases hK
  rename_i vs he hvs
  obtain⟨p,l,e1,e2,e3⟩:=Et hS2 rv vs hvs
  have hext:∃ foc,ext ish.objs.length osh ⟨vs,(zl ish.objs.length pre X1).h⟩=some (foc,y)/\oK ish.objs.length 0 foc=true/\vs.length=osh.n:=by
   unfold vO at hK
   split at hK
   ·rename_i foc x' hx'
    split at hK
    ·rename_i hb'
     cases hK
     simp only[Bool.and_eq_true]at hb'
     exact⟨foc,hx',hb'.1,beq_eq hb'.2⟩
    ·cases hK
   ·cases hK
  obtain⟨foc,hx1,hx2,hx3⟩:=hext
  obtain⟨q1,q2,q3,q4⟩:=yj (X:=⟨vs,(zl ish.objs.length pre X1).h⟩) e3 hS2.h hx3 hx1
  have hfr:=J2 hS2.h hF2 hrl hx2 q4 q2
  refine⟨F2,Fp,σ2,hI2,?_,?_⟩
  ·cases e<;>first|trivial|cases he
  ·by_cases hone:∃ a,l=[a]
   ·obtain⟨a,rfl⟩:=hone
    exact⟨p,a,by simp only[mg,e1],e2,_,[a],q1,rfl,hfr⟩
   ·refine⟨p,.tup l,EX e1 hone,e2,_,l,q1,?_,hfr⟩
    unfold mo
    split
    ·rename_i a;exact absurd ⟨_,rfl⟩ hone
    ·rfl
theorem fP.kz {Gl:Nat->Option (List AV)} {f:FuncId} {h0:List ah} {as:List AV} {Q0 Q:AV->List ah->Prop} (h:fP P Gl f h0 as Q0) (hq:∀ res h',Q0 res h'->∃ b,bK h' res=some b/\Q b (freeze h' (aT res))):fP P Gl f h0 as Q:=by
 intro F own B w0 t act w xs hI hxs
 refine (h F own B w0 t act w xs hI hxs).mono ?_
 rintro e w' ⟨v,res,h',F',own',rfl,hI',hR,hQ⟩
 obtain⟨b,k1,k2⟩:=hq res h' hQ
 obtain⟨F1,hF1,hI1,hkp⟩:=hI'.ru (aT res)
 obtain⟨r1,_,_⟩:=mQ hI' hF1 hR k1 hkp
 exact⟨v,b,_,F1,own',rfl,hI1,.pure r1,k2⟩
theorem aK (tt:Nat->Option Ty) (GX:GXT):aW P ⟨tt,GX,[],[]⟩:=⟨by simp,by simp⟩
theorem aZ {tt:Nat->Option Ty} {GX:GXT} {p:PI} {pis:List PI} {his:List HI} (h:POk P (gx GX) p) (hc:aW P ⟨tt,GX,pis,his⟩):aW P ⟨tt,GX,p::pis,his⟩:=⟨fun q hq=>by
 rcases List.mem_cons.1 hq with rfl|hq
 ·exact h
 ·exact hc.pis q hq,hc.his⟩
theorem gT {tt:Nat->Option Ty} {GX:GXT} {p:HI} {pis:List PI} {his:List HI} (h:HOk P (gx GX) p) (hc:aW P ⟨tt,GX,pis,his⟩):aW P ⟨tt,GX,pis,p::his⟩:=⟨hc.pis,fun q hq=>by
 rcases List.mem_cons.1 hq with rfl|hq
 ·exact h
 ·exact hc.his q hq⟩
end
end Abs
end Go.Proofs.YtgfnhpadmifiiaaDoor
end
section
namespace Go.Proofs.YtgfnhpadmifiiaaDoor
namespace Abs
theorem a0Y {a b:Int} (h:a<=b):iLe a b=true:=decide_eq_true h
theorem a0Z {a b:Int} (h:b<a):iLe a b=false:=decide_eq_false (by omega)
theorem E8 {a b:Int} (h:a=b):iEq a b=true:=by simp[iEq,h]
theorem AB {a b:Int} (h:a≠b):iEq a b=false:=by simp[iEq,h]
theorem a0X {a b:Int} (h:a≠b):iNe a b=true:=by simp[iNe,h]
theorem a2b {n m:Int} (h:0<=n) (h':n<m):bnd n m=true:=by simp[bnd,h,h']
theorem aF {a b:Int} (h1:-9223372036854775808<=a+b) (h2:a+b<=9223372036854775807):aM .i64 a b=a+b:=wrap64 h1 h2
theorem bS {a b:Int} (h1:-9223372036854775808<=a-b) (h2:a-b<=9223372036854775807):dS .i64 a b=a-b:=wrap64 h1 h2
theorem fK {a b:Int} (h1:-9223372036854775808<=a*b) (h2:a*b<=9223372036854775807):wX .i64 a b=a*b:=wrap64 h1 h2
theorem aB {α:Type} (xs:List α):aj xs=(xs.length:Int):=rfl
section
variable {S R:Type} {step:S->Option (S⊕R)}
theorem IG {s s':S} (h:step s=some (.inl s')):bX step s=bX step s':=by rw[FN,h]
theorem zu {s:S} {r:R} (h:step s=some (.inr r)):bX step s=some r:=by rw[FN,h]
end
end Abs
end Go.Proofs.YtgfnhpadmifiiaaDoor
end
