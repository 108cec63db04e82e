/- Merged and trimmed by a program: X9 XA XB XD XE XF XG XM XH. -/
import Derived.Test.YtnhgeocdffhkjaaGreatDoorZFC
import Derived.LoopN
set_option linter.unusedVariables false
set_option linter.unusedSimpArgs false
set_option linter.defProp false
namespace Go.Proofs.YtnhgeocdffhkjaaGreatDoor
namespace Abs
section
open Go.RowKit
section
variable {ρ:List Nat} {h:List XO} {H:List AObj} {σ:St} {Gl:Nat→Option (List AV)} {rd:Opd→XV} {tt:Nat→Option Ty}
theorem st_cells {a:AV} (hs:stCells false a=some a.cells):∀ c ∈ a.cells,c.cells=[c]:=by
 intro c hc
 have hst:st1 false c=true:=by
  cases a with
  | agg as =>
   simp only [stCells] at hs
   split at hs
   ·rename_i hall; exact List.all_eq_true.1 hall c hc
   ·cases hs
  | _ =>
   simp only [stCells] at hs
   split at hs
   ·rename_i h1
    simp only [AV.cells,List.mem_singleton] at hc
    subst hc; exact h1
   ·cases hs
 cases c <;> first | rfl | (cases hst; done)
theorem sim_store (sz:Nat) (x y:Opd):SimI Gl ρ h σ rd tt (.store sz x y):=by
 intro hs hrd p v kl h' hx hp
 simp only [xstep] at hx
 have hv:=hrd x
 have hvy:=hrd y
 split at hx
 case h_2=>cases hx
 rename_i id i o h1
 rw [h1] at hv
 obtain ⟨ob,he,ha⟩:=hv
 rw [he] at hx
 obtain ⟨O,hO,hR⟩:=hs.hr id ob he
 have hleave:∀ ok:Nat→Bool,leaves ok rd (.store sz x y)=true→∀ id' ∈ [id],ok id'=true:=by
  intro m hm id' hid
  simp only [leaves,h1,Bool.and_eq_true] at hm
  simp only [List.mem_singleton] at hid
  subst hid
  exact hm.1
 cases ob with
 | vec ty cs=>cases hx
 | map ty K V es=>cases hx
 | row ty T fz es =>
  obtain ⟨o1,o2,o3,o4,o5⟩:=hR
  have hlen:O.es.length=es.length:=by have:=o5.1; simpa using this
  simp only at hx
  split at hx
  ·rename_i T' w h2
   rw [h2] at hvy
   split at hx
   ·rename_i hz
    have hz:=beq_eq hz
    split at hx
    ·rename_i z hset
     cases hx
     have hlt:i < es.length:=of_decide_eq_true hp
     have hst:=wp_st (x:=w) hvy O.pr
     have hcl:(σ.val Gl y).cells.length=sz:=by rw [(Wp.cells hvy).1,enc_cells,hz]
     obtain ⟨s1,s2⟩:=set_ok o5 hlt hvy hset
     refine ⟨o + sz≤O.sz∧i < es.length∧O.fz≤i,.any,_,ρ,[id],by simp only [step,ha,hO,XO.len,hlen,if_true,hst,hcl] <;> rfl,⟨by rw [o2]; omega,hlt,by rw [o4]; simp⟩,?_,trivial,hleave⟩
     exact Upd.set hs he ⟨rfl,rfl,by simp⟩ ⟨o1,o2,o3,by simpa using o4,s2⟩
    ·cases hx
   ·cases hx
  ·rename_i cs h2
   rw [h2] at hvy
   split at hx
   ·rename_i ho
    have ho:=beq_eq ho
    subst ho
    split at hx
    ·rename_i z hz
     split at hx
     ·rename_i hsz
      have hsz:=beq_eq hsz
      cases hx
      have hlt:i < es.length:=of_decide_eq_true hp
      have hw:=toD_pure hz (VT.notup hvy (fun vs q=>by cases q))
      have hst:=wp_st (x:=z) hw O.pr
      have hcl:(σ.val Gl y).cells.length=sz:=by rw [(Wp.cells hw).1,enc_cells,hsz]
      have s2:=whole_ok o5 hlt hw
      refine ⟨0 + sz≤O.sz∧i < es.length∧O.fz≤i,.any,_,ρ,[id],by simp only [step,ha,hO,XO.len,hlen,if_true,hst,hcl] <;> rfl,⟨by rw [o2]; omega,hlt,by rw [o4]; simp⟩,?_,trivial,hleave⟩
      exact Upd.set hs he ⟨rfl,rfl,by simp⟩ ⟨o1,o2,o3,by simpa using o4,s2⟩
     ·cases hx
    ·split at hx
     case h_2=>cases hx
     rename_i z hz
     split at hx
     case isFalse=>cases hx
     rename_i hb
     cases hx
     simp only [Bool.and_eq_true,Bool.not_eq_true'] at hb
     obtain ⟨⟨hb1,hb2⟩,hb3⟩:=hb
     have hsz:=beq_eq hb1
     have hlt:i < es.length:=of_decide_eq_true hp
     obtain ⟨b,k1,k2,k3,k4⟩:=toD_keep hs hz (VT.notup hvy (fun vs q=>by cases q))
     have hnone:stCells O.pr (σ.val Gl y)=none:=by
      obtain ⟨as,ha2,hl⟩:=hvy
      obtain ⟨c,hc,hcr⟩:=List.any_eq_true.1 hb2
      obtain ⟨j,hj⟩:=List.mem_iff_getElem?.1 hc
      obtain ⟨d,hd,hv1⟩:=hl.get_left hj
      have hst:st1 true d=false:=by
       cases c with
       | row j=>obtain ⟨_,_,_,_,_,rfl⟩:=hv1; rfl
       | sub j o l=>obtain ⟨_,_,_,_,_,rfl⟩:=hv1; rfl
       | _=>simp [rowsX1] at hcr
      have hall:as.all (st1 true)=false:=by
       rcases q:as.all (st1 true) with _ | _
       ·rfl
       ·have:=List.all_eq_true.1 q d (List.mem_of_getElem? hd); rw [hst] at this; cases this
      rw [ha2,o3]
      simp [stCells,hall]
     have u1:=Upd.frz _ hs k4
     have he2:(frzX h (rowsX (.agg cs)))[id]?=some (.row ty T false es):=by
      have hid:id ∉ rowsX (.agg cs):=fun q=>by
       have:(rowsX (.agg cs)).any (Nat.beq id)=true:=List.any_eq_true.2 ⟨id,q,Nat.beq_refl id⟩
       rw [this] at hb3; cases hb3
      have key:∀ (ids:List Nat) (g:List XO),id ∉ ids→(frzX g ids)[id]?=g[id]?:=by
       intro ids
       induction ids with
       | nil=>intro g _; rfl
       | cons j ids ih =>
        intro g hn
        have hj:j ≠ id:=fun q=>hn (by simp [q])
        have hi:id ∉ ids:=fun q=>hn (by simp [q])
        simp only [frzX,List.foldl_cons]
        have:=fun g=>ih g hi
        simp only [frzX] at this
        rw [this]
        cases hg:g[j]? with
        | none=>rfl
        | some o=>exact List.getElem?_set_ne hj
      rw [key _ _ hid]; exact he
     obtain ⟨O',hO',p1,p2,p3,p4,p5⟩:=u1.hs.hr id _ he2
     have hst:=wp_st k2 O'.pr
     have hcl:b.cells.length=sz:=by rw [(Wp.cells k2).1,enc_cells,hsz]
     have s2:=whole_ok p5 hlt k2
     rw [← k3] at hO' u1
     refine ⟨0 + sz≤O'.sz∧i < es.length∧O'.fz≤i,.any,_,ρ,rowsX (.agg cs) ++ [id],by simp only [step,ha,hO,XO.len,hlen,if_true,hnone,k1,hO',hst,hcl] <;> rfl,⟨by rw [p2]; omega,hlt,by rw [p4]; simp⟩,?_,trivial,fun ok hok id' hid=>?_⟩
     ·exact u1.trans (Upd.set u1.hs he2 ⟨rfl,rfl,by simp⟩ ⟨p1,p2,p3,by simpa using p4,s2⟩) hs.rl
     ·simp only [leaves,h1,h2,Bool.and_eq_true] at hok
      rcases List.mem_append.1 hid with q | q
      ·exact List.all_eq_true.1 hok.2 id' q
      ·exact hleave ok (by simp only [leaves,h1,h2,Bool.and_eq_true]; exact hok) id' q
   ·split at hx
    case h_2=>cases hx
    rename_i T' _
    split at hx
    case h_2=>cases hx
    rename_i v hz
    split at hx
    case h_2=>cases hx
    rename_i z hset
    split at hx
    case isFalse=>cases hx
    rename_i hsz
    have hsz:=beq_eq hsz
    cases hx
    have hlt:i < es.length:=of_decide_eq_true hp
    have hw:=toD_pure hz (VT.notup hvy (fun vs q=>by cases q))
    have hst:=wp_st (x:=v) hw O.pr
    have hcl:(σ.val Gl y).cells.length=sz:=by rw [(Wp.cells hw).1,enc_cells,hsz]
    obtain ⟨s1,s2⟩:=set_ok o5 hlt hw hset
    refine ⟨o + sz≤O.sz∧i < es.length∧O.fz≤i,.any,_,ρ,[id],by simp only [step,ha,hO,XO.len,hlen,if_true,hst,hcl] <;> rfl,⟨by rw [o2]; omega,hlt,by rw [o4]; simp⟩,?_,trivial,hleave⟩
    exact Upd.set hs he ⟨rfl,rfl,by simp⟩ ⟨o1,o2,o3,by simpa using o4,s2⟩
  ·cases hx
 | box ty cs =>
  obtain ⟨o1,o2,o3,o4,e,o5,hc⟩:=hR
  have hlen:O.es.length=1:=by rw [o5]; rfl
  simp only at hx
  split at hx
  ·rename_i vs hvs
   split at hx
   ·rename_i hb
    cases hx
    simp only [Bool.and_eq_true] at hb
    have hi:=beq_eq hb.1.1.1
    have hsz:=beq_eq hb.1.1.2
    have hl:=Nat.le_of_ble_eq_true hb.1.2
    have h0:=blt_t hb.2
    subst hi
    obtain ⟨c1,c2⟩:=cells_ok hvs hvy
    have hcl:(σ.val Gl y).cells.length=sz:=by rw [← c1.1,hsz]
    have hst:stCells O.pr (σ.val Gl y)=some (σ.val Gl y).cells:=by rw [o3]; exact c2
    refine ⟨o + sz≤O.sz∧0 < 1∧O.fz≤0,.any,_,ρ,[id],by simp only [step,ha,hO,XO.len,hlen,if_true,hst,hcl] <;> rfl,⟨by rw [o2]; exact hl,by omega,by rw [o4]; simp⟩,?_,trivial,hleave⟩
    refine Upd.set hs he trivial ⟨o1,?_,o3,o4,setCells e o (σ.val Gl y).cells,by simp only [o5,List.set_cons_zero,List.getD_cons_zero],?_⟩
    ·simp only [List.length_append,List.length_take,List.length_drop]; rw [o2]; omega
    ·cases e with
     | agg us =>
      have hc:All2 (V1 ρ h) cs us:=hc
      show All2 (V1 ρ h) _ (us.take o ++ (σ.val Gl y).cells ++ us.drop (o + (σ.val Gl y).cells.length))
      rw [hcl,← hsz]
      have:=((hc.take o).append c1).append (hc.drop (o + vs.length))
      exact this
     | _ =>
      have hcl1:cs.length=1:=by rw [hc.1]; rfl
      have ho:o=0:=by omega
      have hs1:vs.length=1:=by omega
      subst ho
      have hcs:(σ.val Gl y).cells.length=1:=by omega
      match hcc:(σ.val Gl y).cells,hcs with
      | [c],_ =>
       rw [hcc] at c1
       have hc1:=st_cells c2 c (by rw [hcc]; simp)
       show All2 (V1 ρ h) _ c.cells
       rw [hc1,List.take_zero,List.nil_append,List.drop_eq_nil_of_le (by omega),List.append_nil]
       exact c1
   ·cases hx
  ·cases hx
theorem cutL_map {e:Ty} {l u:Int} {xs:List e.den} {as:List AV} (hc:All2 Wp as (xs.map (Ty.enc e))):All2 Wp ((as.take u.toNat).drop l.toNat) ((cutL l u xs).map (Ty.enc e)):=by
 simp only [cutL,List.map_drop,List.map_take]
 exact (hc.take _).drop _
theorem ok_slice_list (hs:HS ρ h σ.h) (hrd:∀ o,VT ρ h (rd o) (σ.val Gl o)) {e:Ty} {xs:List e.den} {x:Opd} {lo hi:Option Opd} {sz:Nat} {p:Bool} {l u:Int} (hv:VT ρ h (.d (.list e) xs) (σ.val Gl x)) (hz:e.size=sz) (hcut:xcut xs.length (lo.map rd) (hi.map rd)=some (p,l,u)) (hp:p=true):StepOk Gl ρ h σ rd (.slice sz x lo hi) (.d (.list e) (cutL l u xs)) [] h:=by
 rcases vt_list hv with ⟨ha,rfl⟩ | ⟨as,ha,hl,hc⟩
 ·obtain ⟨h1,h2⟩:=xcut_ok hrd hcut hp
  refine StepOk.pure hs (by simp only [step,ha]; simp only [List.length_nil] at h1; rw [h1] <;> rfl) h2 ?_
  have:cutL l u ([]:List e.den)=[]:=by simp [cutL]
  rw [this]
  exact Wp.nil _
 ·obtain ⟨h1,h2⟩:=xcut_ok hrd hcut hp
  rw [← hl] at h1 h2
  refine StepOk.pure hs (by simp only [step,ha,hz,if_true,h1,Option.map_some] <;> rfl) h2 ?_
  have:=cutL_map (l:=l) (u:=u) hc
  rw [← hz]
  exact .list _ _ _ this.1 this.2
theorem ok_slice_row (hs:HS ρ h σ.h) (hrd:∀ o,VT ρ h (rd o) (σ.val Gl o)) {id ty off len:Nat} {T:Ty} {fz:Bool} {es:List T.den} {x:Opd} {lo hi:Option Opd} {sz:Nat} {p:Bool} {l u:Int} (he:h[id]?=some (.row ty T fz es)) (ha:σ.val Gl x=.row (ρ.getD id 0) es.length T.size off len) (hz:T.size=sz)
  (hcut:xcut len (lo.map rd) (hi.map rd)=some (p,l,u)) (hp:p=true):StepOk Gl ρ h σ rd (.slice sz x lo hi) (.sub id (off + l.toNat) (u - l).toNat) [] h:=by
 obtain ⟨h1,h2⟩:=xcut_ok hrd hcut hp
 exact StepOk.pure hs (q:=0≤l∧l≤u∧u≤(len:Int)) (by simp only [step,ha,hz,if_true,h1,Option.map_some] <;> rfl) h2 ⟨_,_,_,_,he,by rw [hz]⟩
theorem sim_slice3 (sz:Nat) (x y z:Opd):SimI Gl ρ h σ rd tt (.slice3 sz x y z):=by
 intro hs hrd p v kl h' hx hp
 simp only [xstep] at hx
 have hv:=hrd x
 have hy:=hrd y
 have hzz:=hrd z
 split at hx
 case h_2=>cases hx
 rename_i id k n k' m h1 h2 h3
 rw [h1] at hv; rw [h2] at hy; rw [h3] at hzz
 have ey:=vt_int hy
 have ez:=vt_int hzz
 obtain ⟨ty,T,fz,es,he,ha⟩:=hv
 rw [he] at hx
 simp only at hx
 split at hx
 case isFalse=>cases hx
 rename_i hz
 cases hx
 simp only [Bool.and_eq_true,cutOk,decide_eq_true_eq,iEq,beq_iff_eq] at hp
 exact StepOk.pure hs (q:=(0:Int)≤(show Int from n)∧(show Int from n)≤(es.length:Int)∧(show Int from m)=(show Int from n)) (by simp only [step,ha,ey,ez,beq_eq hz,true_and,if_true] <;> rfl) ⟨hp.1.1.2,hp.1.2,(beq_iff_eq (α:=Int)).1 hp.2⟩ ⟨_,_,_,_,he,by rw [beq_eq hz],by have:=hp.1.2; have:=hp.1.1.2; omega⟩
theorem ok_slice_rl (hs:HS ρ h σ.h) (hrd:∀ o,VT ρ h (rd o) (σ.val Gl o)) {ty sz':Nat} {xs:List AV} {x:Opd} {lo hi:Option Opd} {sz:Nat} {p:Bool} {l u:Int} (hv:VT ρ h (.d (.rl ty sz') xs) (σ.val Gl x)) (hz:sz'=sz) (hcut:xcut xs.length (lo.map rd) (hi.map rd)=some (p,l,u)) (hp:p=true):StepOk Gl ρ h σ rd (.slice sz x lo hi) (.d (.rl ty sz') (cutL l u xs)) [] h:=by
 rcases vt_rl hv with ⟨ha,rfl⟩ | ⟨as,ha,hl,hc⟩
 ·obtain ⟨h1,h2⟩:=xcut_ok hrd hcut hp
  refine StepOk.pure hs (by simp only [step,ha]; simp only [List.length_nil] at h1; rw [h1] <;> rfl) h2 ?_
  have:cutL l u ([]:List AV)=[]:=by simp [cutL]
  rw [this]
  exact Wp.nil _
 ·obtain ⟨h1,h2⟩:=xcut_ok hrd hcut hp
  rw [← hl] at h1 h2
  refine StepOk.pure hs (by simp only [step,ha,hz,if_true,h1,Option.map_some] <;> rfl) h2 ?_
  have:=(hc.take u.toNat).drop l.toNat
  rw [← hz]
  exact .list _ _ _ this.1 this.2
theorem sim_slice (sz:Nat) (x:Opd) (lo hi:Option Opd):SimI Gl ρ h σ rd tt (.slice sz x lo hi):=by
 intro hs hrd p v kl h' hx hp
 simp only [xstep] at hx
 have hv:=lst_vt (hrd x)
 split at hx
 ·rename_i e xs h1
  rw [h1] at hv
  split at hx
  ·rename_i hz
   split at hx
   ·rename_i p' l u hc
    cases hx
    exact ok_slice_list hs hrd hv (beq_eq hz) hc hp
   ·cases hx
  ·cases hx
 ·rename_i ty sz' xs h1
  rw [h1] at hv
  split at hx
  ·rename_i hz
   split at hx
   ·rename_i p' l u hc
    cases hx
    exact ok_slice_rl hs hrd hv (beq_eq hz) hc hp
   ·cases hx
  ·cases hx
 ·rename_i h1
  rw [h1] at hv
  split at hx
  ·rename_i p' l u hc
   cases hx
   obtain ⟨q1,q2⟩:=xcut_ok hrd hc hp
   exact StepOk.pure hs (by simp only [step,vt_k hv]; rw [q1] <;> rfl) q2 rfl
  ·cases hx
 ·rename_i id h1
  rw [h1] at hv
  obtain ⟨ty,T,fz,es,he,ha⟩:=hv
  rw [he] at hx
  simp only at hx
  split at hx
  ·rename_i hz
   split at hx
   ·rename_i p' l u hc
    cases hx
    have:=ok_slice_row hs hrd he ha (beq_eq hz) hc hp
    rw [Nat.zero_add] at this
    exact this
   ·cases hx
  ·cases hx
 ·rename_i id off len h1
  rw [h1] at hv
  obtain ⟨ty,T,fz,es,he,ha⟩:=hv
  rw [he] at hx
  simp only at hx
  split at hx
  ·rename_i hz
   split at hx
   ·rename_i p' l u hc
    cases hx
    exact ok_slice_row hs hrd he ha (beq_eq hz) hc hp
   ·cases hx
  ·cases hx
 ·cases hx
theorem sim_sslice (x:Opd) (lo hi:Option Opd):SimI Gl ρ h σ rd tt (.sslice x lo hi):=by
 intro hs hrd p v kl h' hx hp
 simp only [xstep] at hx
 have hv:=hrd x
 split at hx
 ·rename_i s h1
  rw [h1] at hv
  split at hx
  ·rename_i p' l u hc
   cases hx
   obtain ⟨q1,q2⟩:=xcut_ok hrd hc hp
   exact StepOk.pure hs (by simp only [step,vt_str hv]; rw [q1] <;> rfl) q2 (Wp.refl _)
  ·cases hx
 ·cases hx
theorem sim_slen (x:Opd):SimI Gl ρ h σ rd tt (.slen x):=by
 intro hs hrd p v kl h' hx hp
 simp only [xstep] at hx
 have hv:=hrd x
 split at hx
 ·rename_i s h1
  rw [h1] at hv
  cases hx
  exact StepOk.pure hs (by simp only [step,vt_str hv] <;> rfl) trivial (Wp.refl _)
 ·cases hx
theorem sim_idx (x i:Opd):SimI Gl ρ h σ rd tt (.idx x i):=by
 intro hs hrd p v kl h' hx hp
 simp only [xstep] at hx
 have hv:=hrd x; have hi:=hrd i
 split at hx
 ·rename_i s k n h1 h2
  rw [h1] at hv; rw [h2] at hi
  cases hx
  exact StepOk.pure hs (by simp only [step,vt_str hv,vt_int hi] <;> rfl) (bnd_iff hp) (Wp.refl _)
 ·cases hx
theorem sim_min2 (x y:Opd):SimI Gl ρ h σ rd tt (.min2 x y):=by
 intro hs hrd p v kl h' hx hp
 simp only [xstep] at hx
 have hv:=hrd x; have hi:=hrd y
 split at hx
 ·rename_i k a k' b h1 h2
  rw [h1] at hv; rw [h2] at hi
  cases hx
  exact StepOk.pure hs (by simp only [step,vt_int hv,vt_int hi] <;> rfl) trivial (Wp.refl _)
 ·cases hx
theorem sim_max2 (x y:Opd):SimI Gl ρ h σ rd tt (.max2 x y):=by
 intro hs hrd p v kl h' hx hp
 simp only [xstep] at hx
 have hv:=hrd x; have hi:=hrd y
 split at hx
 ·rename_i k a k' b h1 h2
  rw [h1] at hv; rw [h2] at hi
  cases hx
  exact StepOk.pure hs (by simp only [step,vt_int hv,vt_int hi] <;> rfl) trivial (Wp.refl _)
 ·cases hx
theorem getD_last {l:List Nat} {a:Nat}:(l ++ [a]).getD l.length 0=a:=by simp [List.getD]
theorem new_row (hs:HS ρ h H) {ty sz:Nat} {T:Ty} {ys:List T.den} {as:List AV} (hz:T.size=sz) (hc:All2 Wp as (ys.map (Ty.enc T))):Upd ρ h H (ρ ++ [H.length]) (h ++ [.row ty T false ys]) (H ++ [⟨ty,sz,0,true,as⟩]) [] []∧V1 (ρ ++ [H.length]) (h ++ [.row ty T false ys]) (.row h.length) (.row H.length as.length sz 0 as.length):=by
 refine ⟨Upd.new hs ⟨rfl,hz.symm,rfl,by simp,hc⟩,ty,T,false,ys,by simp,?_⟩
 have:as.length=ys.length:=by rw [hc.1,List.length_map]
 rw [this,← hs.rl,getD_last,hz]
theorem fits_iff {n b:Nat} (h:fits n b=true):n * b≤maxB∧n≤4611686018427387904:=by simpa [fits] using h
theorem elemsR_ok (hs:HS ρ h σ.h) {ty:Nat} {T:Ty} {x:XV} {q:Bool} {ys:List T.den} {a:AV} {sz:Nat} (hz:T.size=sz) (hx:elemsR h ty T x=some (q,ys)) (hq:q=true) (hv:VT ρ h x a):∃ as,elemsOf σ.h sz a=some as∧All2 Wp as (ys.map (Ty.enc T)):=by
 unfold elemsR at hx
 split at hx
 ·rename_i ty' sz' xs
  split at hx
  ·rename_i hc
   simp only [Bool.and_eq_true] at hc
   have hs':=beq_eq hc.2
   cases hx
   rw [hz] at hs'
   subst hs'
   rcases vt_rl hv with ⟨rfl,rfl⟩ | ⟨as,rfl,hl,hw⟩
   ·exact ⟨[],rfl,.nil⟩
   ·exact ⟨as,by simp [elemsOf],all2_trans hw (decDs_wp hq)⟩
  ·cases hx
 ·split at hx
  ·rename_i zs hzs
   cases hx
   exact elems_ok hs hz hzs hv
  ·cases hx
theorem sim_app (ty sz bytes:Nat) (s x:Opd):SimI Gl ρ h σ rd tt (.app ty sz bytes s x):=by
 intro hs hrd p v kl h' hx hp
 simp only [xstep] at hx
 have hv:=hrd s
 split at hx
 case h_2=>cases hx
 rename_i T hT
 split at hx
 case isFalse=>cases hx
 rename_i hz
 have hz:=beq_eq hz
 split at hx
 case h_2=>cases hx
 rename_i q0 ys hys
 split at hx
 ·rename_i h1
  rw [h1] at hv
  cases hx
  rw [Bool.and_eq_true] at hp
  obtain ⟨as,ha,hc⟩:=elemsR_ok hs hz hys hp.1 (hrd x)
  have hal:as.length=ys.length:=by rw [hc.1,List.length_map]
  have hp:=hp.2
  obtain ⟨u1,u2⟩:=new_row (ty:=ty) hs hz hc
  have hf:=fits_iff hp
  refine ⟨as.length * bytes≤maxB∧as.length≤4611686018427387904,_,_,_,[],by simp only [step,ha,vt_k hv,appY] <;> rfl,by rw [hal]; exact hf,u1,VT.of1 u2,by simp⟩
 ·rename_i id h1
  rw [h1] at hv
  obtain ⟨ty',T',fz',es',he,hav⟩:=hv
  rw [he] at hx
  simp only at hx
  split at hx
  case h_2=>cases hx
  rename_i ys' hcast
  split at hx
  case isFalse=>cases hx
  rename_i hty
  have hty:=beq_eq hty
  cases hx
  rw [Bool.and_eq_true] at hp
  obtain ⟨as,ha,hc⟩:=elemsR_ok hs hz hys hp.1 (hrd x)
  have hal:as.length=ys.length:=by rw [hc.1,List.length_map]
  have hp:=hp.2
  obtain ⟨q,rfl⟩:=castT_eq hcast
  cases q
  subst hty
  obtain ⟨O,hO,o1,o2,o3,o4,o5⟩:=hs.hr id _ he
  have hlen:O.es.length=es'.length:=by have:=o5.1; simpa using this
  have hf:=fits_iff hp
  have o4':O.fz=0:=by simpa using o4
  have hobj:ObjS ρ h (.row ty T false (es' ++ ys)) { O with es:=O.es ++ as }:=⟨o1,o2,o3,by simpa using o4,by rw [List.map_append]; exact o5.append hc⟩
  have hu:=Upd.app hs he hobj
  refine ⟨es'.length=es'.length∧(es'.length + as.length) * bytes≤maxB∧es'.length + as.length≤4611686018427387904,.row (ρ.getD id 0) (es'.length + as.length) sz 0 (es'.length + as.length),_,ρ,[id],?_,⟨rfl,by rw [hal]; exact hf.1,by rw [hal]; exact hf.2⟩,hu,?_,?_⟩
  ·simp only [step,ha,hav,appY,hO,hlen,hz,o1,o2,o3,o4',and_self,if_true]
  ·refine VT.of1 ⟨ty,T,false,es' ++ ys,?_,?_⟩
   ·show (killH [id] (h.set id (.row ty T false (es' ++ ys))))[id]?=_
    rw [killH_map,List.getElem?_map,List.getElem?_set_self (List.getElem?_eq_some_iff.1 he).1]; rfl
   ·rw [List.length_append,hal,hz]
  ·intro m hm id' hid
   simp only [leaves,h1] at hm
   simp only [List.mem_singleton] at hid
   subst hid
   exact hm
 ·cases hx
theorem bytes_enc (b:ByteArray):All2 Wp (bytesAV b) ((bytesT b).map (Ty.enc (.int .u8))):=by
 have:(bytesT b).map (Ty.enc (.int .u8))=bytesAV b:=by
  unfold bytesT bytesAV
  rw [List.map_map]; rfl
 rw [this]; exact All2.rfl' Wp.refl _
theorem bytesT_len (b:ByteArray):(bytesT b).length=(bytesAV b).length:=by unfold bytesT bytesAV; rw [List.length_map,List.length_map]
theorem sim_apps (ty bytes:Nat) (s x:Opd):SimI Gl ρ h σ rd tt (.apps ty bytes s x):=by
 intro hs hrd p v kl h' hx hp
 simp only [xstep] at hx
 have hv:=hrd s
 have hw:=hrd x
 split at hx
 case h_2=>cases hx
 rename_i b hT h2
 rw [h2] at hw
 have ew:=vt_str hw
 have hc:=bytes_enc b
 have hal:(bytesAV b).length=(bytesT b).length:=(bytesT_len b).symm
 have hz:Ty.size (.int .u8)=1:=rfl
 split at hx
 ·rename_i h1
  rw [h1] at hv
  cases hx
  obtain ⟨u1,u2⟩:=new_row (ty:=ty) hs hz hc
  have hf:=fits_iff hp
  refine ⟨(bytesAV b).length * bytes≤maxB∧(bytesAV b).length≤4611686018427387904,_,_,_,[],by simp only [step,ew,vt_k hv,appY] <;> rfl,by rw [hal]; exact hf,u1,VT.of1 u2,by simp⟩
 ·rename_i id h1
  rw [h1] at hv
  obtain ⟨ty',T',fz',es',he,hav⟩:=hv
  rw [he] at hx
  split at hx
  case h_2=>cases hx
  rename_i ty2 es2 hq
  cases hq
  split at hx
  case isFalse=>cases hx
  rename_i hty
  have hty:=beq_eq hty
  cases hx
  subst hty
  obtain ⟨O,hO,o1,o2,o3,o4,o5⟩:=hs.hr id _ he
  have hlen:O.es.length=es2.length:=by have:=o5.1; rw [List.length_map] at this; exact this
  have hf:=fits_iff hp
  have hobj:ObjS ρ h (.row ty (.int .u8) false (es2 ++ bytesT b)) { O with es:=O.es ++ bytesAV b }:=⟨o1,o2,o3,by simpa using o4,by rw [List.map_append]; exact o5.append hc⟩
  have hu:=Upd.app hs he hobj
  have hap:step Gl σ (.apps ty bytes s x)=some (es2.length=es2.length∧(es2.length + (bytesAV b).length) * bytes≤maxB∧es2.length + (bytesAV b).length≤4611686018427387904,.row (ρ.getD id 0) (es2.length + (bytesAV b).length) 1 0 (es2.length + (bytesAV b).length),σ.h.set (ρ.getD id 0) { O with es:=O.es ++ bytesAV b }):=by
   have ew':σ.val Gl x=.v (.string b):=ew
   simp only [step,ew',hav,appY,hO]
   exact if_pos ⟨hlen,rfl,o1,o2,trivial,o3,by simpa using o4⟩
  refine ⟨_,_,_,_,[id],hap,⟨rfl,by rw [hal]; exact hf⟩,hu,?_,?_⟩
  ·refine VT.of1 ⟨ty,.int .u8,false,es2 ++ bytesT b,?_,?_⟩
   ·show (killH [id] (h.set id (.row ty (.int .u8) false (es2 ++ bytesT b))))[id]?=_
    rw [killH_map,List.getElem?_map,List.getElem?_set_self (List.getElem?_eq_some_iff.1 he).1]; rfl
   ·rw [List.length_append,hal,hz]
  ·intro m hm id' hid
   simp only [leaves,h1] at hm
   simp only [List.mem_singleton] at hid
   subst hid
   exact hm
 ·cases hx
theorem bytesOf_enc:∀ (xs:List Int) (as:List AV),All2 Wp as (xs.map (Ty.enc (.int .u8)))→bytesOf as=some (xs.map fun n=>UInt8.ofNat n.toNat):=by
 intro xs
 induction xs with
 | nil=>intro as h; rw [h.nil_right]; rfl
 | cons x xs ih =>
  intro as h
  obtain ⟨a,as',rfl,h1,h2⟩:=h.cons_right
  have e:a=.v (.int .u8 x):=h1.v_inv
  subst e
  simp only [bytesOf,byteOf,ih as' h2,List.map_cons]
theorem sim_b2s (x:Opd):SimI Gl ρ h σ rd tt (.b2s x):=by
 intro hs hrd p v kl h' hx hp
 simp only [xstep] at hx
 split at hx
 ·rename_i xs hxs
  cases hx
  obtain ⟨as,ha,hc⟩:=elems_ok hs (T:=.int .u8) (sz:=1) rfl hxs (hrd x)
  exact StepOk.pure hs (by simp only [step,ha,bytesOf_enc xs as hc,Option.map_some] <;> rfl) trivial (Wp.refl _)
 ·cases hx
theorem sim_s2b (ty:Nat) (x:Opd):SimI Gl ρ h σ rd tt (.s2b ty x):=by
 intro hs hrd p v kl h' hx hp
 simp only [xstep] at hx
 have hw:=hrd x
 split at hx
 case h_2=>cases hx
 rename_i b hT h2
 rw [h2] at hw
 have ew:=vt_str hw
 cases hx
 obtain ⟨u1,u2⟩:=new_row (ty:=ty) hs (T:=.int .u8) (sz:=1) rfl (bytes_enc b)
 have hl:(bytesAV b).length=ByteArray.size b:=by unfold bytesAV; rw [List.length_map,Array.length_toList]; rfl
 rw [hl] at u2
 refine ⟨ByteArray.size b≤4611686018427387904,_,_,_,[],by simp only [step,ew] <;> rfl,of_decide_eq_true hp,u1,VT.of1 u2,by simp⟩
theorem freeze_len:∀ (ids:List Nat) (H:List AObj),(freeze H ids).length=H.length:=by
 intro ids
 induction ids with
 | nil=>intro H; rfl
 | cons id ids ih =>
  intro H
  cases he:H[id]? with
  | none =>
   have e:freeze H (id :: ids)=freeze H ids:=by simp only [freeze,List.foldl_cons,he]
   rw [e]; exact ih H
  | some o =>
   have e:freeze H (id :: ids)=freeze (H.set id { o with fz:=o.es.length }) ids:=by simp only [freeze,List.foldl_cons,he]
   rw [e,ih]; simp
theorem frzX_len:∀ (ids:List Nat) (h:List XO),(frzX h ids).length=h.length:=by
 intro ids
 induction ids with
 | nil=>intro H; rfl
 | cons id ids ih =>
  intro H
  cases he:H[id]? with
  | none =>
   have e:frzX H (id :: ids)=frzX H ids:=by simp only [frzX,List.foldl_cons,he]
   rw [e]; exact ih H
  | some o =>
   have e:frzX H (id :: ids)=frzX (H.set id (frzO o)) ids:=by simp only [frzX,List.foldl_cons,he]
   rw [e,ih]; simp
theorem sim_bslice (ty sz:Nat) (xs:List Opd):SimI Gl ρ h σ rd tt (.bslice ty sz xs):=by
 intro hs hrd p v kl h' hx hp
 simp only [xstep] at hx
 split at hx
 case h_2=>cases hx
 rename_i T hT
 split at hx
 case isFalse=>cases hx
 rename_i hz
 have hz:=beq_eq hz
 split at hx
 case h_2=>cases hx
 rename_i ys hys
 cases hx
 obtain ⟨bs,k1,k2,k3,k4⟩:=toDs_ok hs hys (map_vt (Gl:=Gl) (σ:=σ) hrd)
 have u1:=Upd.frz _ hs k4
 obtain ⟨u2,u3⟩:=new_row (ty:=ty) u1.hs hz k2
 have u:=u1.trans u2 hs.rl
 have hfl:(freeze σ.h (((xs.map rd).flatMap rowsX).map fun id=>ρ.getD id 0)).length=σ.h.length:=freeze_len _ _
 rw [hfl,frzX_len] at u3
 rw [hfl,← k3] at u
 refine ⟨True,_,_,_,_,by simp only [step,k1,lens_ok hz k2,if_true] <;> rfl,trivial,u,VT.of1 u3,?_⟩
 intro m hm id hid
 simp only [leaves] at hm
 simp only [List.append_nil] at hid
 exact List.all_eq_true.1 hm id hid
theorem pure_list {T:Ty}:∀ {xs:List XV} {ys:List T.den} {as:List AV},toDs [] T xs=some ys→All2 (VT ρ h) xs as→keepAL H as=some as∧All2 Wp as (ys.map (Ty.enc T))∧∀ a ∈ as,rowsA a=[]:=by
 intro xs
 induction xs with
 | nil =>
  intro ys as hx hv
  cases hx
  have:=hv.nil_left
  subst this
  exact ⟨rfl,.nil,by simp⟩
 | cons x xs ih =>
  intro ys as hx hv
  simp only [toDs] at hx
  split at hx
  ·rename_i z l hz hl
   cases hx
   obtain ⟨a,as',rfl,hv1,hv2⟩:=hv.cons_left
   have hnt:∀ vs,x ≠ .tup vs:=fun vs q=>by
    subst q
    cases T <;> simp [toD,lst] at hz
   have hw:=toD_pure hz (hv1.notup hnt)
   obtain ⟨k1,k2⟩:=wp_keep hw H
   obtain ⟨i1,i2,i3⟩:=ih hl hv2
   refine ⟨by simp only [keepAL,k1,i1],.cons hw i2,fun b hb=>?_⟩
   rcases List.mem_cons.1 hb with rfl | hb
   ·exact k2
   ·exact i3 b hb
  ·cases hx
theorem sim_blist (ty sz:Nat) (xs:List Opd):SimI Gl ρ h σ rd tt (.blist ty sz xs):=by
 intro hs hrd p v kl h' hx hp
 simp only [xstep] at hx
 split at hx
 case h_2=>cases hx
 rename_i T hT
 split at hx
 case isFalse=>cases hx
 rename_i hz
 have hz:=beq_eq hz
 split at hx
 case h_2=>cases hx
 rename_i ys hys
 cases hx
 obtain ⟨k1,k2,k3⟩:=pure_list (H:=σ.h) hys (map_vt (Gl:=Gl) (σ:=σ) hrd)
 have hr:(xs.map (σ.val Gl)).all (fun a=>(rowsA a).isEmpty)=true:=List.all_eq_true.2 fun a ha=>by rw [k3 a ha]; rfl
 refine StepOk.pure hs (by simp only [step,k1,lens_ok hz k2,hr,Bool.and_self,if_true] <;> rfl) trivial ?_
 rw [← hz]
 exact .list _ _ _ k2.1 k2.2
theorem build_ok (hrd:∀ o,VT ρ h (rd o) (σ.val Gl o)):∀ (ps:List (Nat × Nat × Opd)) (cs:List XV) (as:List AV) (cs':List XV),All2 (V1 ρ h) cs as→buildX rd cs ps=some cs'→∃ as',buildC Gl σ as ps=some as'∧All2 (V1 ρ h) cs' as':=by
 intro ps
 induction ps with
 | nil=>intro cs as cs' hc hb; cases hb; exact ⟨as,rfl,hc⟩
 | cons p ps ih =>
  intro cs as cs' hc hb
  obtain ⟨off,sz,x⟩:=p
  simp only [buildX] at hb
  split at hb
  ·rename_i vs hvs
   split at hb
   ·rename_i hq
    simp only [Bool.and_eq_true] at hq
    have h1:=beq_eq hq.1
    have h2:=Nat.le_of_ble_eq_true hq.2
    obtain ⟨c1,c2⟩:=cells_ok hvs (hrd x)
    obtain ⟨as',e1,e2⟩:=ih _ _ cs' (((hc.take off).append c1).append (hc.drop (off + sz))) hb
    refine ⟨as',?_,e2⟩
    have hl:(σ.val Gl x).cells.length=sz:=by rw [← c1.1,h1]
    simp only [buildC,c2,hl,true_and,show off + sz≤as.length from by rw [← hc.1]; exact h2,if_true]
    exact e1
   ·cases hb
  ·cases hb
theorem zero_ok (l:List Value):All2 (V1 ρ h) (l.map vx1) (l.map .v) :=
 ⟨by simp,fun i x a p q=>by
  rw [List.getElem?_map] at p q
  cases hv:l[i]? with
  | none=>rw [hv] at p; cases p
  | some v=>rw [hv] at p q; cases p; cases q; exact vx1_v v⟩
theorem sim_build (zero:List Value) (ps:List (Nat × Nat × Opd)):SimI Gl ρ h σ rd tt (.build zero ps):=by
 intro hs hrd p v kl h' hx hp
 simp only [xstep] at hx
 split at hx
 ·rename_i cs hb
  cases hx
  obtain ⟨as,e1,e2⟩:=build_ok hrd ps _ _ cs (zero_ok zero) hb
  exact StepOk.pure hs (by simp only [step,e1,Option.map_some] <;> rfl) trivial ⟨as,rfl,e2⟩
 ·cases hx
theorem new_box (hs:HS ρ h H) {ty:Nat} {cs:List XV} {e:AV} {sz:Nat} (hz:cs.length=sz) (hc:All2 (V1 ρ h) cs e.cells):Upd ρ h H (ρ ++ [H.length]) (h ++ [.box ty cs]) (H ++ [⟨ty,sz,0,false,[e]⟩]) [] []∧V1 (ρ ++ [H.length]) (h ++ [.box ty cs]) (.ptr h.length 0 0) (.ptr H.length 1 0 0):=by
 refine ⟨Upd.new hs ⟨rfl,hz.symm,rfl,rfl,e,rfl,hc⟩,.box ty cs,by simp,?_⟩
 rw [← hs.rl,getD_last]; rfl
theorem sim_box (ty sz:Nat) (x:Opd):SimI Gl ρ h σ rd tt (.box ty sz x):=by
 intro hs hrd p v kl h' hx hp
 simp only [xstep] at hx
 split at hx
 ·rename_i cs hcs
  split at hx
  ·rename_i hz
   have hz:=beq_eq hz
   cases hx
   obtain ⟨c1,c2⟩:=cells_ok hcs (hrd x)
   have hl:(σ.val Gl x).cells.length=sz:=by rw [← c1.1,hz]
   obtain ⟨u1,u2⟩:=new_box (ty:=ty) hs hz c1
   exact ⟨True,_,_,_,[],by simp only [step,c2,hl,if_true] <;> rfl,trivial,u1,VT.of1 u2,by simp⟩
  ·cases hx
 ·cases hx
theorem scal_v {c:XV} {a:AV} (hc:scalX c=true) (hv:V1 ρ h c a):∃ z,a=.v z:=by
 unfold scalX at hc
 split at hc
 ·exact ⟨_,Wp.v_inv hv⟩
 ·exact ⟨_,Wp.v_inv hv⟩
 ·exact ⟨_,Wp.v_inv hv⟩
 ·cases hc
theorem allV_flat {T:Ty} {z:T.den} {a:AV} (hw:Wp a (Ty.enc T z)) (hc:(flat T z).all scalX=true):a.cells.all allV=true:=by
 have hf:=flat_v (ρ:=[]) (h:=[]) hw
 refine List.all_eq_true.2 fun c hc9=>?_
 obtain ⟨k,hk⟩:=List.getElem?_of_mem hc9
 obtain ⟨u,hu1,hu2⟩:=hf.get_right hk
 obtain ⟨w,rfl⟩:=scal_v (List.all_eq_true.1 hc u (List.mem_of_getElem? hu1)) hu2
 rfl
theorem flat_sc (T:Ty):∀ x:T.den,(flat T x).all scalX=true→∀ y:T.den,(flat T y).all scalX=true:=by
 refine Ty.rec (motive_1:=fun T=>∀ x:T.den,(flat T x).all scalX=true→∀ y:T.den,(flat T y).all scalX=true) (motive_2:=fun fs=>∀ x:Ty.denL fs,(flatL fs x).all scalX=true→∀ y:Ty.denL fs,(flatL fs y).all scalX=true) ?_ ?_ ?_ ?_ ?_ ?_ ?_ ?_ ?_ ?_ T
 ·intro k x _ y; rfl
 ·intro x _ y; rfl
 ·intro x _ y; rfl
 ·intro e _ x h y; cases h
 ·intro fs ih x h y; exact ih x h y
 ·intro f x h y; cases h
 ·intro e _ x h y; cases h
 ·intro ty sz x h y; cases h
 ·intro x _ y; rfl
 ·intro t ts h1 h2 x h y
  simp only [flatL,List.all_append,Bool.and_eq_true] at h ⊢
  exact ⟨h1 x.1 h.1 y.1,h2 x.2 h.2 y.2⟩
theorem flat_ints (k:IntKind):∀ (n:Nat) (z:Ty.denL (List.replicate n (.int k))),(flatL (List.replicate n (.int k)) z).all scalX=true:=by
 intro n
 induction n with
 | zero=>intro z; rfl
 | succ n ih =>
  intro z
  show (XV.d (.int k) z.1 :: flatL (List.replicate n (.int k)) z.2).all scalX=true
  rw [List.all_cons,ih]; rfl
theorem sizeL_ints (k:IntKind):∀ n:Nat,Ty.sizeL (List.replicate n (.int k))=n:=by
 intro n
 induction n with
 | zero=>rfl
 | succ n ih=>show 1 + Ty.sizeL (List.replicate n (.int k))=n + 1; rw [ih]; omega
theorem sim_boxz (ty sz:Nat) (k:IntKind) (x:Opd):SimI Gl ρ h σ rd tt (.boxz ty sz k x):=by
 intro hs hrd p v kl h' hx hp
 simp only [xstep] at hx
 split at hx
 case h_2=>cases hx
 rename_i z hz
 split at hx
 case isFalse=>cases hx
 rename_i h2
 cases hx
 have hw:Wp (σ.val Gl x) (Ty.enc (.tup (List.replicate sz (.int k))) z):=toD_pure (ρ:=ρ) (h:=h) hz (VT.notup (hrd x) (fun vs q=>by rw [q] at hz; cases hz))
 obtain ⟨us,hus,_⟩:=hw.agg_inv
 have hall:=allV_flat hw (flat_ints k sz z)
 have hl:us.length=sz:=by
  have:=hw.cells.1
  rw [enc_cells,hus] at this
  rw [← sizeL_ints k sz]
  exact this
 rw [hus] at hall hw
 have hv:V1 (ρ ++ [σ.h.length]) (h ++ [.row ty (.tup (List.replicate sz (.int k))) true [z]]) (.ptr h.length 0 0) (.ptr σ.h.length 1 0 0):=⟨.row ty (.tup (List.replicate sz (.int k))) true [z],by simp,by rw [← hs.rl,getD_last]; rfl⟩
 refine ⟨True,.ptr σ.h.length 1 0 0,σ.h ++ [⟨ty,sz,1,true,[.agg us]⟩],ρ ++ [σ.h.length],[],?_,trivial,Upd.new hs ⟨rfl,(sizeL_ints k sz).symm,rfl,rfl,.cons hw .nil⟩,VT.of1 hv,by simp⟩
 simp only [step,hus]
 rw [if_pos ⟨hl,Nat.le_of_ble_eq_true h2,hall⟩]
theorem vx_av (v:Value):VT ρ h (vx v) (avOf v):=by
 by_cases ha:∃ cs,v=.agg cs
 ·obtain ⟨cs,rfl⟩:=ha; exact ⟨_,rfl,zero_ok cs.toList⟩
 ·have e1:vx v=vx1 v:=by cases v <;> first | rfl | exact absurd ⟨_,rfl⟩ ha
  have e2:avOf v=.v v:=by cases v <;> first | rfl | exact absurd ⟨_,rfl⟩ ha
  rw [e1,e2]; exact VT.of1 (vx1_v v)
theorem avOf_size (v:Value):(avOf v).cells.length=v.cells.size:=by
 cases v with
 | agg cs=>simp [avOf,AV.cells,Value.cells]
 | _=>rfl
theorem sim_alloc (ty:Nat) (zero:Value):SimI Gl ρ h σ rd tt (.alloc ty zero):=by
 intro hs hrd p v kl h' hx hp
 simp only [xstep] at hx
 split at hx
 ·rename_i cs hcs
  cases hx
  obtain ⟨c1,c2⟩:=cells_ok hcs (vx_av (ρ:=ρ) (h:=h) zero)
  obtain ⟨u1,u2⟩:=new_box (ty:=ty) (sz:=zero.cells.size) hs (by rw [c1.1,avOf_size]) c1
  exact ⟨True,_,_,_,[],by simp only [step] <;> rfl,trivial,u1,VT.of1 u2,by simp⟩
 ·cases hx
theorem fitsI_iff {n:Int} {b:Nat} (h:fitsI n b=true):0≤n∧n * b≤maxB∧n≤4611686018427387904:=by
 simp only [fitsI,Bool.and_eq_true,decide_eq_true_eq] at h
 exact ⟨h.1.1,h.1.2,h.2⟩
theorem okx_mk (hs:HS ρ h σ.h) {ty sz bytes:Nat} {zero:Value} {n:Opd} {m:Int} {T:Ty} {z:T.den} (hn:σ.val Gl n=.v (.int .i64 m)) (hz:T.size=sz) (ht:toD [] T (vx zero)=some z) (hp:fitsI m bytes=true):StepOk Gl ρ h σ rd (.mk ty sz bytes zero n) (.row h.length) [] (h ++ [.row ty T false (List.replicate m.toNat z)]):=by
 have hf:=fitsI_iff hp
 have hnt:∀ vs,vx zero ≠ .tup vs:=fun vs q=>by
  rw [q] at ht
  cases T <;> simp [toD,lst] at ht
 have hw:=toD_pure ht (VT.notup (vx_av (ρ:=ρ) (h:=h) zero) hnt)
 have hc:All2 Wp (List.replicate m.toNat (avOf zero)) ((List.replicate m.toNat z).map (Ty.enc T)):=by
  rw [List.map_replicate]
  exact ⟨by simp,fun i x y p q=>by
   have p':=List.eq_of_mem_replicate (List.mem_of_getElem? p)
   have q':=List.eq_of_mem_replicate (List.mem_of_getElem? q)
   subst p' q'; exact hw⟩
 obtain ⟨u1,u2⟩:=new_row (ty:=ty) hs hz hc
 rw [List.length_replicate] at u2
 exact ⟨_,_,_,_,[],by simp only [step,hn] <;> rfl,hf,u1,VT.of1 u2,by simp⟩
theorem sim_mk (ty sz bytes:Nat) (zero:Value) (n:Opd):SimI Gl ρ h σ rd tt (.mk ty sz bytes zero n):=by
 intro hs hrd p v kl h' hx hp
 simp only [xstep] at hx
 have hv:=hrd n
 split at hx
 ·rename_i T m hT h1
  rw [h1] at hv
  split at hx
  ·rename_i hz
   split at hx
   ·rename_i z hzz
    cases hx
    exact okx_mk hs (vt_int hv) (beq_eq hz) hzz hp
   ·cases hx
  ·cases hx
 ·cases hx
theorem sim_alloca (ty sz n:Nat) (zero:Value):SimI Gl ρ h σ rd tt (.alloca ty sz n zero):=by
 intro hs hrd p v kl h' hx hp
 simp only [xstep] at hx
 split at hx
 ·rename_i T hT
  split at hx
  ·rename_i hz
   have hz:=beq_eq hz
   split at hx
   ·rename_i z ht
    cases hx
    have hnt:∀ vs,vx zero ≠ .tup vs:=fun vs q=>by
     rw [q] at ht
     cases T <;> simp [toD,lst] at ht
    have hw:=toD_pure ht (VT.notup (vx_av (ρ:=ρ) (h:=h) zero) hnt)
    have hc:All2 Wp (List.replicate n (avOf zero)) ((List.replicate n z).map (Ty.enc T)):=by
     rw [List.map_replicate]
     exact ⟨by simp,fun i x y p q=>by
      have p':=List.eq_of_mem_replicate (List.mem_of_getElem? p)
      have q':=List.eq_of_mem_replicate (List.mem_of_getElem? q)
      subst p' q'; exact hw⟩
    obtain ⟨u1,u2⟩:=new_row (ty:=ty) hs hz hc
    refine ⟨True,_,_,_,[],by simp only [step] <;> rfl,trivial,u1,VT.of1 ⟨.row ty T false (List.replicate n z),(show (h ++ [XO.row ty T false (List.replicate n z)])[h.length]?=_ by simp),?_⟩,by simp⟩
    rw [← hs.rl,getD_last]
    simp [XO.len]
   ·cases hx
  ·cases hx
 ·cases hx
theorem okx_aaddr (hs:HS ρ h σ.h) {bsz st n id j:Nat} {x i:Opd} {k:IntKind} {m:Int} {ty:Nat} {T:Ty} {fz:Bool} {es:List T.den} (he:h[id]?=some (.row ty T fz es)) (ha:σ.val Gl x=.ptr (ρ.getD id 0) (XO.len (.row ty T fz es)) j 0) (ei:σ.val Gl i=.v (.int k m)) (hz:T.size=bsz) (hb:0≤m∧m < (n:Int)) :
  StepOk Gl ρ h σ rd (.aaddr bsz st n x i) (.ptr id (j + m.toNat * st) 0) [] h:=by
 obtain ⟨O,hO,o1,o2,_⟩:=hs.hr id _ he
 exact StepOk.pure hs (q:=0≤m∧m < (n:Int)) (a:=.ptr (ρ.getD id 0) (XO.len (.row ty T fz es)) (j + m.toNat * st) 0) (by simp only [step,ha,ei,hO]; rw [if_pos ⟨trivial,by rw [o2]; exact hz⟩]) hb ⟨_,he,rfl⟩
theorem okx_aaddr1 (hs:HS ρ h σ.h) {n id j o:Nat} {x i:Opd} {k:IntKind} {m:Int} {ty:Nat} {T:Ty} {fz:Bool} {es:List T.den} (he:h[id]?=some (.row ty T fz es)) (ha:σ.val Gl x=.ptr (ρ.getD id 0) (XO.len (.row ty T fz es)) j o) (ei:σ.val Gl i=.v (.int k m)) (hz:o=0→T.size=1→False) (hb:0≤m∧m < (n:Int)) :
  StepOk Gl ρ h σ rd (.aaddr 1 1 n x i) (.ptr id j (o + m.toNat)) [] h:=by
 obtain ⟨O,hO,o1,o2,_⟩:=hs.hr id _ he
 exact StepOk.pure hs (q:=0≤m∧m < (n:Int)) (a:=.ptr (ρ.getD id 0) (XO.len (.row ty T fz es)) j (o + m.toNat)) (by simp only [step,ha,ei,hO]; rw [if_neg (by rw [o2]; rintro ⟨q1,q2⟩; exact hz q1 q2),if_pos ⟨trivial,trivial⟩]) hb ⟨_,he,rfl⟩
theorem tupL_enc {T:Ty}:∀ {fs:List Ty} {x:Ty.denL fs} {xs:List T.den},tupL T fs x=some xs→Ty.encL fs x=xs.flatMap fun y=>(Ty.enc T y).cells:=by
 intro fs
 induction fs with
 | nil=>intro x xs h; cases h; rfl
 | cons t ts ih =>
  intro x xs h
  simp only [tupL] at h
  split at h
  ·rename_i a l ha hl
   cases h
   obtain ⟨e,rfl⟩:=castT_eq ha
   subst e
   simp only [Ty.encL,List.flatMap_cons,ih hl]
  ·cases h
theorem flat_nth {α β:Type} (f:α→List β) (k:Nat) (hk:∀ x,(f x).length=k):∀ (xs:List α) (m:Nat) (hm:m < xs.length),((xs.flatMap f).drop (m * k)).take k=f xs[m]:=by
 intro xs
 induction xs with
 | nil=>intro m hm; simp at hm
 | cons x xs ih =>
  intro m hm
  rw [List.flatMap_cons]
  cases m with
  | zero=>simp [hk x]
  | succ m =>
   have e:(f x ++ xs.flatMap f).drop ((m + 1) * k)=(xs.flatMap f).drop (m * k):=by
    rw [List.drop_append,List.drop_eq_nil_of_le (by rw [hk x,Nat.add_mul,Nat.one_mul]; omega),List.nil_append,hk x]
    congr 1
    rw [Nat.add_mul,Nat.one_mul]; omega
   rw [e]
   exact ih m (by simpa using hm)
theorem sim_aaddr (bsz st n:Nat) (x i:Opd):SimI Gl ρ h σ rd tt (.aaddr bsz st n x i):=by
 intro hs hrd p v kl h' hx hp
 simp only [xstep] at hx
 have hv:=hrd x
 have hi:=hrd i
 split at hx
 ·rename_i id j o k m h1 h2
  rw [h1] at hv; rw [h2] at hi
  have ei:=vt_int hi
  obtain ⟨ob,he,ha⟩:=hv
  rw [he] at hx
  split at hx
  ·rename_i ty T fz es hq
   cases hq
   split at hx
   ·rename_i hz
    simp only [Bool.and_eq_true] at hz
    have h0:=beq_eq hz.1
    subst h0
    cases hx
    exact okx_aaddr hs he ha ei (beq_eq hz.2) (bnd_iff hp)
   ·rename_i hz
    split at hx
    ·rename_i h11
     simp only [Bool.and_eq_true] at h11
     have e1:=beq_eq h11.1
     have e2:=beq_eq h11.2
     subst e1 e2
     cases hx
     exact okx_aaddr1 hs he ha ei (fun q1 q2=>hz (by rw [q1,q2]; rfl)) (bnd_iff hp)
    ·cases hx
  ·cases hx
 ·rename_i T ts y o k m h1 h2
  rw [h1] at hv; rw [h2] at hi
  have ei:=vt_int hi
  split at hx
  case h_2=>cases hx
  rename_i xs hxs
  split at hx
  case isFalse=>cases hx
  rename_i hz
  simp only [Bool.and_eq_true] at hz
  obtain ⟨⟨⟨z1,z2⟩,z3⟩,z4⟩:=hz
  have z1:=beq_eq z1
  have z2:=beq_eq z2
  have z3:=beq_eq z3
  have z4:=beq_eq z4
  subst z1; subst z3
  cases hx
  have hb:=bnd_iff hp
  obtain ⟨cs,ha,hc⟩:=hv
  rw [List.drop_zero] at hc
  have hm:m.toNat < xs.length:=by omega
  have e1:atI xs m T.dflt=xs[m.toNat]:=by
   show xs.getD m.toNat _=_
   simp [List.getD,List.getElem?_eq_getElem hm]
  refine StepOk.pure hs (by simp only [step,ha,ei] <;> rfl) hb ⟨_,rfl,?_⟩
  rw [List.drop_zero,e1]
  have hq:=(hc.drop (m.toNat * T.size)).take T.size
  have e2:(Ty.enc (.tup (T :: ts)) y).cells=xs.flatMap fun x=>(Ty.enc T x).cells:=tupL_enc hxs
  rw [e2,flat_nth (fun x=>(Ty.enc T x).cells) T.size (fun x=>enc_cells T x) xs m.toNat hm] at hq
  rw [Nat.one_mul,← z2]
  exact hq
 ·cases hx
theorem okx_aidx (hs:HS ρ h σ.h) {n:Nat} {x i:Opd} {k:IntKind} {m:Int} {T:Ty} {ts:List Ty} {y:Ty.denL (T :: ts)} {xs:List T.den} (hv:Wp (σ.val Gl x) (.agg (Ty.encL (T :: ts) y))) (ei:σ.val Gl i=.v (.int k m)) (hxs:tupL T (T :: ts) y=some xs) (z2:xs.length=n) (hb:0≤m∧m < (n:Int)) :
  StepOk Gl ρ h σ rd (.aidx T.size T.isTup n x i) (.d T (atI xs m T.dflt)) [] h:=by
 obtain ⟨cs,ha,hc⟩:=Wp.agg_inv hv
 have hm:m.toNat < xs.length:=by omega
 have e1:atI xs m T.dflt=xs[m.toNat]:=by
  show xs.getD m.toNat _=_
  simp [List.getD,List.getElem?_eq_getElem hm]
 have e2:Ty.encL (T :: ts) y=xs.flatMap fun x=>(Ty.enc T x).cells:=tupL_enc hxs
 have hlen:cs.length=n * T.size:=by
  rw [hc.1,e2,List.length_flatMap,← z2]
  have:∀ l:List T.den,(l.map fun x=>(Ty.enc T x).cells.length).sum=l.length * T.size:=by
   intro l
   induction l with
   | nil=>simp
   | cons a l ih=>rw [List.map_cons,List.sum_cons,ih,enc_cells,List.length_cons,Nat.add_mul,Nat.one_mul,Nat.add_comm]
  exact this xs
 have hq:=(hc.drop (m.toNat * T.size)).take T.size
 rw [e2,flat_nth (fun x=>(Ty.enc T x).cells) T.size (fun x=>enc_cells T x) xs m.toNat hm] at hq
 rcases enc_agg (T:=T) (x:=xs[m.toNat]) with ⟨t1,es,t2⟩ | ⟨t1,t2⟩
 ·rw [t1]
  refine StepOk.pure hs (q:=0≤m∧m < (n:Int)) (a:=.agg ((cs.drop (m.toNat * T.size)).take T.size)) (by simp only [step,ha,ei,hlen,if_true] <;> rfl) hb ?_
  rw [e1]
  show Wp _ _
  rw [t2] at hq ⊢
  exact .agg _ _ hq.1 hq.2
 ·rw [t1]
  have hsz:T.size=1:=by
   have:=enc_cells T xs[m.toNat]
   rw [t2.cells] at this
   exact this.symm
  have hlt:m.toNat * T.size < cs.length:=by rw [hlen,hsz]; omega
  refine StepOk.pure hs (q:=(0≤m∧m < (n:Int))∧m.toNat * T.size < cs.length) (a:=cs.getD (m.toNat * T.size) .any) (by simp only [step,ha,ei,hlen,if_true,Bool.false_eq_true,if_false] <;> rfl) ⟨hb,hlt⟩ ?_
  rw [e1]
  show Wp _ _
  rw [t2.cells] at hq
  have h0:((cs.drop (m.toNat * T.size)).take T.size)[0]?=some (cs.getD (m.toNat * T.size) .any):=by
   rw [List.getElem?_take,if_pos (by omega),List.getElem?_drop,Nat.add_zero]
   simp [List.getD,List.getElem?_eq_getElem hlt]
  exact hq.2 0 _ _ h0 rfl
theorem okx_aidx2 (hs:HS ρ h σ.h) {n:Nat} {x i:Opd} {k:IntKind} {m:Int} {cs:List XV} {c:XV} (hv:VA ρ h (.agg cs) (σ.val Gl x)) (ei:σ.val Gl i=.v (.int k m)) (z3:cs.length=n) (hc1:cs[m.toNat]?=some c) (hb:0≤m∧m < (n:Int)) :
  StepOk Gl ρ h σ rd (.aidx 1 false n x i) c [] h:=by
 obtain ⟨as,ha,hc⟩:=hv
 obtain ⟨b,hb1,hb2⟩:=hc.get_left hc1
 have hlt:m.toNat * 1 < as.length:=by rw [Nat.mul_one]; exact (List.getElem?_eq_some_iff.1 hb1).1
 have hl:as.length=n * 1:=by rw [← hc.1,z3,Nat.mul_one]
 refine StepOk.pure hs (q:=(0≤m∧m < (n:Int))∧m.toNat * 1 < as.length) (a:=as.getD (m.toNat * 1) .any) (by simp only [step,ha,ei,hl,if_true,Bool.false_eq_true,if_false] <;> rfl) ⟨hb,hlt⟩ ?_
 rw [Nat.mul_one]
 have:as.getD m.toNat .any=b:=by simp [List.getD,hb1]
 rw [this]
 exact VT.of1 hb2
theorem sim_aidx (sz:Nat) (ag:Bool) (n:Nat) (x i:Opd):SimI Gl ρ h σ rd tt (.aidx sz ag n x i):=by
 intro hs hrd p v kl h' hx hp
 simp only [xstep] at hx
 have hv:=hrd x
 have hi:=hrd i
 split at hx
 ·rename_i T ts y k m h1 h2
  rw [h1] at hv; rw [h2] at hi
  have ei:=vt_int hi
  split at hx
  case h_2=>cases hx
  rename_i xs hxs
  split at hx
  case isFalse=>cases hx
  rename_i hz
  simp only [Bool.and_eq_true] at hz
  obtain ⟨⟨z1,z2⟩,z3⟩:=hz
  have z1:=beq_eq z1
  have z2:=beq_eq z2
  have z3:ag=T.isTup:=by simpa using z3
  subst z1; subst z3
  cases hx
  exact okx_aidx hs hv ei hxs z2 (bnd_iff hp)
 ·rename_i cs k m h1 h2
  rw [h1] at hv; rw [h2] at hi
  have ei:=vt_int hi
  split at hx
  case isFalse=>cases hx
  rename_i hz
  simp only [Bool.and_eq_true,Bool.not_eq_true'] at hz
  obtain ⟨⟨z1,z2⟩,z3⟩:=hz
  have z1:=beq_eq z1
  have z3:=beq_eq z3
  subst z1; subst z2
  split at hx
  case h_2=>cases hx
  rename_i c hc1
  cases hx
  exact okx_aidx2 hs hv ei z3 hc1 (bnd_iff hp)
 ·cases hx
theorem sim_aslf (n:Nat) (x:Opd) (lo hi:Option Opd):SimI Gl ρ h σ rd tt (.aslf n x lo hi):=by
 intro hs hrd p v kl h' hx hp
 simp only [xstep] at hx
 have hv:=hrd x
 split at hx
 case h_2=>cases hx
 rename_i id i o h1
 rw [h1] at hv
 obtain ⟨ob,he,ha⟩:=hv
 rw [he] at hx
 cases ob with
 | row ty T fz es=>cases hx
 | vec ty cs=>cases hx
 | map ty K V es=>cases hx
 | box ty cs =>
  simp only at hx
  split at hx
  case h_2=>cases hx
  rename_i T hT
  split at hx
  case h_2=>cases hx
  rename_i z ys p' l u hz hys hc
  split at hx
  case isFalse=>cases hx
  rename_i hb
  simp only [Bool.and_eq_true] at hb
  obtain ⟨⟨⟨b1,b2⟩,b3⟩,b4⟩:=hb
  have b1:=beq_eq b1
  have b2:=Nat.le_of_ble_eq_true b2
  have b3:=Nat.le_of_ble_eq_true b3
  subst b1
  cases hx
  obtain ⟨O,hO,o1,o2,o3,o4,e,o5,hcs⟩:=hs.hr id _ he
  have hlen:O.es.length=1:=by rw [o5]; rfl
  have hel:e.cells.length=cs.length:=hcs.1.symm
  have hagg:∃ us,e=.agg us:=by
   cases e with
   | agg us=>exact ⟨us,rfl⟩
   | _=>exact absurd hel (by show ¬ (1=cs.length); omega)
  obtain ⟨us,rfl⟩:=hagg
  have hcs:All2 (V1 ρ h) cs us:=hcs
  have hall:O.es.all (fun e=>e.cells.all allV)=true:=by
   rw [o5]
   simp only [List.all_cons,List.all_nil,Bool.and_true]
   refine List.all_eq_true.2 fun a hq9=>?_
   obtain ⟨k,hk⟩:=List.getElem?_of_mem hq9
   have hk:us[k]?=some a:=hk
   obtain ⟨c,hc1,hc2⟩:=hcs.get_right hk
   obtain ⟨w,rfl⟩:=scal_v (List.all_eq_true.1 b4 c (List.mem_of_getElem? hc1)) hc2
   rfl
  have hw:Wp (.agg us) (Ty.enc T z):=toD_pure (ρ:=ρ) (h:=h) (x:=.agg cs) hz ⟨us,rfl,hcs⟩
  have hTs:cs.length=T.size:=by
   have:=hw.cells.1
   rw [enc_cells] at this
   rw [hcs.1]; exact this
  obtain ⟨q1,q2⟩:=xcut_ok hrd hc hp
  have hu:=(cutB_some q1).1
  have hq3:0≤l∧l≤u∧u≤(n:Int):=by rw [← hu]; exact q2
  have hyl:All2 Wp ((us.drop o).take n) (ys.map (Ty.enc (.int .i64))):=by
   have hvt:All2 (VT ρ h) ((cs.drop o).take n) ((us.drop o).take n):=((hcs.drop o).take n).mono fun _ _ q=>VT.of1 q
   exact (pure_list (H:=σ.h) hys hvt).2.1
  refine ⟨(0≤l∧l≤u∧u≤(n:Int))∧o + n≤O.sz∧0 < 1,.list 1 ((((O.es.getD 0 .any).cells.drop o).take u.toNat).drop l.toNat),σ.h.set (ρ.getD id 0) { O with pr:=true,fz:=O.es.length },ρ,[id],by simp only [step,ha,hO,XO.len,hlen,hall,and_self,if_true,q1,Option.map_some] <;> rfl,⟨q2,by rw [o2]; exact b3,by omega⟩,Upd.set hs he rfl ⟨o1,by rw [o2,hTs],rfl,by simp [hlen],?_⟩,?_,?_⟩
  ·rw [o5]; exact .cons hw .nil
  ·show Wp _ _
   have e0:(O.es.getD 0 .any).cells=us:=by rw [o5]; rfl
   rw [e0]
   have e1:((us.drop o).take u.toNat)=(((us.drop o).take n).take u.toNat):=by rw [List.take_take,Nat.min_eq_left (by omega)]
   rw [e1]
   have:=cutL_map (e:=.int .i64) (l:=l) (u:=u) hyl
   exact .list _ _ _ this.1 this.2
  ·intro ok hok id' hid
   simp only [leaves,h1] at hok
   simp only [List.mem_singleton] at hid
   subst hid
   exact hok
theorem sim_aslice (bsz n:Nat) (x:Opd) (lo hi:Option Opd):SimI Gl ρ h σ rd tt (.aslice bsz n x lo hi):=by
 intro hs hrd p v kl h' hx hp
 simp only [xstep] at hx
 have hv:=hrd x
 split at hx
 ·rename_i id j o h1
  rw [h1] at hv
  obtain ⟨ob,he,ha⟩:=hv
  rw [he] at hx
  split at hx
  ·rename_i ty T fz es hq
   cases hq
   split at hx
   ·rename_i hz
    simp only [Bool.and_eq_true] at hz
    have h0:=beq_eq hz.1.1
    have h00:=beq_eq hz.2
    subst h0 h00
    split at hx
    ·rename_i p l u hc
     cases hx
     simp only [Bool.and_eq_true] at hp
     obtain ⟨k1,k2⟩:=xcut_ok hrd hc hp.1
     obtain ⟨O,hO,o1,o2,_⟩:=hs.hr id _ he
     have hle:n≤es.length:=of_decide_eq_true hp.2
     refine StepOk.pure hs (q:=(0≤l∧l≤u∧u≤(n:Int))∧0 + n≤XO.len (.row ty T fz es)) (a:=.row (ρ.getD id 0) (XO.len (.row ty T fz es)) bsz (0 + l.toNat) (u - l).toNat) (by simp only [step,ha,hO]; rw [if_pos ⟨trivial,by rw [o2]; exact beq_eq hz.1.2⟩,k1]; rfl) ⟨k2,by simp only [XO.len]; omega⟩ ⟨_,_,_,_,he,by rw [beq_eq hz.1.2,Nat.zero_add]; rfl⟩
    ·cases hx
   ·split at hx
    case isFalse=>cases hx
    rename_i hz
    simp only [Bool.and_eq_true] at hz
    obtain ⟨⟨⟨⟨b1,b2⟩,b3⟩,b4⟩,b5⟩:=hz
    have b1:=beq_eq b1
    have b2:=Nat.le_of_ble_eq_true b2
    have b4:=Nat.le_of_ble_eq_true b4
    subst b1 b3
    split at hx
    case h_2=>cases hx
    rename_i ys p' l u hys hc
    cases hx
    simp only [Bool.and_eq_true] at hp
    obtain ⟨p1,p2⟩:=hp
    have hj:j < es.length:=of_decide_eq_true p2
    obtain ⟨O,hO,o1,o2,o3,o4,o5⟩:=hs.hr id _ he
    have hOl:O.es.length=es.length:=by have:=o5.1; simpa using this
    have hgd:∀ k,k < es.length→Wp (O.es.getD k .any) (Ty.enc T (es.getD k T.dflt)):=fun k hk=>by
     have:=o5.getD (n:=k) (by simpa using hk) .any (Ty.enc T T.dflt)
     rw [List.getD_eq_getElem?_getD (l:=es.map _),List.getElem?_map] at this
     rw [List.getD_eq_getElem?_getD (l:=es)]
     rw [List.getElem?_eq_getElem hk] at this ⊢
     exact this
    have hw:=hgd j hj
    have hall:O.es.all (fun e=>e.cells.all allV)=true:=by
     refine List.all_eq_true.2 fun a ha9=>?_
     obtain ⟨k,hk⟩:=List.getElem?_of_mem ha9
     have hkl:k < es.length:=by rw [← hOl]; exact (List.getElem?_eq_some_iff.1 hk).1
     have e1:O.es.getD k .any=a:=by rw [List.getD_eq_getElem?_getD,hk]; rfl
     have:=hgd k hkl
     rw [e1] at this
     refine allV_flat this ?_
     exact flat_sc T (es.getD j T.dflt) b5 _
    obtain ⟨q1,q2⟩:=xcut_ok hrd hc p1
    have hu:=(cutB_some q1).1
    have hq3:0≤l∧l≤u∧u≤(n:Int):=by rw [← hu]; exact q2
    have hyl:All2 Wp (((O.es.getD j .any).cells.drop o).take n) (ys.map (Ty.enc (.int .i64))):=by
     have hvt:All2 (VT ρ h) (((flat T (es.getD j T.dflt)).drop o).take n) (((O.es.getD j .any).cells.drop o).take n):=(((flat_v hw).drop o).take n).mono fun _ _ q=>VT.of1 q
     exact (pure_list (H:=σ.h) hys hvt).2.1
    refine StepOk.pure hs (q:=(0≤l∧l≤u∧u≤(n:Int))∧o + n≤O.sz∧j < XO.len (.row ty T true es)) (a:=.list 1 ((((O.es.getD j .any).cells.drop o).take u.toNat).drop l.toNat)) ?_ ⟨q2,by rw [o2]; exact b4,hj⟩ ?_
    ·simp only [step,ha,hO]
     rw [if_neg (by rw [o2]; rintro ⟨_,q⟩; omega),if_pos ⟨trivial,hOl,hall,o3,by rw [o4,hOl]; rfl⟩,q1]
     rfl
    ·show Wp _ _
     have e1:(((O.es.getD j .any).cells.drop o).take u.toNat)=((((O.es.getD j .any).cells.drop o).take n).take u.toNat):=by rw [List.take_take,Nat.min_eq_left (by omega)]
     rw [e1]
     have:=cutL_map (e:=.int .i64) (l:=l) (u:=u) hyl
     exact .list _ _ _ this.1 this.2
  ·cases hx
 ·cases hx
theorem okx_copy (hs:HS ρ h σ.h) {id ty off len sz:Nat} {T:Ty} {es ys:List T.den} {d s:Opd} (he:h[id]?=some (.row ty T false es)) (ha:σ.val Gl d=.row (ρ.getD id 0) es.length T.size off len) (hz:T.size=sz)
  (hv:VT ρ h (rd s) (σ.val Gl s)) (hy:elemsX h T (rd s)=some ys) (hl:off + len≤es.length):StepOk Gl ρ h σ rd (.copy sz d s) (.d (.int .i64) ((min ys.length len:Nat):Int)) [] (h.set id (.row ty T false (cpy es off len ys))):=by
 obtain ⟨as,e1,e2⟩:=elems_ok hs hz hy hv
 obtain ⟨O,hO,o1,o2,o3,o4,o5⟩:=hs.hr id _ he
 have hal:as.length=ys.length:=by rw [e2.1,List.length_map]
 have hol:O.es.length=es.length:=by have:=o5.1; simpa using this
 have htl:(as.take len).length=(ys.take len).length:=by simp [hal]
 have hR:All2 Wp (O.es.take off ++ as.take len ++ O.es.drop (off + (as.take len).length)) ((cpy es off len ys).map (Ty.enc T)):=by
  unfold cpy
  rw [List.map_append,List.map_append,List.map_take,List.map_take,List.map_drop,htl]
  exact ((o5.take off).append (e2.take len)).append (o5.drop _)
 have hlen:(cpy es off len ys).length=es.length:=by
  unfold cpy
  simp only [List.length_append,List.length_take,List.length_drop]
  omega
 have hu:=Upd.set hs (o':=.row ty T false (cpy es off len ys)) (O':={ O with es:=O.es.take off ++ as.take len ++ O.es.drop (off + (as.take len).length) }) he (by simp [same2,hlen]) ⟨o1,o2,o3,by rw [o4]; simp,hR⟩
 refine ⟨O.fz≤off,.v (.int .i64 ((min as.length len:Nat):Int)),_,ρ,[id],?_,?_,hu,?_,?_⟩
 ·simp only [step,e1,ha,hO]
  rw [if_pos ⟨hol,hz,by rw [o2,hz],o3,by simpa using o4⟩]
 ·rw [o4]; simp
 ·rw [hal]; exact vt_d (.refl _)
 ·intro m hm; cases hm
theorem sim_copy (sz:Nat) (d s:Opd):SimI Gl ρ h σ rd tt (.copy sz d s):=by
 intro hs hrd p v kl h' hx hp
 simp only [xstep] at hx
 have hv:=hrd d
 split at hx
 ·rename_i id off len h1
  rw [h1] at hv
  obtain ⟨ty,T,fz,es,he,ha⟩:=hv
  rw [he] at hx
  simp only at hx
  split at hx
  ·rename_i ys hy
   split at hx
   ·rename_i hz
    cases hx
    exact okx_copy hs he ha (beq_eq hz) (hrd s) hy (of_decide_eq_true hp)
   ·cases hx
  ·cases hx
 ·rename_i id h1
  rw [h1] at hv
  obtain ⟨ty,T,fz,es,he,ha⟩:=hv
  rw [he] at hx
  simp only at hx
  split at hx
  ·rename_i ys hy
   split at hx
   ·rename_i hz
    cases hx
    exact okx_copy hs he ha (beq_eq hz) (hrd s) hy (by omega)
   ·cases hx
  ·cases hx
 ·cases hx
theorem okX_st {x:XV} {a:AV} (hk:okX x=true) (hv:VT ρ h x a):st1 false a=true∧a.cells=[a]∧V1 ρ h x a:=by
 have hv1:V1 ρ h x a:=by cases x <;> first | exact hv | (cases hk; done)
 obtain ⟨c1,c2⟩:=st_ok hv1 hk
 exact ⟨c1,c2,hv1⟩
theorem sim_bvec (ty:Nat) (xs:List Opd):SimI Gl ρ h σ rd tt (.bvec ty xs):=by
 intro hs hrd p v kl h' hx hp
 simp only [xstep] at hx
 split at hx
 case isFalse=>cases hx
 rename_i hall
 cases hx
 have hone:∀ x ∈ xs,st1 false (σ.val Gl x)=true∧(σ.val Gl x).cells=[σ.val Gl x]∧V1 ρ h (rd x) (σ.val Gl x):=fun x hxm =>
  okX_st (List.all_eq_true.1 hall _ (List.mem_map.2 ⟨x,hxm,rfl⟩)) (hrd x)
 have hst:(xs.map (σ.val Gl)).all (st1 false)=true:=List.all_eq_true.2 fun a ha=>by
  obtain ⟨x,hxm,rfl⟩:=List.mem_map.1 ha
  exact (hone x hxm).1
 have hO:ObjS ρ h (.vec ty (xs.map rd)) ⟨ty,1,0,false,xs.map (σ.val Gl)⟩:=by
  refine ⟨rfl,rfl,rfl,rfl,by simp,fun i c e q q'=>?_⟩
  rw [List.getElem?_map] at q q'
  cases hi:xs[i]? with
  | none=>rw [hi] at q; cases q
  | some x =>
   rw [hi] at q q'
   cases q; cases q'
   exact (hone x (List.mem_of_getElem? hi)).2
 refine ⟨True,.row σ.h.length xs.length 1 0 xs.length,_,ρ ++ [σ.h.length],[],by simp only [step,hst,if_true] <;> rfl,trivial,Upd.new hs hO,?_,fun _ _ _ q=>by simp at q⟩
 refine VT.of1 ⟨ty,xs.map rd,by show (h ++ _)[h.length]?=_; simp,?_⟩
 rw [← hs.rl,getD_last]; simp
theorem encL_rep (k:IntKind):∀ (n:Nat) (x:Ty.denL (List.replicate n (.int k))),(Ty.encL (List.replicate n (.int k)) x).length=n∧(Ty.encL (List.replicate n (.int k)) x).all (okI k)=true
 | 0,_=>⟨rfl,rfl⟩
 | n + 1,x=>by
  obtain ⟨h1,h2⟩:=encL_rep k n x.2
  have e:Ty.encL (List.replicate (n + 1) (.int k)) x=.v (.int k x.1) :: Ty.encL (List.replicate n (.int k)) x.2:=rfl
  rw [e]
  exact ⟨by simp [h1],by simp only [List.all_cons,h2,Bool.and_true]; simp [okI]⟩
theorem wp_ints {k:IntKind}:∀ {as bs:List AV},All2 Wp as bs→bs.all (okI k)=true→as=bs:=by
 intro as
 induction as with
 | nil=>intro bs h _; rw [h.nil_left]
 | cons a as ih =>
  intro bs h ho
  obtain ⟨b,bs',rfl,h1,h2⟩:=h.cons_left
  simp only [List.all_cons,Bool.and_eq_true] at ho
  rw [ih h2 ho.2]
  congr 1
  cases b <;> first | (cases ho.1; done) | exact h1.v_inv
theorem eqCs_rep (k:IntKind):∀ (n:Nat) (x y:Ty.denL (List.replicate n (.int k))),eqCs (Ty.encL (List.replicate n (.int k)) x) (Ty.encL (List.replicate n (.int k)) y)=eqTL (List.replicate n (.int k)) x y
 | 0,_,_=>rfl
 | n + 1,x,y=>by
  have e:∀ x,Ty.encL (List.replicate (n + 1) (.int k)) x=.v (.int k x.1) :: Ty.encL (List.replicate n (.int k)) x.2:=fun _=>rfl
  rw [e,e]
  have ih:=eqCs_rep k n x.2 y.2
  show (eqC _ _ && eqCs _ _)=_
  rw [ih]
  rfl
theorem key_wp {kt:KT} {K V:Ty} (hm:okMp kt K V=true) {key:K.den} {a:AV} (hw:Wp a (Ty.enc K key)):a=Ty.enc K key∧kt.ok a.cells=true∧fitK a=true∧a.cells.length=kt.n:=by
 simp only [okMp,Bool.and_eq_true] at hm
 obtain rfl:=Ty.same_eq hm.1.1
 cases kt with
 | int k =>
  have e:a=.v (.int k key):=hw.v_inv
  subst e
  exact ⟨rfl,by simp [AV.cells,KT.ok,okI],rfl,rfl⟩
 | str =>
  have e:a=.v (.string key):=hw.v_inv
  subst e
  exact ⟨rfl,rfl,rfl,rfl⟩
 | arr n k =>
  have h1:Nat.beq n 1=false:=by simpa using hm.2
  obtain ⟨as,rfl,hc⟩:=Wp.agg_inv hw
  obtain ⟨l1,l2⟩:=encL_rep k n key
  obtain rfl:=wp_ints hc l2
  refine ⟨rfl,?_,?_,l1⟩
  ·show (Nat.beq (Ty.encL (List.replicate n (.int k)) key).length n && (Ty.encL (List.replicate n (.int k)) key).all (okI k))=true
   rw [l1,l2]; simp
  ·show (!(Nat.beq (Ty.encL (List.replicate n (.int k)) key).length 1))=true
   rw [l1,h1]; rfl
theorem key_eq {kt:KT} {K V:Ty} (hm:okMp kt K V=true) (x y:K.den):eqCs (Ty.enc K x).cells (Ty.enc K y).cells=eqT K x y:=by
 simp only [okMp,Bool.and_eq_true] at hm
 obtain rfl:=Ty.same_eq hm.1.1
 cases kt with
 | int k=>show (eqC (.v (.int k x)) (.v (.int k y)) && true)=_; rw [Bool.and_true]; rfl
 | str=>show (eqC (.v (.string x)) (.v (.string y)) && true)=_; rw [Bool.and_true]; rfl
 | arr n k=>exact eqCs_rep k n x y
theorem nt_cells {V:Ty} (hV:V.isTup=false) (v:V.den):(Ty.enc V v).cells=[Ty.enc V v]:=by
 rcases enc_agg (x:=v) with ⟨h,_⟩ | ⟨_,h⟩
 ·rw [hV] at h; cases h
 ·exact h.cells
theorem wp_nt {V:Ty} (hV:V.isTup=false) {v:V.den} {a:AV} (hw:Wp a (Ty.enc V v)):Pl1 a:=by
 rcases enc_agg (x:=v) with ⟨h,_⟩ | ⟨_,h⟩
 ·rw [hV] at h; cases h
 ·exact h.of_wp hw
theorem ent_wp {kt:KT} {K V:Ty} (hm:okMp kt K V=true) {x:Ty.den (.tup [K,V])} {e:AV} (hw:Wp e (Ty.enc (.tup [K,V]) x)):∃ b,e=.agg ((Ty.enc K x.1).cells ++ [b])∧Wp b (Ty.enc V x.2.1)∧(Ty.enc K x.1).cells.length=kt.n∧kt.entOk e=true:=by
 obtain ⟨_,k2,_,k4⟩:=key_wp (V:=V) hm (.refl (Ty.enc K x.1))
 have hV:V.isTup=false:=by simp only [okMp,Bool.and_eq_true] at hm; simpa using hm.1.2
 have hK:∀ as bs,All2 Wp as ((Ty.enc K x.1).cells ++ bs)→∃ cs,as=(Ty.enc K x.1).cells ++ cs∧All2 Wp cs bs:=by
  intro as bs h
  have h1:=h.take kt.n
  have h2:=h.drop kt.n
  rw [← k4,List.take_left',List.drop_left'] at * <;> try rfl
  have e1:as.take (Ty.enc K x.1).cells.length=(Ty.enc K x.1).cells:=by
   simp only [okMp,Bool.and_eq_true] at hm
   obtain rfl:=Ty.same_eq hm.1.1
   cases kt with
   | int k=>exact wp_ints (k:=k) h1 (by simp [Ty.enc,KT.ty,AV.cells,okI])
   | str =>
    obtain ⟨a,as',e,q1,q2⟩:=h1.cons_right
    have q2:=q2.nil_right
    subst q2
    rw [e]
    have q1:=Wp.v_inv q1
    rw [q1]; rfl
   | arr n k=>exact wp_ints (k:=k) h1 (encL_rep k n x.1).2
  exact ⟨as.drop (Ty.enc K x.1).cells.length,by conv=>lhs; rw [← List.take_append_drop (Ty.enc K x.1).cells.length as,e1],h2⟩
 obtain ⟨as,rfl,hc⟩:=Wp.agg_inv hw
 have hc:All2 Wp as ((Ty.enc K x.1).cells ++ ((Ty.enc V x.2.1).cells ++ [])):=hc
 obtain ⟨cs,rfl,h2⟩:=hK _ _ hc
 rw [nt_cells hV,List.append_nil] at h2
 obtain ⟨b,cs',rfl,h3,h4⟩:=h2.cons_right
 have:=h4.nil_right
 subst this
 refine ⟨b,rfl,h3,k4,?_⟩
 simp only [KT.entOk,Bool.and_eq_true]
 refine ⟨by simp [k4],?_⟩
 rw [← k4,List.take_left']
 ·exact k2
 ·rfl
theorem ent_mk {K V:Ty} (hV:V.isTup=false) (k:K.den) {v:V.den} {b:AV} (hb:Wp b (Ty.enc V v)):Wp (.agg ((Ty.enc K k).cells ++ [b])) (Ty.enc (.tup [K,V]) (k,v,())):=by
 have e:Ty.enc (.tup [K,V]) (k,v,())=.agg ((Ty.enc K k).cells ++ [Ty.enc V v]):=by
  show AV.agg ((Ty.enc K k).cells ++ ((Ty.enc V v).cells ++ []))=_
  rw [nt_cells hV,List.append_nil]
 rw [e]
 have:=(All2.rfl' Wp.refl (Ty.enc K k).cells).append (All2.cons hb .nil)
 exact .agg _ _ this.1 this.2
def mF (K V:Ty) (key:K.den) (es:List (Ty.den (.tup [K,V]))):Option V.den:=mapF (α:=K.den) (β:=V.den) (eqT K) key es
def mP (K V:Ty) (key:K.den) (v:V.den) (es:List (Ty.den (.tup [K,V]))):List (Ty.den (.tup [K,V])):=mapP (α:=K.den) (β:=V.den) (eqT K) key v es
theorem map_sound {kt:KT} {K V:Ty} (hm:okMp kt K V=true) (key:K.den) {v:V.den} {b:AV} (hb:Wp b (Ty.enc V v)):∀ (es:List (Ty.den (.tup [K,V]))) (os:List AV) (i:Nat),All2 Wp os (es.map (Ty.enc (.tup [K,V]))) →
  os.all kt.entOk=true∧match findE kt.n (Ty.enc K key).cells os i with
   | none=>mF K V key es=none∧All2 Wp (os ++ [.agg ((Ty.enc K key).cells ++ [b])]) ((mP K V key v es).map (Ty.enc (.tup [K,V])))
   | some (j,a)=>i≤j∧(∃ u,mF K V key es=some u∧Wp a (Ty.enc V u))∧All2 Wp (os.set (j - i) (.agg ((Ty.enc K key).cells ++ [b]))) ((mP K V key v es).map (Ty.enc (.tup [K,V])))
 | [],os,i,h=>by
  have:=h.nil_right
  subst this
  have hV:V.isTup=false:=by simp only [okMp,Bool.and_eq_true] at hm; simpa using hm.1.2
  exact ⟨rfl,rfl,.cons (ent_mk hV key hb) .nil⟩
 | x :: es,os,i,h=>by
  have hV:V.isTup=false:=by simp only [okMp,Bool.and_eq_true] at hm; simpa using hm.1.2
  obtain ⟨o,os',rfl,h1,h2⟩:=h.cons_right
  obtain ⟨c,rfl,k1,k2,k3⟩:=ent_wp hm h1
  obtain ⟨m1,m2⟩:=map_sound hm key hb es os' (i + 1) h2
  refine ⟨by simp only [List.all_cons,m1,k3,Bool.and_true],?_⟩
  have ht:((Ty.enc K x.1).cells ++ [c]).take kt.n=(Ty.enc K x.1).cells:=by rw [← k2,List.take_left']; rfl
  have hg:((Ty.enc K x.1).cells ++ [c]).getD kt.n .any=c:=by rw [← k2]; simp [List.getD]
  have fe:findE kt.n (Ty.enc K key).cells (.agg ((Ty.enc K x.1).cells ++ [c]) :: os') i=if eqT K key x.1=true then some (i,c) else findE kt.n (Ty.enc K key).cells os' (i + 1):=by
   conv=>lhs; unfold findE
   rw [ht,hg,key_eq hm]
  rw [fe]
  by_cases hq:eqT K key x.1=true
  ·have e1:mF K V key (x :: es)=some x.2.1:=by show cond _ _ _=_; rw [hq]; rfl
   have e2:mP K V key v (x :: es)=(key,v,()) :: es:=by show cond _ _ _=_; rw [hq]; rfl
   rw [if_pos hq,e1,e2]
   refine ⟨Nat.le_refl _,⟨_,rfl,k1⟩,?_⟩
   rw [Nat.sub_self]
   exact .cons (ent_mk hV key hb) h2
  ·have hq':eqT K key x.1=false:=by simpa using hq
   have e1:mF K V key (x :: es)=mF K V key es:=by show cond _ _ _=_; rw [hq']; rfl
   have e2:mP K V key v (x :: es)=x :: mP K V key v es:=by show cond _ _ _=_; rw [hq']; rfl
   rw [if_neg hq,e1,e2]
   cases hf:findE kt.n (Ty.enc K key).cells os' (i + 1) with
   | none =>
    rw [hf] at m2
    exact ⟨m2.1,.cons h1 m2.2⟩
   | some q =>
    obtain ⟨j,a⟩:=q
    rw [hf] at m2
    obtain ⟨n1,n2,n3⟩:=m2
    refine ⟨by omega,n2,?_⟩
    rw [show j - i=(j - (i + 1)) + 1 by omega,List.set_cons_succ]
    exact .cons h1 n3
theorem sim_bsc (ty:Nat) (xs:List Opd):SimI Gl ρ h σ rd tt (.bsc ty xs):=by
 intro hs hrd p v kl h' hx hp
 simp only [xstep] at hx
 split at hx
 case h_2=>cases hx
 rename_i T hT
 split at hx
 case isFalse=>cases hx
 rename_i hcond
 simp only [Bool.and_eq_true] at hcond
 split at hx
 case h_2=>cases hx
 rename_i ys hys
 cases hx
 have hm:=map_vt (Gl:=Gl) (σ:=σ) (xs:=xs) hrd
 obtain ⟨k1,k2,k3⟩:=pure_list (H:=σ.h) hys hm
 obtain ⟨u2,u3⟩:=new_row (ty:=ty) hs (beq_eq hcond.1) k2
 have hall:(xs.map (σ.val Gl)).all sc1=true:=List.all_eq_true.2 fun a ha=>by
  obtain ⟨i,hi⟩:=List.mem_iff_getElem?.1 ha
  obtain ⟨x,hx,hv⟩:=hm.get_right hi
  have hsx:=List.all_eq_true.1 hcond.2 x (List.mem_of_getElem? hx)
  cases x with
  | d T y=>cases T <;> first | (cases hsx; done) | (rw [show a=_ from Wp.v_inv hv]; rfl)
  | _=>cases hsx
 rw [List.length_map] at u3
 exact ⟨True,_,_,_,[],by simp only [step,hall,if_true] <;> rfl,trivial,u2,VT.of1 u3,by simp⟩
theorem sim_mk2 (ty sz bytes:Nat) (zero:Value) (l c:Opd):SimI Gl ρ h σ rd tt (.mk2 ty sz bytes zero l c):=by
 intro hs hrd p v kl h' hx hp
 simp only [xstep] at hx
 have hl:=hrd l
 have hc:=hrd c
 split at hx
 ·rename_i T m n hT h1 h2
  rw [h1] at hl
  rw [h2] at hc
  split at hx
  ·rename_i hz
   split at hx
   ·rename_i z ht
    cases hx
    simp only [Bool.and_eq_true] at hp
    have hf:=fitsI_iff hp.2
    have p1:(0:Int)≤(show Int from m):=of_decide_eq_true hp.1.1
    have p2:(show Int from m)≤(show Int from n):=of_decide_eq_true hp.1.2
    have hnt:∀ vs,vx zero ≠ .tup vs:=fun vs q=>by
     rw [q] at ht
     cases T <;> simp [toD,lst] at ht
    have hw:=toD_pure ht (VT.notup (vx_av (ρ:=ρ) (h:=h) zero) hnt)
    have hcc:All2 Wp (List.replicate (Int.toNat m) (avOf zero)) ((List.replicate (Int.toNat m) z).map (Ty.enc T)):=by
     rw [List.map_replicate]
     exact ⟨by simp,fun i x y p q=>by
      have p':=List.eq_of_mem_replicate (List.mem_of_getElem? p)
      have q':=List.eq_of_mem_replicate (List.mem_of_getElem? q)
      subst p' q'; exact hw⟩
    obtain ⟨u1,u2⟩:=new_row (ty:=ty) hs (beq_eq hz) hcc
    rw [List.length_replicate] at u2
    exact ⟨(0:Int)≤(show Int from m)∧(show Int from m)≤(show Int from n)∧(show Int from n) * bytes≤maxB∧(show Int from n)≤4611686018427387904,_,_,_,[],by simp only [step,vt_int hl,vt_int hc] <;> rfl,⟨p1,p2,hf.2⟩,u1,VT.of1 u2,by simp⟩
   ·cases hx
  ·cases hx
 ·cases hx
theorem sim_mmk (ty:Nat) (hint:Option Opd):SimI Gl ρ h σ rd tt (.mmk ty hint):=by
 intro hs hrd p v kl h' hx hp
 simp only [xstep] at hx
 split at hx
 case h_2=>cases hx
 rename_i K V hT
 have hO:ObjS ρ h (.map ty K V []) ⟨ty,0,0,true,[]⟩:=⟨rfl,rfl,rfl,rfl,.nil⟩
 have u:=Upd.new hs hO
 have fin:step Gl σ (.mmk ty hint)=some (True,.mp σ.h.length,σ.h ++ [⟨ty,0,0,true,[]⟩])→StepOk Gl ρ h σ rd (.mmk ty hint) (.mp h.length) [] (h ++ [.map ty K V []]):=fun e =>
  ⟨_,_,_,_,[],e,trivial,u,VT.of1 ⟨ty,K,V,[],by show (h ++ _)[h.length]?=_; simp,by rw [← hs.rl,getD_last]⟩,by simp⟩
 cases hint with
 | none=>cases hx; exact fin rfl
 | some o =>
  have ho:=hrd o
  simp only [Option.map_some] at hx
  split at hx
  ·rename_i q; cases q
  ·rename_i k n q
   injection q with q
   rw [q] at ho
   cases hx
   exact fin (by simp only [step,Option.map_some,vt_int ho])
  ·cases hx
theorem sim_mget (kt:KT) (ok:Bool) (zero:Value) (m k:Opd):SimI Gl ρ h σ rd tt (.mget kt ok zero m k):=by
 intro hs hrd p v kl h' hx hp
 simp only [xstep] at hx
 have hv:=hrd m
 have hk:=hrd k
 split at hx
 case h_2=>cases hx
 rename_i id h1
 rw [h1] at hv
 obtain ⟨ty,K,V,es,he,ha⟩:=hv
 rw [he] at hx
 simp only at hx
 split at hx
 case h_2=>cases hx
 rename_i key z hkey hz
 split at hx
 case isFalse=>cases hx
 rename_i hm
 have hkn:∀ vs,rd k ≠ .tup vs:=fun vs q=>by rw [q] at hkey; cases K <;> simp [toD,lst] at hkey
 have hkw:=toD_pure hkey (VT.notup hk hkn)
 have hzw:=toD_pure hz (VA.of1 (vx1_v (ρ:=ρ) (h:=h) zero))
 obtain ⟨k1,k2,k3,k4⟩:=key_wp hm hkw
 obtain ⟨O,hO,o1,o2,o3,o4,o5⟩:=hs.hr id _ he
 obtain ⟨m1,m2⟩:=map_sound hm key hzw es O.es 0 o5
 rw [k1] at k2 k3
 cases hf:findE kt.n (Ty.enc K key).cells O.es 0 with
 | none =>
  rw [hf] at m2
  have e1:mapG (eqT K) key es z=z:=by show (mF K V key es).getD z=z; rw [m2.1]; rfl
  have e2:mapH (eqT K) key es=false:=by show (mF K V key es).isSome=false; rw [m2.1]; rfl
  rw [e1,e2] at hx
  cases hx
  refine StepOk.pure hs (q:=True) (by simp only [step,ha,hO,k1]; rw [if_pos ⟨o2,k2,m1,k3⟩,hf]) trivial ?_
  cases ok with
  | true =>
   have a1:VA ρ h (.d V z) (.v zero):=hzw
   have a2:VA ρ h (.d .bool false) (.v (.bool false)):=Wp.refl _
   exact ⟨_,rfl,.cons a1 (.cons a2 .nil)⟩
  | false=>exact vt_d hzw
 | some q =>
  obtain ⟨j,a⟩:=q
  rw [hf] at m2
  obtain ⟨_,⟨u,e0,hu⟩,_⟩:=m2
  have e1:mapG (eqT K) key es z=u:=by show (mF K V key es).getD z=u; rw [e0]; rfl
  have e2:mapH (eqT K) key es=true:=by show (mF K V key es).isSome=true; rw [e0]; rfl
  rw [e1,e2] at hx
  cases hx
  refine StepOk.pure hs (q:=True) (by simp only [step,ha,hO,k1]; rw [if_pos ⟨o2,k2,m1,k3⟩,hf]) trivial ?_
  cases ok with
  | true =>
   have a1:VA ρ h (.d V u) a:=hu
   have a2:VA ρ h (.d .bool true) (.v (.bool true)):=Wp.refl _
   exact ⟨_,rfl,.cons a1 (.cons a2 .nil)⟩
  | false=>exact vt_d hu
theorem sim_mput (kt:KT) (m k y:Opd):SimI Gl ρ h σ rd tt (.mput kt m k y):=by
 intro hs hrd p v kl h' hx hp
 simp only [xstep] at hx
 have hv:=hrd m
 have hk:=hrd k
 have hy:=hrd y
 split at hx
 case h_2=>cases hx
 rename_i id h1
 rw [h1] at hv
 obtain ⟨ty,K,V,es,he,ha⟩:=hv
 rw [he] at hx
 simp only at hx
 split at hx
 case h_2=>cases hx
 rename_i key u hkey hu
 split at hx
 case isFalse=>cases hx
 rename_i hm
 cases hx
 have hkn:∀ vs,rd k ≠ .tup vs:=fun vs q=>by rw [q] at hkey; cases K <;> simp [toD,lst] at hkey
 have hyn:∀ vs,rd y ≠ .tup vs:=fun vs q=>by rw [q] at hu; cases V <;> simp [toD,lst] at hu
 have hkw:=toD_pure hkey (VT.notup hk hkn)
 have huw:=toD_pure hu (VT.notup hy hyn)
 obtain ⟨k1,k2,k3,k4⟩:=key_wp hm hkw
 have hV:V.isTup=false:=by simp only [okMp,Bool.and_eq_true] at hm; simpa using hm.1.2
 have hst:=(wp_nt hV huw).st true
 obtain ⟨O,hO,o1,o2,o3,o4,o5⟩:=hs.hr id _ he
 obtain ⟨m1,m2⟩:=map_sound hm key huw es O.es 0 o5
 rw [k1] at k2 k3
 have fin:∀ os',step Gl σ (.mput kt m k y)=some (True,.any,σ.h.set (ρ.getD id 0) { O with es:=os',pr:=true })→All2 Wp os' ((mapP (eqT K) key u es).map (Ty.enc (.tup [K,V])))→StepOk Gl ρ h σ rd (.mput kt m k y) .any [] (h.set id (.map ty K V (mapP (eqT K) key u es))):=by
  intro os' e hc
  have hu:=Upd.set hs (o':=.map ty K V (mapP (eqT K) key u es)) (O':={ O with es:=os',pr:=true }) he trivial ⟨o1,o2,rfl,o4,hc⟩
  refine ⟨_,_,_,_,[id],e,trivial,hu,trivial,?_⟩
  intro ok hok id' hid
  simp only [List.mem_singleton] at hid
  subst hid
  simpa only [leaves,h1] using hok
 cases hf:findE kt.n (Ty.enc K key).cells O.es 0 with
 | none =>
  rw [hf] at m2
  exact fin _ (by simp only [step,ha,hO,k1]; rw [if_pos ⟨o2,k2,m1,hst,k3⟩,hf]) m2.2
 | some q =>
  obtain ⟨j,a⟩:=q
  rw [hf] at m2
  obtain ⟨_,_,m3⟩:=m2
  exact fin _ (by simp only [step,ha,hO,k1]; rw [if_pos ⟨o2,k2,m1,hst,k3⟩,hf]) (by rw [Nat.sub_zero] at m3; exact m3)
theorem xstep_sim (i:I):SimI Gl ρ h σ rd tt i:=by
 cases i with
 | mov x=>exact sim_mov x
 | pick c a b=>exact sim_pick c a b
 | bin op x y=>exact sim_bin op x y
 | beq n x y=>exact sim_beq n x y
 | nilq n x=>exact sim_nilq n x
 | aeq n fs x y=>exact sim_aeq n fs x y
 | un op x=>exact sim_un op x
 | conv k x=>exact sim_conv k x
 | fld o s g x=>exact sim_fld o s g x
 | ext i x=>exact sim_ext i x
 | faddr o x=>exact sim_faddr o x
 | iaddr s x i=>exact sim_iaddr s x i
 | load s g x=>exact sim_load s g x
 | store s x y=>exact sim_store s x y
 | slice s x lo hi=>exact sim_slice s x lo hi
 | slice3 s x y z=>exact sim_slice3 s x y z
 | bvec t xs=>exact sim_bvec t xs
 | sslice x lo hi=>exact sim_sslice x lo hi
 | len x=>exact sim_len x
 | slen x=>exact sim_slen x
 | nck x=>exact sim_nck x
 | idx x i=>exact sim_idx x i
 | app t s b x y=>exact sim_app t s b x y
 | apps t b x y=>exact sim_apps t b x y
 | b2s x=>exact sim_b2s x
 | s2b t x=>exact sim_s2b t x
 | bslice t s xs=>exact sim_bslice t s xs
 | blist t s xs=>exact sim_blist t s xs
 | build z ps=>exact sim_build z ps
 | box t s x=>exact sim_box t s x
 | boxz t s k x=>exact sim_boxz t s k x
 | clo f xs=>intro hs hrd p v kl h' hx hp; cases hx
 | alloc t z=>exact sim_alloc t z
 | mk t s b z n=>exact sim_mk t s b z n
 | mk2 t s b z l c=>exact sim_mk2 t s b z l c
 | bsc t xs=>exact sim_bsc t xs
 | mmk t n=>exact sim_mmk t n
 | mget kt ok z m k=>exact sim_mget kt ok z m k
 | mput kt m k v=>exact sim_mput kt m k v
 | alloca t s n z=>exact sim_alloca t s n z
 | aaddr b s n x i=>exact sim_aaddr b s n x i
 | aslice b n x lo hi=>exact sim_aslice b n x lo hi
 | aslf n x lo hi=>exact sim_aslf n x lo hi
 | aidx s g n x i=>exact sim_aidx s g n x i
 | copy s x y=>exact sim_copy s x y
 | min2 x y=>exact sim_min2 x y
 | max2 x y=>exact sim_max2 x y
 | call f as=>intro hs hrd p v kl h' hx hp; cases hx
end
abbrev Foc:=List (Option Nat)
def FLe (a b:Foc):Prop:=a.length=b.length∧∀ (j id:Nat),a[j]?=some (some id)→b[j]?=some (some id)
theorem FLe.refl (a:Foc):FLe a a:=⟨rfl,fun _ _ h=>h⟩
theorem FLe.trans {a b c:Foc} (h:FLe a b) (k:FLe b c):FLe a c:=⟨h.1.trans k.1,fun j id q=>k.2 j id (h.2 j id q)⟩
theorem asg_ok {foc foc':Foc} {j id:Nat} (h:asg foc j id=some foc'):FLe foc foc'∧foc'[j]?=some (some id):=by
 unfold asg at h
 split at h
 ·rename_i hj
  cases h
  have hlt:j < foc.length:=(List.getElem?_eq_some_iff.1 hj).1
  refine ⟨⟨by simp,fun k id' q=>?_⟩,by rw [List.getElem?_set_self hlt]⟩
  by_cases hk:j=k
  ·subst hk; rw [hj] at q; cases q
  ·rw [List.getElem?_set_ne hk]; exact q
 ·rename_i id' hj
  split at h
  ·rename_i hb
   cases h
   have:=beq_eq hb
   subst this
   exact ⟨FLe.refl _,hj⟩
  ·cases h
 ·cases h
inductive CR (foc:Foc):XV→XV→Prop
 | any (v:XV):CR foc v .any
 | d (v:XV) (T:Ty) (x:T.den) (h:toD [] T v=some x):CR foc v (.d T x)
 | row (id j:Nat) (h:foc[j]?=some (some id)):CR foc (.row id) (.row j)
 | ptr (id j i o:Nat) (h:foc[j]?=some (some id)):CR foc (.ptr id i o) (.ptr j i o)
 | nil:CR foc (.k (.slice none 0 0)) (.k (.slice none 0 0))
 | me (id j:Nat) (h:foc[j]?=some (some id)):CR foc (.me id) (.me j)
 | mep (id j:Nat) (h:foc[j]?=some (some id)):CR foc (.ptr id 0 0) (.me j)
 | men (j:Nat):CR foc (.k (.pointer none)) (.me j)
 | mp (id j:Nat) (h:foc[j]?=some (some id)):CR foc (.mp id) (.mp j)
 | sub (id j o n:Nat) (h:foc[j]?=some (some id)):CR foc (.sub id o n) (.sub j o n)
theorem CR.mono {foc foc':Foc} {v c:XV} (h:CR foc v c) (hl:FLe foc foc'):CR foc' v c:=by
 cases h with
 | any=>exact .any _
 | d _ T x h=>exact .d _ T x h
 | row id j h=>exact .row id j (hl.2 _ _ h)
 | ptr id j i o h=>exact .ptr id j i o (hl.2 _ _ h)
 | nil=>exact .nil
 | me id j h=>exact .me id j (hl.2 _ _ h)
 | mep id j h=>exact .mep id j (hl.2 _ _ h)
 | men j=>exact .men j
 | mp id j h=>exact .mp id j (hl.2 _ _ h)
 | sub id j o n h=>exact .sub id j o n (hl.2 _ _ h)
theorem isNilX_eq {v:XV} (h:isNilX v=true):v=.k (.slice none 0 0):=by
 unfold isNilX at h
 split at h
 ·rfl
 ·cases h
theorem nilP_eq {v:Value} (h:nilP v=true):v=.pointer none:=by
 unfold nilP at h
 split at h
 ·rfl
 ·cases h
theorem meId_none {v:XV} (h:meId v=some none):v=.k (.pointer none):=by
 cases v with
 | k v =>
  simp only [meId] at h
  split at h
  ·rename_i q; rw [nilP_eq q]
  ·cases h
 | ptr id i o=>simp only [meId] at h; split at h <;> cases h
 | _=>simp [meId] at h
theorem meId_some {foc:Foc} {v:XV} {id j:Nat} (h:meId v=some (some id)) (hj:foc[j]?=some (some id)):CR foc v (.me j):=by
 cases v with
 | k v=>simp only [meId] at h; split at h <;> cases h
 | ptr id' i o =>
  simp only [meId] at h
  split at h
  ·rename_i hb
   simp only [Bool.and_eq_true] at hb
   have e1:=beq_eq hb.1
   have e2:=beq_eq hb.2
   subst e1 e2
   cases h
   exact .mep _ _ hj
  ·cases h
 | me id'=>simp only [meId] at h; cases h; exact .me _ _ hj
 | _=>simp [meId] at h
theorem extC_ok:∀ (cs:List SC) (r:List Ty) (vs:List XV) (foc foc':Foc) (g:Ty.denL r→Ty.denL (SC.tys cs r)),extC cs r vs foc=some (foc',g)→FLe foc foc'∧∀ y,(embC cs r (g y)).2=y∧All2 (CR foc') vs (embC cs r (g y)).1:=by
 intro cs
 induction cs with
 | nil =>
  intro r vs foc foc' g h
  cases vs with
  | nil=>simp only [extC] at h; cases h; exact ⟨FLe.refl _,fun y=>⟨rfl,.nil⟩⟩
  | cons=>simp [extC] at h
 | cons c cs ih =>
  intro r vs foc foc' g h
  cases c with
  | d T =>
   simp only [extC] at h
   cases vs with
   | nil=>cases h
   | cons v vs =>
    simp only at h
    split at h
    ·rename_i x foc1 g1 hx h1
     cases h
     obtain ⟨a,b⟩:=ih r vs foc foc' g1 h1
     exact ⟨a,fun y=>⟨(b y).1,.cons (.d v T x hx) (b y).2⟩⟩
    ·cases h
  | row j =>
   simp only [extC] at h
   split at h
   ·rename_i id vs
    split at h
    ·rename_i foc1 h1
     obtain ⟨a1,a2⟩:=asg_ok h1
     obtain ⟨a,b⟩:=ih r vs foc1 foc' g h
     exact ⟨a1.trans a,fun y=>⟨(b y).1,.cons (.row id j (a.2 _ _ a2)) (b y).2⟩⟩
    ·cases h
   ·cases h
  | mp j =>
   simp only [extC] at h
   split at h
   ·rename_i id vs
    split at h
    ·rename_i foc1 h1
     obtain ⟨a1,a2⟩:=asg_ok h1
     obtain ⟨a,b⟩:=ih r vs foc1 foc' g h
     exact ⟨a1.trans a,fun y=>⟨(b y).1,.cons (.mp id j (a.2 _ _ a2)) (b y).2⟩⟩
    ·cases h
   ·cases h
  | ptr j i o =>
   simp only [extC] at h
   split at h
   ·rename_i id i' o' vs
    split at h
    ·rename_i hb
     simp only [Bool.and_eq_true] at hb
     have e1:=beq_eq hb.1
     have e2:=beq_eq hb.2
     subst e1 e2
     split at h
     ·rename_i foc1 h1
      obtain ⟨a1,a2⟩:=asg_ok h1
      obtain ⟨a,b⟩:=ih r vs foc1 foc' g h
      exact ⟨a1.trans a,fun y=>⟨(b y).1,.cons (.ptr id j i o (a.2 _ _ a2)) (b y).2⟩⟩
     ·cases h
    ·cases h
   ·cases h
  | me j =>
   simp only [extC] at h
   cases vs with
   | nil=>cases h
   | cons v vs =>
    simp only at h
    split at h
    ·rename_i id hm
     split at h
     ·rename_i foc1 h1
      obtain ⟨a1,a2⟩:=asg_ok h1
      obtain ⟨a,b⟩:=ih r vs foc1 foc' g h
      exact ⟨a1.trans a,fun y=>⟨(b y).1,.cons (meId_some hm (a.2 _ _ a2)) (b y).2⟩⟩
     ·cases h
    ·rename_i hm
     obtain ⟨a,b⟩:=ih r vs foc foc' g h
     have:=meId_none hm
     subst this
     exact ⟨a,fun y=>⟨(b y).1,.cons (.men j) (b y).2⟩⟩
    ·cases h
  | nil =>
   simp only [extC] at h
   cases vs with
   | nil=>cases h
   | cons v vs =>
    simp only at h
    by_cases hv:isNilX v=true
    ·have h':extC cs r vs foc=some (foc',g):=by simp only [hv,if_true] at h; exact h
     have:=isNilX_eq hv
     subst this
     obtain ⟨a,b⟩:=ih r vs foc foc' g h'
     exact ⟨a,fun y=>⟨(b y).1,.cons .nil (b y).2⟩⟩
    ·simp only [hv,if_false] at h
     cases h
  | any =>
   simp only [extC] at h
   cases vs with
   | nil=>cases h
   | cons v vs =>
    simp only at h
    obtain ⟨a,b⟩:=ih r vs foc foc' g h
    exact ⟨a,fun y=>⟨(b y).1,.cons (.any v) (b y).2⟩⟩
def OR' (foc:Foc):XO→XO→Prop
 | .row ty T fz es,o2=>o2=.row ty T fz es
 | .box ty vs,o2=>∃ cs,o2=.box ty cs∧All2 (CR foc) vs cs
 | .map ty K V es,o2=>o2=.map ty K V es
 | .vec _ _,_=>False
theorem OR'.mono {foc foc':Foc} {o o2:XO} (h:OR' foc o o2) (hl:FLe foc foc'):OR' foc' o o2:=by
 cases o with
 | row=>exact h
 | map=>exact h
 | vec=>exact h.elim
 | box ty vs=>obtain ⟨cs,e,hc⟩:=h; exact ⟨cs,e,hc.mono fun x y q=>q.mono hl⟩
theorem extO_ok (h:List XO):∀ (os:List SO) (j:Nat) (foc foc':Foc) (y:Ty.denL (SO.tys os)),extO h os j foc=some (foc',y)→FLe foc foc'∧(embO os y).length=os.length∧∀ (i:Nat) (o2:XO),(embO os y)[i]?=some o2→∃ id o,foc'[j + i]?=some (some id)∧h[id]?=some o∧OR' foc' o o2:=by
 intro os
 induction os with
 | nil=>intro j foc foc' y hx; simp only [extO] at hx; cases hx; exact ⟨FLe.refl _,rfl,fun i o2 q=>by simp [embO] at q⟩
 | cons so os ih =>
  intro j foc foc' y hx
  cases so with
  | row ty T fz =>
   simp only [extO] at hx
   split at hx
   case h_2=>cases hx
   rename_i id hid
   split at hx
   case h_2=>cases hx
   rename_i ty' T' fz' es ho
   split at hx
   case isFalse=>cases hx
   rename_i hb
   simp only [Bool.and_eq_true,beq_iff_eq] at hb
   have e1:=beq_eq hb.1
   have e2:=hb.2
   subst e1 e2
   split at hx
   case h_2=>cases hx
   rename_i es' foc1 y1 hc h1
   cases hx
   obtain ⟨q,rfl⟩:=castT_eq hc
   cases q
   obtain ⟨a,b,c⟩:=ih (j + 1) foc foc' y1 h1
   refine ⟨a,by simp only [embO,List.length_cons]; rw [b],fun i o2 q=>?_⟩
   cases i with
   | zero =>
    have q:some (XO.row ty T fz es)=some o2:=q
    cases q
    exact ⟨id,_,a.2 _ _ hid,ho,rfl⟩
   | succ i =>
    have q:(embO os y1)[i]?=some o2:=q
    have:=c i o2 q
    rw [show j + 1 + i=j + (i + 1) by omega] at this
    exact this
  | map ty K V =>
   simp only [extO] at hx
   split at hx
   case h_2=>cases hx
   rename_i id hid
   split at hx
   case h_2=>cases hx
   rename_i ty' K' V' es ho
   split at hx
   case isFalse=>cases hx
   rename_i hb
   have e1:=beq_eq hb
   subst e1
   split at hx
   case h_2=>cases hx
   rename_i es' foc1 y1 hc h1
   cases hx
   obtain ⟨q,rfl⟩:=castT_eq hc
   cases q
   obtain ⟨a,b,c⟩:=ih (j + 1) foc foc' y1 h1
   refine ⟨a,by simp only [embO,List.length_cons]; rw [b],fun i o2 q=>?_⟩
   cases i with
   | zero =>
    have q:some (XO.map ty K V es)=some o2:=q
    cases q
    exact ⟨id,_,a.2 _ _ hid,ho,rfl⟩
   | succ i =>
    have q:(embO os y1)[i]?=some o2:=q
    have:=c i o2 q
    rw [show j + 1 + i=j + (i + 1) by omega] at this
    exact this
  | box ty cs =>
   simp only [extO] at hx
   split at hx
   case h_2=>cases hx
   rename_i id hid
   split at hx
   case h_2=>cases hx
   rename_i ty' vs ho
   split at hx
   case isFalse=>cases hx
   rename_i hb
   have e1:=beq_eq hb
   subst e1
   split at hx
   case h_2=>cases hx
   rename_i foc1 g hc
   split at hx
   case h_2=>cases hx
   rename_i foc2 y1 h1
   cases hx
   obtain ⟨a1,a2⟩:=extC_ok cs _ vs foc foc1 g hc
   obtain ⟨a,b,c⟩:=ih (j + 1) foc1 foc' y1 h1
   obtain ⟨g1,g2⟩:=a2 y1
   refine ⟨a1.trans a,?_,fun i o2 q=>?_⟩
   ·show (XO.box ty _ :: embO os (embC cs (SO.tys os) (g y1)).2).length=_
    rw [g1,List.length_cons,List.length_cons,b]
   ·cases i with
    | zero =>
     have q:some (XO.box ty (embC cs (SO.tys os) (g y1)).1)=some o2:=q
     cases q
     exact ⟨id,_,(a1.trans a).2 _ _ hid,ho,_,rfl,g2.mono fun x y q=>q.mono a⟩
    | succ i =>
     have q:(embO os (embC cs (SO.tys os) (g y1)).2)[i]?=some o2:=q
     rw [g1] at q
     have:=c i o2 q
     rw [show j + 1 + i=j + (i + 1) by omega] at this
     exact this
theorem allSome_ok:∀ {foc:Foc} {l:List Nat},allSome foc=some l→foc.length=l.length∧∀ (j id:Nat),foc[j]?=some (some id) ↔ l[j]?=some id:=by
 intro foc
 induction foc with
 | nil=>intro l h; cases h; exact ⟨rfl,by simp⟩
 | cons a foc ih =>
  intro l h
  cases a with
  | none=>simp [allSome] at h
  | some a =>
   simp only [allSome] at h
   split at h
   ·rename_i m hm
    cases h
    obtain ⟨h1,h2⟩:=ih hm
    refine ⟨by simp [h1],fun j id=>?_⟩
    cases j with
    | zero=>simp
    | succ j=>simpa using h2 j id
   ·cases h
theorem nodupB_ok:∀ {l:List Nat},nodupB l=true→l.Nodup:=by
 intro l
 induction l with
 | nil=>intro _; exact List.nodup_nil
 | cons a l ih =>
  intro h
  simp only [nodupB,Bool.and_eq_true,Bool.not_eq_true',List.any_eq_false] at h
  rw [List.nodup_cons]
  refine ⟨fun hm=>h.1 a hm (by simp),ih h.2⟩
def CRS (foc:Foc) (v c:XV):Prop:=CR foc v c∨∃ vs cs,v=.agg vs∧c=.agg cs∧All2 (CR foc) vs cs
theorem CRS.mono {foc foc':Foc} {v c:XV} (h:CRS foc v c) (hl:FLe foc foc'):CRS foc' v c:=by
 rcases h with h | ⟨vs,cs,e1,e2,h⟩
 ·exact .inl (h.mono hl)
 ·exact .inr ⟨vs,cs,e1,e2,h.mono fun x y q=>q.mono hl⟩
theorem set_crs {t b:List XV} {foc:Foc} {s:Nat} {c:XV} (hb:∀ (i:Nat) (c:XV),b[i]?=some c→CRS foc (t.getD i .any) c) (hc:CRS foc (t.getD s .any) c):∀ (i:Nat) (c':XV),(b.set s c)[i]?=some c'→CRS foc (t.getD i .any) c':=by
 intro i c' q
 rw [List.getElem?_set] at q
 split at q
 ·rename_i hi
  split at q
  ·cases q; subst hi; exact hc
  ·cases q
 ·exact hb i c' q
theorem extV_ok (t:List XV) (foc:Foc):∀ (vs:List (Nat × Ty)) (r:List Ty) (y:Ty.denL r) (x:Ty.denL (varTys vs r)) (b:List XV),extV t vs r y=some x→(∀ (i:Nat) (c:XV),b[i]?=some c→CRS foc (t.getD i .any) c)→(embV vs r x b).2=y∧(embV vs r x b).1.length=b.length∧∀ (i:Nat) (c:XV),(embV vs r x b).1[i]?=some c→CRS foc (t.getD i .any) c:=by
 intro vs
 induction vs with
 | nil=>intro r y x b h hb; simp only [extV] at h; cases h; exact ⟨rfl,rfl,hb⟩
 | cons p vs ih =>
  intro r y x b h hb
  obtain ⟨s,T⟩:=p
  simp only [extV] at h
  split at h
  ·rename_i x1 z h1 h2
   cases h
   obtain ⟨a,c,e⟩:=ih r y z (b.set s (.d T x1)) h2 (fun i c q=>by
    rw [List.getElem?_set] at q
    split at q
    ·rename_i hi
     split at q
     ·cases q; subst hi; exact .inl (.d _ T x1 h1)
     ·cases q
    ·exact hb i c q)
   exact ⟨a,by rw [List.length_set] at c; exact c,e⟩
  ·cases h
theorem castI {k:IntKind} {m:Int}:toD [] (.int k) (.d (.int k) m)=some m:=by
 have hs:Ty.same (.int k) (.int k)=true:=by simp [Ty.same]
 show castT (a:=.int k) (b:=.int k) m=some m
 unfold castT; rw [dif_pos hs]; rfl
theorem iEqI {a b:Int} (h:iEq a b=true):a=b:=by simpa [iEq] using h
theorem isC_eq {k:IntKind} {n:Int} {v:XV} (h:isC k n v=true):v=.d (.int k) n:=by
 unfold isC at h
 split at h
 ·rename_i k' m
  simp only [Bool.and_eq_true,decide_eq_true_eq] at h
  obtain ⟨rfl,hb⟩:=h
  have hm:@Eq Int m n:=iEqI hb
  exact congrArg (fun z:Int=>XV.d (.int k) z) hm
 ·cases h
theorem extR_ok (t:List XV):∀ (refs:List (Nat × SR)) (r:List Ty) (foc foc':Foc) (g:Ty.denL r→Ty.denL (refTys refs r)),extR t refs r foc=some (foc',g)→FLe foc foc'∧∀ (y:Ty.denL r) (foc2:Foc) (b:List XV),FLe foc' foc2→(∀ (i:Nat) (c:XV),b[i]?=some c→CRS foc2 (t.getD i .any) c) →
  (embRf refs r (g y) b).2=y∧(embRf refs r (g y) b).1.length=b.length∧∀ (i:Nat) (c:XV),(embRf refs r (g y) b).1[i]?=some c→CRS foc2 (t.getD i .any) c:=by
 intro refs
 induction refs with
 | nil=>intro r foc foc' g h; simp only [extR] at h; cases h; exact ⟨FLe.refl _,fun y foc2 b _ hb=>⟨rfl,rfl,hb⟩⟩
 | cons p refs ih =>
  intro r foc foc' g h
  obtain ⟨s,sr⟩:=p
  have set1:∀ (c:XV) (foc1:Foc),FLe foc foc1→(∀ foc2,FLe foc1 foc2→CRS foc2 (t.getD s .any) c)→(∀ (g1:Ty.denL r→Ty.denL (refTys refs r)),extR t refs r foc1=some (foc',g1)→FLe foc foc'∧∀ (y:Ty.denL r) (foc2:Foc) (b:List XV),FLe foc' foc2→(∀ (i:Nat) (c:XV),b[i]?=some c→CRS foc2 (t.getD i .any) c)→(embRf refs r (g1 y) (b.set s c)).2=y∧(embRf refs r (g1 y) (b.set s c)).1.length=b.length∧∀ (i:Nat) (c':XV),(embRf refs r (g1 y) (b.set s c)).1[i]?=some c'→CRS foc2 (t.getD i .any) c'):=by
   intro c foc1 hl hc g1 h1
   obtain ⟨a1,a2⟩:=ih r foc1 foc' g1 h1
   refine ⟨hl.trans a1,fun y foc2 b hf hb=>?_⟩
   obtain ⟨b1,b2,b3⟩:=a2 y foc2 (b.set s c) hf (set_crs hb (hc foc2 (a1.trans hf)))
   exact ⟨b1,by rw [b2]; simp,b3⟩
  cases sr with
  | row j =>
   simp only [extR] at h
   split at h
   ·rename_i id hid
    split at h
    ·rename_i foc1 h1
     obtain ⟨a1,a2⟩:=asg_ok h1
     exact set1 (.row j) foc1 a1 (fun foc2 hf=>by rw [hid]; exact .inl (.row id j (hf.2 _ _ a2))) g h
    ·cases h
   ·cases h
  | mp j =>
   simp only [extR] at h
   split at h
   ·rename_i id hid
    split at h
    ·rename_i foc1 h1
     obtain ⟨a1,a2⟩:=asg_ok h1
     exact set1 (.mp j) foc1 a1 (fun foc2 hf=>by rw [hid]; exact .inl (.mp id j (hf.2 _ _ a2))) g h
    ·cases h
   ·cases h
  | sub j o n =>
   simp only [extR] at h
   split at h
   ·rename_i id o' n' hid
    split at h
    ·rename_i hb
     simp only [Bool.and_eq_true] at hb
     have e1:=beq_eq hb.1
     have e2:=beq_eq hb.2
     subst e1 e2
     split at h
     ·rename_i foc1 h1
      obtain ⟨a1,a2⟩:=asg_ok h1
      exact set1 (.sub j o n) foc1 a1 (fun foc2 hf=>by rw [hid]; exact .inl (.sub id j o n (hf.2 _ _ a2))) g h
     ·cases h
    ·cases h
   ·cases h
  | ptr j i o =>
   simp only [extR] at h
   split at h
   ·rename_i id i' o' hid
    split at h
    ·rename_i hb
     simp only [Bool.and_eq_true] at hb
     have e1:=beq_eq hb.1
     have e2:=beq_eq hb.2
     subst e1 e2
     split at h
     ·rename_i foc1 h1
      obtain ⟨a1,a2⟩:=asg_ok h1
      exact set1 (.ptr j i o) foc1 a1 (fun foc2 hf=>by rw [hid]; exact .inl (.ptr id j i o (hf.2 _ _ a2))) g h
     ·cases h
    ·cases h
   ·cases h
  | nil =>
   by_cases hn:isNilX (t.getD s .any)=true
   ·have h':extR t refs r foc=some (foc',g):=by simp only [extR,hn,if_true] at h; exact h
    exact set1 (.k (.slice none 0 0)) foc (FLe.refl _) (fun foc2 hf=>by rw [isNilX_eq hn]; exact .inl .nil) g h'
   ·simp only [extR,hn,if_false] at h
    cases h
  | cst k n =>
   by_cases hn:isC k n (t.getD s .any)=true
   ·have h':extR t refs r foc=some (foc',g):=by simp only [extR,hn,if_true] at h; exact h
    exact set1 (.d (.int k) n) foc (FLe.refl _) (fun foc2 hf=>by rw [isC_eq hn]; exact .inl (.d _ (.int k) n castI)) g h'
   ·simp only [extR,hn,if_false] at h
    cases h
  | agg cs =>
   simp only [extR] at h
   split at h
   ·rename_i vs hid
    split at h
    ·rename_i foc1 g1 h1
     split at h
     ·rename_i foc3 g2 h2
      cases h
      obtain ⟨c1,c2⟩:=extC_ok cs _ vs foc foc1 g1 h1
      obtain ⟨a1,a2⟩:=ih r foc1 foc' g2 h2
      refine ⟨c1.trans a1,fun y foc2 b hf hb=>?_⟩
      obtain ⟨d1,d2⟩:=c2 (g2 y)
      obtain ⟨b1,b2,b3⟩:=a2 y foc2 (b.set s (.agg (embC cs (refTys refs r) (g1 (g2 y))).1)) hf (set_crs hb (by rw [hid]; exact .inr ⟨_,_,rfl,rfl,d2.mono fun x y q=>q.mono (a1.trans hf)⟩))
      show (embRf refs r (embC cs (refTys refs r) (g1 (g2 y))).2 (b.set s (.agg (embC cs (refTys refs r) (g1 (g2 y))).1))).2=y∧(embRf refs r (embC cs (refTys refs r) (g1 (g2 y))).2 (b.set s (.agg (embC cs (refTys refs r) (g1 (g2 y))).1))).1.length=b.length∧∀ (i:Nat) (c:XV),(embRf refs r (embC cs (refTys refs r) (g1 (g2 y))).2 (b.set s (.agg (embC cs (refTys refs r) (g1 (g2 y))).1))).1[i]?=some c→CRS foc2 (t.getD i .any) c
      rw [d1]
      exact ⟨b1,by rw [b2]; simp,b3⟩
     ·cases h
    ·cases h
   ·cases h
theorem initF_len (nf:Nat):∀ (n j:Nat),(initF nf j n).length=n:=by
 intro n
 induction n with
 | zero=>intro j; rfl
 | succ n ih=>intro j; simp only [initF,List.length_cons,ih]
theorem ext_sim {nf:Nat} {ρ:List Nat} {X:XS} {ts:List AV} {H:List AObj} {sh:Sh} {foc:List Nat} {x:Ty.denL sh.tys} (ht:All2 (VT ρ X.h) X.t ts) (hs:HS ρ X.h H) (hn:X.t.length=sh.n) (hx:ext nf sh X=some (foc,x)) :
  Sim (foc.map fun id=>ρ.getD id 0) (emb sh x) ⟨ts,H⟩∧(∀ id ∈ foc,id < X.h.length)∧foc.length=sh.objs.length∧foc.Nodup:=by
 unfold ext at hx
 split at hx
 case h_2=>cases hx
 rename_i foc1 g h1
 split at hx
 case h_2=>cases hx
 rename_i foc2 y h2
 split at hx
 case h_2=>cases hx
 rename_i foc3 x3 h3 h4
 split at hx
 case isFalse=>cases hx
 rename_i hnd
 cases hx
 obtain ⟨r1,r2⟩:=extR_ok X.t _ _ _ _ _ h1
 obtain ⟨o1,o2,o3⟩:=extO_ok X.h _ _ _ _ _ h2
 obtain ⟨s1,s2⟩:=allSome_ok h3
 obtain ⟨v1,v2,v3⟩:=extV_ok X.t foc2 sh.vars _ (g y) x (List.replicate sh.n .any) h4 (fun i c q=>by
  have:=List.eq_of_mem_replicate (List.mem_of_getElem? q); subst this; exact .inl (.any _))
 obtain ⟨w1,w2,w3⟩:=r2 y foc2 (embV sh.vars (refTys sh.refs (SO.tys sh.objs)) x (List.replicate sh.n .any)).1 o1 v3
 have hes:embS sh x=embRf sh.refs (SO.tys sh.objs) (g y) (embV sh.vars (refTys sh.refs (SO.tys sh.objs)) x (List.replicate sh.n .any)).1:=by
  unfold embS; rw [v1]
 have hfl:foc.length=sh.objs.length:=by rw [← s1,← o1.1,← r1.1,initF_len]
 have hh2:(emb sh x).h=embO sh.objs y:=by show embO sh.objs (embS sh x).2=_; rw [hes,w1]
 have cor:∀ (j:Nat) (ob:XO),(emb sh x).h[j]?=some ob→∃ id o,foc[j]?=some id∧X.h[id]?=some o∧OR' foc2 o ob:=fun j ob q=>by
  rw [hh2] at q
  obtain ⟨id,o,e1,e2,e3⟩:=o3 j ob q
  rw [Nat.zero_add] at e1
  exact ⟨id,o,(s2 j id).1 e1,e2,e3⟩
 have hlen:(emb sh x).h.length=foc.length:=by rw [hh2,o2,hfl]
 have rget:∀ (j id:Nat),foc[j]?=some id→(foc.map fun id=>ρ.getD id 0).getD j 0=ρ.getD id 0:=fun j id q=>by
  simp [List.getD,List.getElem?_map,q]
 have ptr1:∀ (id j i o:Nat) (a:AV),foc2[j]?=some (some id)→(∃ ob,X.h[id]?=some ob∧a=.ptr (ρ.getD id 0) ob.len i o)→∃ ob,(emb sh x).h[j]?=some ob∧a=.ptr ((foc.map fun id=>ρ.getD id 0).getD j 0) ob.len i o:=by
   intro id j i o a hj hv
   obtain ⟨ob,he,rfl⟩:=hv
   have hj':=(s2 j id).1 hj
   have hjl:j < (emb sh x).h.length:=by rw [hlen]; exact (List.getElem?_eq_some_iff.1 hj').1
   obtain ⟨id',o',e1,e2,e3⟩:=cor j _ (List.getElem?_eq_getElem hjl)
   rw [hj'] at e1
   cases e1
   rw [he] at e2
   cases e2
   refine ⟨_,List.getElem?_eq_getElem hjl,?_⟩
   rw [rget j id hj']
   cases ob with
   | row ty T fz es=>have e3:(emb sh x).h[j]=.row ty T fz es:=e3; rw [e3]
   | vec ty vs=>exact e3.elim
   | map ty K V es=>have e3:(emb sh x).h[j]=.map ty K V es:=e3; rw [e3]
   | box ty vs=>obtain ⟨cs,e3,_⟩:=e3; rw [e3]; rfl
 have val1:∀ (v c:XV) (a:AV),CR foc2 v c→V1 ρ X.h v a→V1 (foc.map fun id=>ρ.getD id 0) (emb sh x).h c a:=by
  intro v c a hc hv
  cases hc with
  | any=>trivial
  | d _ T z hz=>exact toD_pure hz (VA.of1 hv)
  | nil=>exact hv
  | row id j hj =>
   obtain ⟨ty,T,fz,es,he,rfl⟩:=hv
   have hj':=(s2 j id).1 hj
   have hjl:j < (emb sh x).h.length:=by rw [hlen]; exact (List.getElem?_eq_some_iff.1 hj').1
   obtain ⟨id',o,e1,e2,e3⟩:=cor j _ (List.getElem?_eq_getElem hjl)
   rw [hj'] at e1
   cases e1
   rw [he] at e2
   cases e2
   have e3:(emb sh x).h[j]=.row ty T fz es:=e3
   exact ⟨ty,T,fz,es,by rw [List.getElem?_eq_getElem hjl,e3],by rw [rget j id hj']⟩
  | sub id j o n hj =>
   obtain ⟨ty,T,fz,es,he,rfl⟩:=hv
   have hj':=(s2 j id).1 hj
   have hjl:j < (emb sh x).h.length:=by rw [hlen]; exact (List.getElem?_eq_some_iff.1 hj').1
   obtain ⟨id',o',e1,e2,e3⟩:=cor j _ (List.getElem?_eq_getElem hjl)
   rw [hj'] at e1
   cases e1
   rw [he] at e2
   cases e2
   have e3:(emb sh x).h[j]=.row ty T fz es:=e3
   exact ⟨ty,T,fz,es,by rw [List.getElem?_eq_getElem hjl,e3],by rw [rget j id hj']⟩
  | ptr id j i o hj=>exact ptr1 id j i o a hj hv
  | me id j hj =>
   rcases hv with hv | hv
   ·exact .inl hv
   ·exact .inr (ptr1 id j 0 0 a hj hv)
  | mep id j hj=>exact .inr (ptr1 id j 0 0 a hj hv)
  | men j=>exact .inl hv
  | mp id j hj =>
   obtain ⟨ty,K,V,es,he,rfl⟩:=hv
   have hj':=(s2 j id).1 hj
   have hjl:j < (emb sh x).h.length:=by rw [hlen]; exact (List.getElem?_eq_some_iff.1 hj').1
   obtain ⟨id',o,e1,e2,e3⟩:=cor j _ (List.getElem?_eq_getElem hjl)
   rw [hj'] at e1
   cases e1
   rw [he] at e2
   cases e2
   have e3:(emb sh x).h[j]=.map ty K V es:=e3
   exact ⟨ty,K,V,es,by rw [List.getElem?_eq_getElem hjl,e3],by rw [rget j id hj']⟩
 refine ⟨⟨?_,?_⟩,?_,hfl,nodupB_ok hnd⟩
 ·refine ⟨?_,fun i c a p q=>?_⟩
  ·show (embS sh x).1.length=_
   rw [hes,w2,v2,List.length_replicate,← hn]
   exact ht.1
  ·have hc:=w3 i c (by rw [← hes]; exact p)
   have hil:i < X.t.length:=by rw [ht.1]; exact (List.getElem?_eq_some_iff.1 q).1
   have hv:=ht.2 i X.t[i] a (List.getElem?_eq_getElem hil) q
   have hg:X.t.getD i .any=X.t[i]:=by simp [List.getD,List.getElem?_eq_getElem hil]
   rw [hg] at hc
   generalize X.t[i]=v at hc hv
   rcases hc with hc | ⟨vs,cs,rfl,rfl,hcs⟩
   case inr =>
    obtain ⟨as,rfl,hva⟩:=hv
    refine ⟨as,rfl,by rw [← hcs.1,hva.1],fun j c' a' p' q'=>?_⟩
    obtain ⟨v',hv',hcr⟩:=hcs.get_right p'
    exact val1 v' c' a' hcr (hva.2 j v' a' hv' q')
   cases hc with
   | any=>trivial
   | d _ T z hz =>
    refine vt_d (toD_pure hz (VT.notup hv fun vs q=>?_))
    rw [q] at hz
    cases T <;> simp [toD,lst] at hz
   | row id j hj=>exact VT.of1 (val1 _ _ a (.row id j hj) hv)
   | ptr id j i' o hj=>exact VT.of1 (val1 _ _ a (.ptr id j i' o hj) hv)
   | nil=>exact hv
   | me id j hj=>exact VT.of1 (val1 _ _ a (.me id j hj) hv)
   | mep id j hj=>exact VT.of1 (val1 _ _ a (.mep id j hj) hv)
   | men j=>exact VT.of1 (val1 _ _ a (.men j) hv)
   | mp id j hj=>exact VT.of1 (val1 _ _ a (.mp id j hj) hv)
   | sub id j o n hj=>exact VT.of1 (val1 _ _ a (.sub id j o n hj) hv)
 ·refine ⟨by rw [List.length_map,hlen],?_,fun j ob q=>?_⟩
  ·have:foc.Nodup:=nodupB_ok hnd
   rw [List.nodup_iff_pairwise_ne,List.pairwise_map]
   refine List.Pairwise.imp_of_mem (fun {a b} ha hb hab e=>?_) (List.nodup_iff_pairwise_ne.1 this)
   have lt:∀ a ∈ foc,a < X.h.length:=fun a ha=>by
    obtain ⟨j,hj⟩:=List.mem_iff_getElem?.1 ha
    have hjl:j < (emb sh x).h.length:=by rw [hlen]; exact (List.getElem?_eq_some_iff.1 hj).1
    obtain ⟨id',o',e1,e2,e3⟩:=cor j _ (List.getElem?_eq_getElem hjl)
    rw [hj] at e1; cases e1
    exact (List.getElem?_eq_some_iff.1 e2).1
   exact hab (hs.inj (lt a ha) (lt b hb) e)
  ·obtain ⟨id,o,e1,e2,e3⟩:=cor j ob q
   obtain ⟨O,hO,hR⟩:=hs.hr id o e2
   refine ⟨O,by rw [rget j id e1]; exact hO,?_⟩
   cases o with
   | row ty T fz es=>have e3:ob=.row ty T fz es:=e3; subst e3; exact hR
   | map ty K V es=>have e3:ob=.map ty K V es:=e3; subst e3; exact hR
   | vec ty vs=>exact e3.elim
   | box ty vs =>
    obtain ⟨cs,rfl,hc⟩:=e3
    obtain ⟨q1,q2,q3,q4,e,q5,q6⟩:=hR
    refine ⟨q1,by rw [q2,hc.1],q3,q4,e,q5,by rw [← hc.1]; exact q6.1,fun i c a p q=>?_⟩
    obtain ⟨v,hv,hcr⟩:=hc.get_right p
    exact val1 v c a hcr (q6.2 i v a hv q)
 ·intro id hid
  obtain ⟨j,hj⟩:=List.mem_iff_getElem?.1 hid
  have hjl:j < (emb sh x).h.length:=by rw [hlen]; exact (List.getElem?_eq_some_iff.1 hj).1
  obtain ⟨id',o',e1,e2,e3⟩:=cor j _ (List.getElem?_eq_getElem hjl)
  rw [hj] at e1; cases e1
  exact (List.getElem?_eq_some_iff.1 e2).1
theorem ext_novec {nf:Nat} {X:XS} {sh:Sh} {foc:List Nat} {x:Ty.denL sh.tys} (hx:ext nf sh X=some (foc,x)):∀ id ∈ foc,∀ ty cs,X.h[id]? ≠ some (.vec ty cs):=by
 unfold ext at hx
 split at hx
 case h_2=>cases hx
 rename_i foc1 g h1
 split at hx
 case h_2=>cases hx
 rename_i foc2 y h2
 split at hx
 case h_2=>cases hx
 rename_i foc3 x3 h3 h4
 split at hx
 case isFalse=>cases hx
 rename_i hnd
 cases hx
 obtain ⟨r1,r2⟩:=extR_ok X.t _ _ _ _ _ h1
 obtain ⟨o1,o2,o3⟩:=extO_ok X.h _ _ _ _ _ h2
 obtain ⟨s1,s2⟩:=allSome_ok h3
 intro id hid ty cs q
 obtain ⟨j,hj⟩:=List.mem_iff_getElem?.1 hid
 have hfl:foc.length=sh.objs.length:=by rw [← s1,← o1.1,← r1.1,initF_len]
 have hjl:j < (embO sh.objs y).length:=by rw [o2,← hfl]; exact (List.getElem?_eq_some_iff.1 hj).1
 obtain ⟨id',o,e1,e2,e3⟩:=o3 j _ (List.getElem?_eq_getElem hjl)
 rw [Nat.zero_add] at e1
 have:=(s2 j id').1 e1
 rw [hj] at this
 cases this
 rw [q] at e2
 cases e2
 exact e3
def kK:XO→Nat
 | .row ..=>0
 | .box ..=>1
 | .map ..=>2
 | .vec ..=>3
def kS:SO→Nat
 | .row ..=>0
 | .box ..=>1
 | .map ..=>2
theorem embO_kind:∀ (os:List SO) (y:Ty.denL (SO.tys os)),(embO os y).map kK=os.map kS:=by
 intro os
 induction os with
 | nil=>intro y; rfl
 | cons so os ih =>
  intro y
  cases so with
  | row ty T fz=>simp only [embO,List.map_cons,kK,kS,ih]
  | box ty cs=>simp only [embO,List.map_cons,kK,kS,ih]
  | map ty K V=>simp only [embO,List.map_cons,kK,kS,ih]
theorem ext_kind {nf:Nat} {X:XS} {sh:Sh} {foc:List Nat} {x:Ty.denL sh.tys} (hx:ext nf sh X=some (foc,x)):∀ (j id:Nat) (o:XO),foc[j]?=some id→X.h[id]?=some o→(sh.objs.map kS)[j]?=some (kK o):=by
 unfold ext at hx
 split at hx
 case h_2=>cases hx
 rename_i foc1 g h1
 split at hx
 case h_2=>cases hx
 rename_i foc2 y h2
 split at hx
 case h_2=>cases hx
 rename_i foc3 x3 h3 h4
 split at hx
 case isFalse=>cases hx
 rename_i hnd
 cases hx
 obtain ⟨r1,r2⟩:=extR_ok X.t _ _ _ _ _ h1
 obtain ⟨o1,o2,o3⟩:=extO_ok X.h _ _ _ _ _ h2
 obtain ⟨s1,s2⟩:=allSome_ok h3
 intro j id ob hj q
 have hfl:foc.length=sh.objs.length:=by rw [← s1,← o1.1,← r1.1,initF_len]
 have hjl:j < (embO sh.objs y).length:=by rw [o2,← hfl]; exact (List.getElem?_eq_some_iff.1 hj).1
 obtain ⟨id',o,e1,e2,e3⟩:=o3 j _ (List.getElem?_eq_getElem hjl)
 rw [Nat.zero_add] at e1
 have:=(s2 j id').1 e1
 rw [hj] at this
 cases this
 rw [q] at e2
 cases e2
 rw [← embO_kind sh.objs y,List.getElem?_map,List.getElem?_eq_getElem hjl]
 show some (kK _)=some (kK ob)
 congr 1
 cases ob with
 | row ty T fz es=>have e3:(embO sh.objs y)[j]=.row ty T fz es:=e3; rw [e3]
 | map ty K V es=>have e3:(embO sh.objs y)[j]=.map ty K V es:=e3; rw [e3]
 | vec ty cs=>exact e3.elim
 | box ty vs=>obtain ⟨cs,e3,_⟩:=e3; rw [e3]; rfl
theorem ext_row {nf:Nat} {X:XS} {sh:Sh} {foc:List Nat} {x:Ty.denL sh.tys} (hx:ext nf sh X=some (foc,x)):∀ (j id:Nat) (o:XO),foc[j]?=some id→X.h[id]?=some o→∀ {ty:Nat} {T:Ty} {fz:Bool} {es:List T.den},(emb sh x).h[j]?=some (.row ty T fz es)→o=.row ty T fz es:=by
 unfold ext at hx
 split at hx
 case h_2=>cases hx
 rename_i foc1 g h1
 split at hx
 case h_2=>cases hx
 rename_i foc2 y h2
 split at hx
 case h_2=>cases hx
 rename_i foc3 x3 h3 h4
 split at hx
 case isFalse=>cases hx
 rename_i hnd
 cases hx
 obtain ⟨r1,r2⟩:=extR_ok X.t _ _ _ _ _ h1
 obtain ⟨o1,o2,o3⟩:=extO_ok X.h _ _ _ _ _ h2
 obtain ⟨s1,s2⟩:=allSome_ok h3
 intro j id ob hj q ty T fz es hrow
 have hfl:foc.length=sh.objs.length:=by rw [← s1,← o1.1,← r1.1,initF_len]
 have hjl:j < (embO sh.objs y).length:=by rw [o2,← hfl]; exact (List.getElem?_eq_some_iff.1 hj).1
 obtain ⟨v1,v2,v3⟩:=extV_ok X.t foc2 sh.vars _ (g y) x (List.replicate sh.n .any) h4 (fun i c q=>by
  have:=List.eq_of_mem_replicate (List.mem_of_getElem? q); subst this; exact .inl (.any _))
 obtain ⟨w1,w2,w3⟩:=r2 y foc2 (embV sh.vars (refTys sh.refs (SO.tys sh.objs)) x (List.replicate sh.n .any)).1 o1 v3
 have hes:embS sh x=embRf sh.refs (SO.tys sh.objs) (g y) (embV sh.vars (refTys sh.refs (SO.tys sh.objs)) x (List.replicate sh.n .any)).1:=by
  unfold embS; rw [v1]
 have hh2:(emb sh x).h=embO sh.objs y:=by show embO sh.objs (embS sh x).2=_; rw [hes,w1]
 rw [hh2,List.getElem?_eq_getElem hjl] at hrow
 have hrow:=Option.some.inj hrow
 obtain ⟨id',o,e1,e2,e3⟩:=o3 j _ (List.getElem?_eq_getElem hjl)
 rw [Nat.zero_add] at e1
 have:=(s2 j id').1 e1
 rw [hj] at this
 cases this
 rw [q] at e2
 cases e2
 rw [hrow] at e3
 cases ob with
 | row ty' T' fz' es'=>have e3:XO.row ty T fz es=.row ty' T' fz' es':=e3; exact e3.symm
 | map ty' K V es'=>have e3:XO.row ty T fz es=.map ty' K V es':=e3; cases e3
 | vec ty cs=>exact e3.elim
 | box ty vs=>obtain ⟨cs,e3,_⟩:=e3; cases e3
def encs:(ps:List Ty)→Ty.denL ps→List AV
 | [],_=>[]
 | T :: ps,x=>Ty.enc T x.1 :: encs ps x.2
def oneT (l:List AV):AV:=match l with
 | [a]=>a
 | l=>.tup l
def POk (P:Program) (Gl:Nat→Option (List AV)) (p:PI):Prop:=callable P p.f=true∧∀ x y,p.run x=some y→Pure P Gl p.f (encs p.ps x) (oneT (encs p.rs y))
structure Frm (H0:List AObj) (ρ0 ρ:List Nat) (H:List AObj):Prop where
 pre:∃ l,ρ=ρ0 ++ l∧∀ x ∈ l,H0.length≤x
 ge:H0.length≤H.length
 fr:∀ j,j < H0.length→j ∉ ρ0→H[j]?=H0[j]?
def HOk (P:Program) (Gl:Nat→Option (List AV)) (p:HI):Prop:=callable P p.f=true∧∀ x y,p.run x=some y→∀ (H:List AObj) (ρ:List Nat) (as:List AV),Sim ρ (emb p.ish x) ⟨as,H⟩ →
 PureH P Gl p.f H as (fun res H'=>∃ ρ' rs,Sim ρ' (emb p.osh y) ⟨rs,H'⟩∧oneT rs=res∧Frm H ρ ρ' H')
theorem Frm.refl (H:List AObj) (ρ:List Nat):Frm H ρ ρ H:=⟨⟨[],by simp,by simp⟩,Nat.le_refl _,fun _ _ _=>rfl⟩
theorem Frm.upd {H0 H H':List AObj} {ρ0 ρ ρ' kl tch:List Nat} {h h':List XO} (hf:Frm H0 ρ0 ρ H) (hρ:ρ.length=h.length) (hu:Upd ρ h H ρ' h' H' kl tch):Frm H0 ρ0 ρ' H':=by
 obtain ⟨l,e1,q1⟩:=hf.pre
 obtain ⟨n,e2,q2⟩:=hu.ap
 refine ⟨⟨l ++ n,by rw [e2,e1,List.append_assoc],fun x hx=>?_⟩,Nat.le_trans hf.ge hu.ge,fun j hj hn=>?_⟩
 ·rcases List.mem_append.1 hx with q | q
  ·exact q1 x q
  ·exact Nat.le_trans hf.ge (q2 x q)
 ·rw [hu.fr j (Nat.lt_of_lt_of_le hj hf.ge) (fun id _ hid q=>?_),hf.fr j hj hn]
  have hmem:ρ.getD id 0 ∈ ρ:=by
   have hl:id < ρ.length:=by rw [hρ]; exact hid
   simp only [List.getD,List.getElem?_eq_getElem hl,Option.getD_some]
   exact List.getElem_mem _
  rw [q,e1] at hmem
  rcases List.mem_append.1 hmem with q' | q'
  ·exact hn q'
  ·have:=q1 j q'; omega
section
variable {ρ:List Nat} {h:List XO} {H:List AObj}
theorem listX_ok:∀ (rs:List Ty) (y:Ty.denL rs),All2 (VA ρ h) (listX rs y) (encs rs y):=by
 intro rs
 induction rs with
 | nil=>intro y; exact .nil
 | cons T rs ih=>intro y; exact .cons (Wp.refl _) (ih y.2)
theorem resX_ok (rs:List Ty) (y:Ty.denL rs):VT ρ h (resX rs y) (oneT (encs rs y)):=by
 have hc:=listX_ok (ρ:=ρ) (h:=h) rs y
 unfold resX oneT
 generalize listX rs y=l at hc
 generalize encs rs y=m at hc
 match l,m,hc with
 | [],m,hc=>have:=hc.nil_left; subst this; exact ⟨[],rfl,.nil⟩
 | [v],m,hc =>
  obtain ⟨a,r,rfl,hv,ht⟩:=hc.cons_left
  have:=ht.nil_left
  subst this
  exact VT.ofA hv
 | v :: w :: l,m,hc =>
  obtain ⟨a,r,rfl,hv,ht⟩:=hc.cons_left
  obtain ⟨b,r',rfl,hw,ht'⟩:=ht.cons_left
  exact ⟨_,rfl,hc⟩
theorem scal_cells (T:Ty):hasF T=false→∀ x:T.den,((Ty.enc T x).cells.all allV=scalT T):=by
 refine Ty.rec (motive_1:=fun T=>hasF T=false→∀ x:T.den,(Ty.enc T x).cells.all allV=scalT T) (motive_2:=fun fs=>hasFL fs=false→∀ x:Ty.denL fs,(Ty.encL fs x).all allV=scalL fs) ?_ ?_ ?_ ?_ ?_ ?_ ?_ ?_ ?_ ?_ T
 ·intro k _ x; rfl
 ·intro _ x; rfl
 ·intro _ x; rfl
 ·intro e _ _ x; rfl
 ·intro fs ih h x; exact ih h x
 ·intro f _ x; rfl
 ·intro e _ h; cases h
 ·intro _ _ _ x; rfl
 ·intro _ x; rfl
 ·intro t ts h1 h2 h x
  simp only [hasFL,Bool.or_eq_false_iff] at h
  simp only [Ty.encL,List.all_append,h1 h.1,h2 h.2,scalL]
theorem scal_one (T:Ty) (hF:hasF T=false) (x:T.den):(match Ty.enc T x with | .v _=>true | .agg cs=>cs.all allV | _=>false)=scalT T:=by
 cases T with
 | tup fs=>exact scal_cells (.tup fs) hF x
 | listF e=>cases hF
 | _=>rfl
theorem scal_all:∀ (rs:List Ty) (hF:hasFL rs=false) (y:Ty.denL rs),((encs rs y).all fun a=>match a with | .v _=>true | .agg cs=>cs.all allV | _=>false)=scalL rs:=by
 intro rs
 induction rs with
 | nil=>intro _ y; rfl
 | cons T rs ih =>
  intro h y
  simp only [hasFL,Bool.or_eq_false_iff] at h
  simp only [encs,List.all_cons,scal_one T h.1,ih h.2,scalL]
theorem scal_res (rs:List Ty) (hF:hasFL rs=false) (y:Ty.denL rs):scalar (oneT (encs rs y))=scalL rs:=by
 match rs,hF,y with
 | [],_,y=>rfl
 | [T],hF,y =>
  simp only [hasFL,Bool.or_false] at hF
  show scalar (Ty.enc T y.1)=(scalT T && true)
  rw [Bool.and_true,← scal_one T hF y.1]
  cases T with
  | listF e=>cases hF
  | _=>rfl
 | T :: U :: rs,hF,y=>exact scal_all (T :: U :: rs) hF y
mutual
theorem scal_noF:∀ {T:Ty},scalT T=true→hasF T=false
 | .int _,_=>rfl
 | .bool,_=>rfl
 | .str,_=>rfl
 | .list _,_=>rfl
 | .tup fs,h=>scalL_noF (fs:=fs) h
 | .fnc _,_=>rfl
 | .listF _,h=>by cases h
 | .rl _ _,_=>rfl
theorem scalL_noF:∀ {fs:List Ty},scalL fs=true→hasFL fs=false
 | [],_=>rfl
 | t :: ts,h=>by
  simp only [scalL,Bool.and_eq_true] at h
  simp only [hasFL,scal_noF h.1,scalL_noF h.2,Bool.or_self]
end
theorem argsD_ok (hs:HS ρ h H):∀ (ps:List Ty) (vs:List XV) (x:Ty.denL ps) (as:List AV),argsD h ps vs=some x→All2 (VT ρ h) vs as→∃ bs,keepAL H as=some bs∧All2 Wp bs (encs ps x)∧as.flatMap rowsA=(vs.flatMap rowsX).map (fun id=>ρ.getD id 0)∧∀ id ∈ vs.flatMap rowsX,isRow h id:=by
 intro ps
 induction ps with
 | nil =>
  intro vs x as hx hv
  cases vs with
  | nil=>have:=hv.nil_left; subst this; exact ⟨[],rfl,.nil,rfl,by simp⟩
  | cons=>simp [argsD] at hx
 | cons T ps ih =>
  intro vs x as hx hv
  cases vs with
  | nil=>simp [argsD] at hx
  | cons v vs =>
   simp only [argsD] at hx
   split at hx
   ·rename_i z l hz hl
    cases hx
    obtain ⟨a,as',rfl,hv1,hv2⟩:=hv.cons_left
    have hnt:∀ us,v ≠ .tup us:=fun us q=>by
     subst q
     cases T <;> simp [toD,lst] at hz
    obtain ⟨b,k1,k2,k3,k4⟩:=toD_keep hs hz (hv1.notup hnt)
    obtain ⟨bs,i1,i2,i3,i4⟩:=ih vs l as' hl hv2
    refine ⟨b :: bs,by simp only [keepAL,k1,i1],.cons k2 i2,by simp [k3,i3],fun id hid=>?_⟩
    simp only [List.flatMap_cons,List.mem_append] at hid
    rcases hid with q | q
    ·exact k4 id q
    ·exact i4 id q
   ·cases hx
theorem frzX_id:∀ (ids:List Nat) (h:List XO),ids.all (isFz h)=true→frzX h ids=h:=by
 intro ids
 induction ids with
 | nil=>intro h _; rfl
 | cons id ids ih =>
  intro h ha
  simp only [List.all_cons,Bool.and_eq_true] at ha
  have hset:(match h[id]? with | some o=>h.set id (frzO o) | none=>h)=h:=by
   have:=ha.1
   unfold isFz at this
   split at this
   ·rename_i ty T fz es he
    rw [he]
    subst this
    simp only [frzO]
    apply List.ext_getElem?
    intro j
    rw [List.getElem?_set]
    split
    ·rename_i hj
     subst hj
     split
     ·rw [he]
     ·rename_i hl; rw [List.getElem?_eq_none (by omega)]
    ·rfl
   ·cases this
  show frzX (match h[id]? with | some o=>h.set id (frzO o) | none=>h) ids=h
  rw [hset]; exact ih h ha.2
theorem embO_novec:∀ (os:List SO) (y:Ty.denL (SO.tys os)) (ty:Nat) (cs:List XV),XO.vec ty cs ∉ embO os y:=by
 intro os
 induction os with
 | nil=>intro y ty cs q; simp [embO] at q
 | cons so os ih =>
  intro y ty cs q
  cases so with
  | row ty' T fz =>
   simp only [embO,List.mem_cons] at q
   rcases q with q | q
   ·cases q
   ·exact ih _ _ _ q
  | box ty' cs' =>
   simp only [embO,List.mem_cons] at q
   rcases q with q | q
   ·cases q
   ·exact ih _ _ _ q
  | map ty' K V =>
   simp only [embO,List.mem_cons] at q
   rcases q with q | q
   ·cases q
   ·exact ih _ _ _ q
theorem kinds_ok:∀ {os os':List SO},kinds os os'=true→os.length≤os'.length∧∀ (j:Nat),j < os.length→(os.map kS)[j]?=(os'.map kS)[j]?:=by
 intro os
 induction os with
 | nil=>intro os' _; exact ⟨by simp,fun j hj=>by simp at hj⟩
 | cons so os ih =>
  intro os' hk
  cases os' with
  | nil=>cases so <;> simp [kinds] at hk
  | cons so' os' =>
   have hk':kinds os os'=true∧kS so=kS so':=by cases so <;> cases so' <;> simp [kinds] at hk <;> first | exact ⟨hk,rfl⟩ | exact ⟨hk.2,rfl⟩
   obtain ⟨a,b⟩:=ih hk'.1
   refine ⟨by simp; exact a,fun j hj=>?_⟩
   cases j with
   | zero=>simp [hk'.2]
   | succ j=>simpa using b j (by simpa using hj)
theorem rowIds_ok {kp:List Nat}:∀ (foc:List Nat) (os:List SO) (k:Nat),foc.length=os.length→∀ (j id:Nat),foc[j]?=some id→(os.map kS)[j]?=some 0→id ∈ rowIds kp k foc os∨k + j ∈ kp:=by
 intro foc
 induction foc with
 | nil=>intro os k _ j id q; simp at q
 | cons f foc ih =>
  intro os k hl j id q kk
  cases os with
  | nil=>simp at hl
  | cons so os =>
   have hl':foc.length=os.length:=by simpa using hl
   cases j with
   | zero =>
    simp at q kk
    subst q
    cases so with
    | row =>
     simp only [rowIds]
     split
     ·rename_i hk
      obtain ⟨a,ha,e⟩:=List.any_eq_true.1 hk
      rw [← beq_eq e] at ha
      exact .inr ha
     ·exact .inl (by simp)
    | box=>cases kk
    | map=>cases kk
   | succ j =>
    have:=ih os (k + 1) hl' j id (by simpa using q) (by simpa using kk)
    rw [show k + 1 + j=k + (j + 1) by omega] at this
    rcases this with this | this
    ·left
     cases so with
     | row =>
      simp only [rowIds]
      split
      ·exact this
      ·exact List.mem_cons_of_mem _ this
     | box=>simp only [rowIds]; exact this
     | map=>simp only [rowIds]; exact this
    ·exact .inr this
theorem keepsOk_at {hi ho:List XO}:∀ {kp:List Nat},keepsOk kp hi ho=true→∀ j ∈ kp,∃ ty T fz fz' es es',hi[j]?=some (.row ty T fz es)∧ho[j]?=some (.row ty T fz' es')∧es.length=es'.length:=by
 intro kp
 induction kp with
 | nil=>intro _ j hj; cases hj
 | cons a kp ih =>
  intro h j hj
  simp only [keepsOk] at h
  split at h
  ·rename_i ty T fz es ty' T' fz' es' h1 h2
   rw [Bool.and_eq_true] at h
   obtain ⟨h3,h4⟩:=h
   rcases List.mem_cons.1 hj with rfl | hj
   ·split at h3
    ·rename_i hc
     simp only [Bool.and_eq_true] at hc
     have e1:=beq_eq hc.1
     have e2:=Ty.same_eq hc.2
     subst e1 e2
     exact ⟨_,_,_,_,_,_,h1,h2,beq_eq h3⟩
    ·cases h3
   ·exact ih h4 j hj
  ·cases h
theorem setFoc_ok (foc:List Nat) (base:Nat):∀ (l:List Nat) (h os:List XO),l.Nodup→(∀ id ∈ l,id < h.length)→l.length≤os.length →
  (setFoc foc base l h os).length=h.length + (os.length - l.length)∧(∀ (k id:Nat),l[k]?=some id→(setFoc foc base l h os)[id]?=(os[k]?).map (renO foc base))∧(∀ id,id < h.length→id ∉ l→(setFoc foc base l h os)[id]?=h[id]?)∧∀ k,l.length≤k→k < os.length→(setFoc foc base l h os)[h.length + (k - l.length)]?=(os[k]?).map (renO foc base):=by
 intro l
 induction l with
 | nil =>
  intro h os _ _ _
  refine ⟨by simp [setFoc],fun k id q=>by simp at q,fun id hid _=>?_,fun k _ hk=>?_⟩
  ·simp only [setFoc]; rw [List.getElem?_append_left hid]
  ·simp only [setFoc,List.length_nil,Nat.sub_zero]
   rw [List.getElem?_append_right (by omega),Nat.add_sub_cancel_left,List.getElem?_map]
 | cons f l ih =>
  intro h os hn hlt hle
  cases os with
  | nil=>simp at hle
  | cons o os =>
   rw [List.nodup_cons] at hn
   have hf:=hlt f (by simp)
   obtain ⟨a,b,c,d⟩:=ih (h.set f (renO foc base o)) os hn.2 (fun id hid=>by simp; exact hlt id (by simp [hid])) (by simpa using hle)
   refine ⟨by simp only [setFoc]; rw [a]; simp,fun k id q=>?_,fun id hid hn'=>?_,fun k hk hk'=>?_⟩
   ·cases k with
    | zero =>
     simp at q
     subst q
     simp only [setFoc]
     rw [c f (by simpa using hf) hn.1,List.getElem?_set_self hf]
     rfl
    | succ k =>
     simp only [setFoc]
     rw [b k id (by simpa using q)]
     simp
   ·simp only [setFoc]
    simp only [List.mem_cons,not_or] at hn'
    rw [c id (by simpa using hid) hn'.2,List.getElem?_set_ne (fun q=>hn'.1 q.symm)]
   ·cases k with
    | zero=>simp at hk
    | succ k =>
     simp only [setFoc]
     have:=d k (by simpa using hk) (by simpa using hk')
     rw [List.length_set] at this
     simp only [List.length_cons,Nat.add_sub_add_right,List.getElem?_cons_succ]
     exact this
end
section
variable {ρ:List Nat} {h:List XO} {H H':List AObj}
theorem getD_congr {a b:List Nat} {i k:Nat} (q:a[i]?=b[k]?):a.getD i 0=b.getD k 0:=by simp only [List.getD,q]
theorem embV_notup:∀ (vs:List (Nat × Ty)) (r:List Ty) (x:Ty.denL (varTys vs r)) (b:List XV),(∀ z ∈ b,∀ us,z ≠ .tup us)→∀ z ∈ (embV vs r x b).1,∀ us,z ≠ .tup us:=by
 intro vs
 induction vs with
 | nil=>intro r x b hb; exact hb
 | cons p vs ih =>
  intro r x b hb
  obtain ⟨s,T⟩:=p
  refine ih r x.2 _ fun z hz us q=>?_
  rcases List.mem_or_eq_of_mem_set hz with hz | hz
  ·exact hb z hz us q
  ·rw [hz] at q; cases q
theorem embRf_notup:∀ (refs:List (Nat × SR)) (r:List Ty) (x:Ty.denL (refTys refs r)) (b:List XV),(∀ z ∈ b,∀ us,z ≠ .tup us)→∀ z ∈ (embRf refs r x b).1,∀ us,z ≠ .tup us:=by
 intro refs
 induction refs with
 | nil=>intro r x b hb; exact hb
 | cons p refs ih =>
  intro r x b hb
  obtain ⟨s,sr⟩:=p
  have st:∀ c:XV,(∀ us,c ≠ .tup us)→∀ z ∈ b.set s c,∀ us,z ≠ .tup us:=fun c hc z hz us q=>by
   rcases List.mem_or_eq_of_mem_set hz with hz | hz
   ·exact hb z hz us q
   ·rw [hz] at q; exact hc us q
  cases sr with
  | row j=>exact ih r x _ (st _ fun us q=>by cases q)
  | ptr j i o=>exact ih r x _ (st _ fun us q=>by cases q)
  | nil=>exact ih r x _ (st _ fun us q=>by cases q)
  | mp j=>exact ih r x _ (st _ fun us q=>by cases q)
  | sub j o n=>exact ih r x _ (st _ fun us q=>by cases q)
  | cst k n=>exact ih r x _ (st _ fun us q=>by cases q)
  | agg cs=>exact ih r _ _ (st _ fun us q=>by cases q)
theorem emb_notup (sh:Sh) (x:Ty.denL sh.tys):∀ z ∈ (emb sh x).t,∀ us,z ≠ .tup us:=by
 refine embRf_notup _ _ _ _ (embV_notup _ _ _ _ fun z hz us q=>?_)
 have:=List.eq_of_mem_replicate hz
 rw [this] at q; cases q
theorem merge_ok {ish osh:Sh} {vs:List XV} {as rs:List AV} {foc ρ':List Nat} {x:Ty.denL ish.tys} {y:Ty.denL osh.tys} (hs:HS ρ h H) (hv:All2 (VT ρ h) vs as) (hn:vs.length=ish.n) {nf:Nat} (hx:ext nf ish ⟨vs,h⟩=some (foc,x)) (hk:kinds ish.objs osh.objs=true)
  {kp:List Nat} (hkp:keepsOk kp (emb ish x).h (emb osh y).h=true) (hS:Sim ρ' (emb osh y) ⟨rs,H'⟩) (hF:Frm H (foc.map fun id=>ρ.getD id 0) ρ' H') :
  ∃ ρc,Upd ρ h H ρc (setFoc foc h.length foc (killH (rowIds kp 0 foc ish.objs) h) (emb osh y).h) H' (rowIds kp 0 foc ish.objs) foc∧VT ρc (setFoc foc h.length foc (killH (rowIds kp 0 foc ish.objs) h) (emb osh y).h) (outX foc h.length (emb osh y).t) (oneT rs):=by
 obtain ⟨hS0,hlt,hfl,hnd⟩:=ext_sim (X:=⟨vs,h⟩) hv hs hn hx
 have hnv:∀ id ∈ foc,∀ ty cs,h[id]? ≠ some (.vec ty cs):=ext_novec hx
 obtain ⟨l,hl1,hl2⟩:=hF.pre
 have hlt:∀ id ∈ foc,id < h.length:=hlt
 obtain ⟨kl1,kl2⟩:=kinds_ok hk
 have ho2:(emb osh y).h.map kK=osh.objs.map kS:=embO_kind _ _
 have ho1:(emb ish x).h.map kK=ish.objs.map kS:=embO_kind _ _
 have hol:(emb osh y).h.length=osh.objs.length:=by have:=congrArg List.length ho2; simpa using this
 have hol1:(emb ish x).h.length=ish.objs.length:=by have:=congrArg List.length ho1; simpa using this
 have hkl:(killH (rowIds kp 0 foc ish.objs) h).length=h.length:=by rw [killH_map]; simp
 obtain ⟨s1,s2,s3,s4⟩:=setFoc_ok foc h.length foc (killH (rowIds kp 0 foc ish.objs) h) (emb osh y).h hnd (fun id hid=>by rw [hkl]; exact hlt id hid) (by rw [hol,hfl]; exact kl1)
 rw [hkl] at s1 s3 s4
 generalize hkeq:rowIds kp 0 foc ish.objs=kl at *
 generalize hceq:setFoc foc h.length foc (killH kl h) (emb osh y).h=hc at *
 have hρ':ρ'.length=(emb osh y).h.length:=hS.h.rl
 have hll:l.length=(emb osh y).h.length - foc.length:=by
  have:=congrArg List.length hl1; simp at this; omega
 have hfo:foc.length≤(emb osh y).h.length:=by rw [hol,hfl]; exact kl1
 have num:∀ j,j < (emb osh y).h.length→(ρ ++ l).getD (if Nat.blt j foc.length=true then foc.getD j 0 else h.length + (j - foc.length)) 0=ρ'.getD j 0∧hc[if Nat.blt j foc.length=true then foc.getD j 0 else h.length + (j - foc.length)]?=((emb osh y).h[j]?).map (renO foc h.length):=by
  intro j hj
  by_cases hjf:Nat.blt j foc.length=true
  ·have hj':=blt_t hjf
   rw [if_pos hjf]
   have hg:foc[j]?=some (foc.getD j 0):=by simp [List.getD,List.getElem?_eq_getElem hj']
   refine ⟨?_,s2 j _ hg⟩
   have hm:foc.getD j 0 ∈ foc:=List.mem_of_getElem? hg
   rw [getD_left (by rw [hs.rl]; exact hlt _ hm),hl1,getD_left (by simpa using hj')]
   simp [List.getD,List.getElem?_map,List.getElem?_eq_getElem hj']
  ·have hj':=blt_f hjf
   rw [if_neg hjf]
   refine ⟨?_,s4 j hj' hj⟩
   rw [hl1]
   have e1:(ρ ++ l)[h.length + (j - foc.length)]?=l[j - foc.length]?:=by rw [List.getElem?_append_right (by rw [hs.rl]; omega),hs.rl,Nat.add_sub_cancel_left]
   have e2:((foc.map fun id=>ρ.getD id 0) ++ l)[j]?=l[j - foc.length]?:=by rw [List.getElem?_append_right (by simpa using hj')]; simp
   exact getD_congr (e1.trans e2.symm)
 have val1:∀ (v:XV) (a:AV),V1 ρ' (emb osh y).h v a→V1 (ρ ++ l) hc (ren1 foc h.length v) a:=by
  intro v a hv
  cases v with
  | row j =>
   obtain ⟨ty,T,fz,es,he,rfl⟩:=hv
   obtain ⟨n1,n2⟩:=num j (List.getElem?_eq_some_iff.1 he).1
   exact ⟨ty,T,fz,es,by rw [n2,he]; rfl,by rw [n1]⟩
  | sub j off len=>trivial
  | csub j len=>trivial
  | vrow j=>trivial
  | mp j =>
   obtain ⟨ty,K,V,es,he,rfl⟩:=hv
   obtain ⟨n1,n2⟩:=num j (List.getElem?_eq_some_iff.1 he).1
   exact ⟨ty,K,V,es,by rw [n2,he]; rfl,by rw [n1]⟩
  | ptr j i o =>
   obtain ⟨ob,he,rfl⟩:=hv
   obtain ⟨n1,n2⟩:=num j (List.getElem?_eq_some_iff.1 he).1
   refine ⟨renO foc h.length ob,by rw [n2,he]; rfl,?_⟩
   rw [n1]
   cases ob <;> rfl
  | me j =>
   rcases hv with hv | ⟨ob,he,rfl⟩
   ·exact .inl hv
   ·obtain ⟨n1,n2⟩:=num j (List.getElem?_eq_some_iff.1 he).1
    refine .inr ⟨renO foc h.length ob,by rw [n2,he]; rfl,?_⟩
    rw [n1]
    cases ob <;> rfl
  | agg=>exact hv.elim
  | tup=>exact hv.elim
  | _=>exact hv
 have valA:∀ (v:XV) (a:AV),VA ρ' (emb osh y).h v a→VA (ρ ++ l) hc (renA foc h.length v) a:=by
  intro v a hv
  by_cases ha:∃ cs,v=.agg cs
  ·obtain ⟨cs,rfl⟩:=ha
   obtain ⟨us,rfl,hcs⟩:=hv
   refine ⟨us,rfl,by simp [hcs.1],fun i z b p q=>?_⟩
   rw [List.getElem?_map] at p
   cases hz:cs[i]? with
   | none=>rw [hz] at p; cases p
   | some w=>rw [hz] at p; cases p; exact val1 w b (hcs.2 i w b hz q)
  ·have e1:renA foc h.length v=ren1 foc h.length v:=by cases v <;> first | rfl | exact absurd ⟨_,rfl⟩ ha
   rw [e1]
   exact VA.of1 (val1 v a (by cases v <;> first | exact hv | exact absurd ⟨_,rfl⟩ ha))
 have nov:∀ (j:Nat) (ty:Nat) (cs:List XV),(emb osh y).h[j]? ≠ some (.vec ty cs):=fun j ty cs q=>embO_novec _ _ ty cs (List.mem_of_getElem? q)
 have obj1:∀ (j:Nat) (o:XO) (O:AObj),(emb osh y).h[j]?=some o→ObjS ρ' (emb osh y).h o O→ObjS (ρ ++ l) hc (renO foc h.length o) O:=by
  intro j o O hj hR
  cases o with
  | vec ty cs=>exact absurd hj (nov j ty cs)
  | row=>exact hR
  | map=>exact hR
  | box ty cs =>
   obtain ⟨a,b,c,d,e,he,hcs⟩:=hR
   refine ⟨a,by simpa using b,c,d,e,he,by simp [hcs.1],fun i z w p q=>?_⟩
   rw [List.getElem?_map] at p
   cases hz:cs[i]? with
   | none=>rw [hz] at p; cases p
   | some u=>rw [hz] at p; cases p; exact val1 u w (hcs.2 i u w hz q)
 have kind1:∀ (j id:Nat) (o:XO),foc[j]?=some id→h[id]?=some o→(ish.objs.map kS)[j]?=some (kK o):=ext_kind hx
 have tr:Trn ρ h (ρ ++ l) hc kl:=by
  refine Trn.mk (fun id o ho hn=>?_) (fun id hid=>getD_left (by rw [hs.rl]; exact hid))
  by_cases hf:id ∈ foc
  ·obtain ⟨j,hj⟩:=List.mem_iff_getElem?.1 hf
   have hjl:j < foc.length:=(List.getElem?_eq_some_iff.1 hj).1
   have hk1:=kind1 j id o hj ho
   have hjo:j < (emb osh y).h.length:=by omega
   have hk2:=kl2 j (by rw [← hfl]; exact hjl)
   rw [hk1,← ho2,List.getElem?_map,List.getElem?_eq_getElem hjo] at hk2
   have hk3:kK (emb osh y).h[j]=kK o:=by simpa using hk2.symm
   refine ⟨renO foc h.length (emb osh y).h[j],by rw [s2 j id hj,List.getElem?_eq_getElem hjo]; rfl,?_⟩
   by_cases hr:kK o=0
   ·rw [hr] at hk1
    rcases rowIds_ok (kp:=kp) foc ish.objs 0 hfl j id hj hk1 with q | q
    ·rw [hkeq] at q; exact absurd q hn
    ·rw [Nat.zero_add] at q
     obtain ⟨ty,T,fz,fz',es,es',e1,e2,e3⟩:=keepsOk_at hkp j q
     rw [List.getElem?_eq_getElem hjo] at e2
     have e2:=Option.some.inj e2
     rw [e2]
     have:=ext_row hx j id o hj ho e1
     rw [this]
     exact ⟨rfl,rfl,e3⟩
   ·generalize (emb osh y).h[j]=o2 at hk3 ⊢
    cases o with
    | row=>exact absurd rfl hr
    | vec ty cs=>exact absurd ho (hnv id hf ty cs)
    | box ty cs=>cases o2 <;> first | (cases hk3; done) | trivial
    | map ty K V es=>cases o2 <;> first | (cases hk3; done) | trivial
  ·refine ⟨killO1 kl o,?_,?_⟩
   ·rw [s3 id (List.getElem?_eq_some_iff.1 ho).1 hf,killH_map,List.getElem?_map,ho]; rfl
   ·cases o <;> simp [same2,killO1]
 refine ⟨ρ ++ l,⟨⟨?_,?_,fun id o ho=>?_⟩,tr,hF.ge,fun j hj hn=>?_,⟨l,rfl,hl2⟩,by rw [s1]; omega⟩,?_⟩
 ·rw [List.length_append,s1,hs.rl,hll]
 ·have hnd':=hS.h.nd
  rw [hl1,List.nodup_append] at hnd'
  rw [List.nodup_append]
  refine ⟨hs.nd,hnd'.2.1,fun a ha b hb=>?_⟩
  have:=hs.mem_lt ha
  have:=hl2 b hb
  omega
 ·by_cases hid:id < h.length
  ·by_cases hf:id ∈ foc
   ·obtain ⟨j,hj⟩:=List.mem_iff_getElem?.1 hf
    have hjl:j < foc.length:=(List.getElem?_eq_some_iff.1 hj).1
    have hjo:j < (emb osh y).h.length:=by omega
    rw [s2 j id hj,List.getElem?_eq_getElem hjo] at ho
    cases ho
    obtain ⟨O,hO,hR⟩:=hS.h.hr j _ (List.getElem?_eq_getElem hjo)
    refine ⟨O,?_,obj1 _ _ _ (List.getElem?_eq_getElem hjo) hR⟩
    rw [getD_left (by rw [hs.rl]; exact hid)]
    have:ρ'.getD j 0=ρ.getD id 0:=by rw [hl1,getD_left (by simpa using hjl)]; simp [List.getD,List.getElem?_map,hj]
    rw [this] at hO; exact hO
   ·rw [s3 id hid hf,killH_map,List.getElem?_map] at ho
    cases hx2:h[id]? with
    | none=>rw [hx2] at ho; cases ho
    | some ox =>
     rw [hx2] at ho; cases ho
     obtain ⟨O,hO,hR⟩:=hs.hr id ox hx2
     refine ⟨O,?_,tr.obj hR⟩
     rw [getD_left (by rw [hs.rl]; exact hid),hF.fr _ (hs.lt hid) (fun q=>?_)]
     ·exact hO
     ·obtain ⟨id',hid',e⟩:=List.mem_map.1 q
      exact hf (hs.inj (hlt id' hid') hid e ▸ hid')
  ·have hidl:=(List.getElem?_eq_some_iff.1 ho).1
   rw [s1] at hidl
   have hk':=s4 (id - h.length + foc.length) (by omega) (by omega)
   rw [Nat.add_sub_cancel,show h.length + (id - h.length)=id by omega,ho] at hk'
   have hjo:id - h.length + foc.length < (emb osh y).h.length:=by omega
   rw [List.getElem?_eq_getElem hjo] at hk'
   cases hk'
   obtain ⟨O,hO,hR⟩:=hS.h.hr _ _ (List.getElem?_eq_getElem hjo)
   refine ⟨O,?_,obj1 _ _ _ (List.getElem?_eq_getElem hjo) hR⟩
   have e1:(ρ ++ l)[id]?=l[id - h.length]?:=by rw [List.getElem?_append_right (by rw [hs.rl]; omega),hs.rl]
   have e2:ρ'[id - h.length + foc.length]?=l[id - h.length]?:=by rw [hl1,List.getElem?_append_right (by simp)]; simp
   have:(ρ ++ l).getD id 0=ρ'.getD (id - h.length + foc.length) 0:=getD_congr (e1.trans e2.symm)
   rw [this]; exact hO
 ·refine hF.fr j hj (fun q=>?_)
  obtain ⟨id,hid,e⟩:=List.mem_map.1 q
  exact hn id hid (hlt id hid) e
 ·have ht:=hS.t
  have hts:∀ (z:XV) (a:AV),VT ρ' (emb osh y).h z a→(∀ us,z ≠ .tup us)→VA (ρ ++ l) hc (renA foc h.length z) a:=fun z a q hz=>valA z a (q.notup hz)
  have hnt:∀ z ∈ (emb osh y).t,∀ us,z ≠ .tup us:=emb_notup osh y
  unfold outX oneT
  generalize (emb osh y).t=tl at ht hnt
  match tl,rs,ht,hnt with
  | [],rs,ht,_=>have:=ht.nil_left; subst this; exact ⟨[],rfl,.nil⟩
  | [v],rs,ht,hnt =>
   obtain ⟨a,r,rfl,hv,htt⟩:=ht.cons_left
   have:=htt.nil_left
   subst this
   exact VT.ofA (hts v a hv (hnt v (by simp)))
  | v :: w :: tl,rs,ht,hnt =>
   obtain ⟨a,r,rfl,hv,htt⟩:=ht.cons_left
   obtain ⟨b,r',rfl,hw,htt'⟩:=htt.cons_left
   refine ⟨_,rfl,by simpa using ht.1,fun i z c p q=>?_⟩
   rw [List.getElem?_map] at p
   cases hz:(v :: w :: tl)[i]? with
   | none=>rw [hz] at p; cases p
   | some u=>rw [hz] at p; cases p; exact hts u c (ht.2 i u c hz q) (hnt u (List.mem_of_getElem? hz))
end
structure CfgOk (P:Program) (c:Cfg):Prop where
 pis:∀ p ∈ c.pis,POk P (gx c.GX) p
 his:∀ p ∈ c.his,HOk P (gx c.GX) p
section
variable {P:Program} {c:Cfg} {ρ:List Nat} {h:List XO} {H:List AObj} {σ:St} {rd:Opd→XV} {tt:Nat→Option Ty} {Gl:Nat→Option (List AV)} {β:Type} {r:β}
theorem xstep_cls {i:I} {p:Bool} {v:XV} {kl:Option Nat} {h':List XO} (hc:i.cls≤1) (hx:xstep tt h rd i=some (p,v,kl,h')):kl=none∧h'=h:=by
 cases i <;> simp only [I.cls] at hc <;> first | omega | skip
 all_goals (simp only [xstep] at hx)
 all_goals (repeat' (split at hx))
 all_goals first | (cases hx; done) | (cases hx; exact ⟨rfl,rfl⟩)
theorem step_cls {i:I} (hc:i.cls≤1) {q:Prop} {a:AV} {H':List AObj} (hx:step Gl σ i=some (q,a,H')):H'=σ.h:=by
 by_cases h0:i.cls=0
 ·exact (step_free (τ:=σ) h0 (fun _ _=>rfl) hx).1
 ·cases i with
  | aaddr b st n x i =>
   simp only [step] at hx
   repeat' (split at hx)
   all_goals first
    | (cases hx; done)
    | (cases hx; rfl)
  | b2s x =>
   simp only [step] at hx
   split at hx
   ·rw [Option.map_eq_some_iff] at hx; obtain ⟨_,_,q⟩:=hx; cases q; rfl
   ·cases hx
  | aslice b n x lo hi =>
   simp only [step] at hx
   repeat' (split at hx)
   all_goals first
    | (cases hx; done)
    | (rw [Option.map_eq_some_iff] at hx; obtain ⟨_,_,q⟩:=hx; cases q; rfl)
  | load sz ag x =>
   simp only [step] at hx
   repeat' (split at hx)
   all_goals first
    | (cases hx; done)
    | (cases hx; rfl)
    | (rw [Option.map_eq_some_iff] at hx; obtain ⟨_,_,q⟩:=hx; cases q; rfl)
  | mget kt ok z x k =>
   simp only [step] at hx
   repeat' (split at hx)
   all_goals first
    | (cases hx; done)
    | (cases hx; rfl)
  | call f as=>cases hx
  | _=>first | exact absurd rfl h0 | (simp [I.cls] at hc; done)
theorem aExec_step {d:Bool} {dst:Option Nat} {K:St→Prop} {i:I} (hn:∀ f as,i ≠ .call f as):aExec P Gl d σ dst K i=match step Gl σ i with
  | some (p,a,h')=>p∧K (St.put ⟨σ.t,h'⟩ dst a)
  | none=>False:=by
 cases i <;> first | rfl | exact absurd rfl (hn _ _)
theorem ap_same {ρ':List Nat} {h':List XO} {H':List AObj} {kl tch:List Nat} (hu:Upd ρ h H ρ' h' H' kl tch) (hρ:ρ.length=h.length) (he:h'.length=h.length):ρ'=ρ:=by
 obtain ⟨n,e,_⟩:=hu.ap
 have:=hu.hs.rl
 rw [e,List.length_append] at this
 have hn:n=[]:=List.length_eq_zero_iff.1 (by omega)
 rw [e,hn,List.append_nil]
def Aft (ρ:List Nat) (h:List XO) (σ:St) (d:Bool) (ok:Nat→Bool) (rd:Opd→XV) (i:I) (K:XV→List Nat→List XO→Option β) (r:β) (a:AV) (H':List AObj):Prop :=
 ∃ ρ' v kl h' tch,Upd ρ h σ.h ρ' h' H' kl tch∧VT ρ' h' v a∧(leaves ok rd i=true→∀ id ∈ tch,ok id=true)∧(i.cls≤1→d=true→ρ'=ρ∧H'=σ.h∧kl=[]∧h'=h)∧K v kl h'=some r
theorem xcallP_ok (hs:HS ρ h H) {vs:List XV} {as:List AV} (hv:All2 (VT ρ h) vs as) {f:Nat} {d:Bool} {K:XV→List Nat→List XO→Option β} {o:Option β}:∀ (ps:List PI),(∀ p ∈ ps,POk P Gl p)→xcallP f d h vs K o ps=some r →
  (∃ bs res v h' tch,callable P f=true∧keepAL H as=some bs∧Pure P Gl f bs res∧(d=true→(if scalar res then H else freeze H (as.flatMap rowsA))=H)∧Upd ρ h H ρ h' (if scalar res then H else freeze H (as.flatMap rowsA)) [] tch∧(∀ id ∈ tch,id ∈ vs.flatMap rowsX)∧VT ρ h' v res∧(d=true→h'=h)∧K v [] h'=some r)∨o=some r:=by
 intro ps
 induction ps with
 | nil=>intro _ hx; exact .inr hx
 | cons p ps ih =>
  intro hp hx
  simp only [xcallP] at hx
  split at hx
  ·rename_i hf
   have hf:=beq_eq hf
   subst hf
   split at hx
   ·rename_i x ha
    obtain ⟨bs,k1,k2,k3,k4⟩:=argsD_ok hs _ _ _ _ ha hv
    have hpure:∀ y,p.run x=some y→Pure P Gl p.f bs (oneT (encs p.rs y)):=fun y hy =>
     ((hp p (by simp)).2 x y hy).weak k2.1 fun j a b q q'=>(k2.2 j a b q q').wk
    split at hx
    ·rename_i hsc
     cases hy:p.run x with
     | none=>rw [hy] at hx; cases hx
     | some y =>
      rw [hy] at hx
      have hsr:scalar (oneT (encs p.rs y))=true:=by rw [scal_res _ (scalL_noF hsc)]; exact hsc
      refine .inl ⟨bs,_,resX p.rs y,h,[],(hp p (by simp)).1,k1,hpure y hy,fun _=>by rw [hsr]; rfl,?_,(fun _ q=>by simp at q),resX_ok _ _,fun _=>rfl,hx⟩
      rw [hsr]; exact Upd.same hs
    ·rename_i hsc
     split at hx
     ·rename_i hd
      cases hy:p.run x with
      | none=>rw [hy] at hx; cases hx
      | some y =>
       rw [hy] at hx
       have frz_id:(vs.flatMap rowsX).all (isFz h)=true→freeze H (as.flatMap rowsA)=H∧frzX h (vs.flatMap rowsX)=h:=by
        intro hd
        rw [k3]
        refine ⟨?_,frzX_id _ _ hd⟩
        clear hx ih hpure
        have:∀ (ids:List Nat),(∀ id ∈ ids,isRow h id)→ids.all (isFz h)=true→freeze H (ids.map fun id=>ρ.getD id 0)=H:=by
         intro ids
         induction ids with
         | nil=>intro _ _; rfl
         | cons id ids ih =>
          intro hr ha
          simp only [List.all_cons,Bool.and_eq_true] at ha
          obtain ⟨ty,T,fz,es,he⟩:=hr id (by simp)
          have hfz:fz=true:=by have:=ha.1; simp only [isFz,he] at this; exact this
          obtain ⟨O,hO,o1,o2,o3,o4,o5⟩:=hs.hr id _ he
          rw [hfz,if_pos rfl] at o4
          have hlen:O.es.length=es.length:=by have:=o5.1; simpa using this
          have hst:H.set (ρ.getD id 0) { O with fz:=O.es.length }=H:=by
           have:({ O with fz:=O.es.length }:AObj)=O:=by rw [hlen,← o4]
           rw [this]
           apply List.ext_getElem?
           intro j
           rw [List.getElem?_set]
           split
           ·rename_i hj
            subst hj
            split
            ·rw [hO]
            ·rename_i hl; rw [List.getElem?_eq_none (by omega)]
           ·rfl
          have e:freeze H ((id :: ids).map fun id=>ρ.getD id 0)=freeze H (ids.map fun id=>ρ.getD id 0):=by
           simp only [List.map_cons,freeze,List.foldl_cons,hO]; rw [hst]
          rw [e]
          exact ih (fun j hj=>hr j (by simp [hj])) ha.2
        exact this _ k4 hd
       by_cases hall:(vs.flatMap rowsX).all (isFz h)=true
       ·obtain ⟨f1,f2⟩:=frz_id hall
        have hif:(if scalar (oneT (encs p.rs y))=true then H else freeze H (as.flatMap rowsA))=H:=by rw [f1]; split <;> rfl
        rw [f2] at hx
        exact .inl ⟨bs,_,resX p.rs y,h,[],(hp p (by simp)).1,k1,hpure y hy,fun _=>hif,by rw [hif]; exact Upd.same hs,(fun _ q=>by simp at q),resX_ok _ _,fun _=>rfl,hx⟩
       ·have hd':d=false∧hasFL p.rs=false:=by
         have:=Bool.not_eq_true _ ▸ hall
         rw [this] at hd
         simpa using hd
        have hsr:scalar (oneT (encs p.rs y))=false:=by rw [scal_res _ hd'.2]; simpa using hsc
        have hu:=Upd.frz _ hs k4
        rw [← k3] at hu
        refine .inl ⟨bs,_,resX p.rs y,_,_,(hp p (by simp)).1,k1,hpure y hy,fun q=>?_,by rw [hsr]; exact hu,(fun _ q=>q),resX_ok _ _,fun q=>?_,hx⟩
        ·rw [hd'.1] at q; cases q
        ·rw [hd'.1] at q; cases q
     ·cases hx
   ·exact ih (fun q hq=>hp q (by simp [hq])) hx
  ·exact ih (fun q hq=>hp q (by simp [hq])) hx
theorem xcallH_ok (hs:HS ρ h H) {vs:List XV} {as:List AV} (hv:All2 (VT ρ h) vs as) {f:Nat} {ok:Nat→Bool} {K:XV→List Nat→List XO→Option β}:∀ (ps:List HI),(∀ p ∈ ps,HOk P Gl p)→xcallH f ok h vs K ps=some r →
  callable P f=true∧PureH P Gl f H as fun res H'=>∃ ρ' v kl h' tch,Upd ρ h H ρ' h' H' kl tch∧(∀ id ∈ tch,ok id=true)∧VT ρ' h' v res∧K v kl h'=some r:=by
 intro ps
 induction ps with
 | nil=>intro _ hx; cases hx
 | cons p ps ih =>
  intro hp hx
  simp only [xcallH] at hx
  split at hx
  ·rename_i hb
   simp only [Bool.and_eq_true] at hb
   have hf:=beq_eq hb.1.1
   have hn:=beq_eq hb.1.2
   subst hf
   split at hx
   ·rename_i foc x he
    split at hx
    case isFalse=>cases hx
    rename_i hfo
    cases hy:p.run x with
    | none=>rw [hy] at hx; cases hx
    | some y =>
     rw [hy] at hx
     have hx:cond (keepsOk p.kp (emb p.ish x).h (emb p.osh y).h) (K _ _ _) none=some r:=hx
     cases hkp:keepsOk p.kp (emb p.ish x).h (emb p.osh y).h with
     | false=>rw [hkp] at hx; cases hx
     | true =>
     rw [hkp] at hx
     have hS:=(ext_sim (X:=⟨vs,h⟩) hv hs hn.symm he).1
     refine ⟨(hp p (by simp)).1,((hp p (by simp)).2 x y hy H _ as hS).mono ?_⟩
     rintro res H' ⟨ρ',rs,hS',rfl,hF⟩
     obtain ⟨ρc,hu,hvt⟩:=merge_ok hs hv hn.symm he hb.2 hkp hS' hF
     exact ⟨ρc,_,_,_,_,hu,fun id hid=>List.all_eq_true.1 hfo id hid,hvt,hx⟩
   ·exact ih (fun q hq=>hp q (by simp [hq])) hx
  ·exact ih (fun q hq=>hp q (by simp [hq])) hx
theorem xappc_ok (hs:HS ρ h σ.h) (hrd:∀ o,VT ρ h (rd o) (σ.val Gl o)) {tt:Nat→Option Ty} {d:Bool} {ok:Nat→Bool} {K:XV→List Nat→List XO→Option β} {ty sz bytes:Nat} {s x:Opd} {id len:Nat} (h1:rd s=.csub id len)
  (hx:(match tt ty,h[id]? with
   | some T,some (.row _ T' _ es)=>if Nat.beq T.size sz=true then match elemsX h T (rd x),castT (a:=.list T') (b:=.list T) es with
     | some ys,some es=>cond (someE ys) (cond (fits (len + List.length ys) bytes) (K (.row h.length) [] (h ++ [.row ty T false (List.take len es ++ ys)])) none) (K (.sub id 0 len) [] h)
     | _,_=>none
    else none
   | _,_=>none)=some r):∃ q a H',step Gl σ (.app ty sz bytes s x)=some (q,a,H')∧q∧Aft ρ h σ d ok rd (.app ty sz bytes s x) K r a H':=by
 have hv:=hrd s
 rw [h1] at hv
 split at hx
 case h_2=>cases hx
 rename_i T ty' T' fz es0 hT he
 split at hx
 case isFalse=>cases hx
 rename_i hz
 have hz:=beq_eq hz
 split at hx
 case h_2=>cases hx
 rename_i ys es hys hcast
 obtain ⟨q,rfl⟩:=castT_eq hcast
 cases q
 obtain ⟨ty2,T2,fz2,es2,he2,hav,hle⟩:=hv
 rw [he] at he2
 cases he2
 obtain ⟨as,ha,hc⟩:=elems_ok hs hz hys (hrd x)
 have hal:as.length=ys.length:=by rw [hc.1,List.length_map]
 obtain ⟨O,hO,o1,o2,o3,o4,o5⟩:=hs.hr id _ he
 have hlen:O.es.length=es0.length:=by have:=o5.1; simpa using this
 cases hy:ys with
 | nil =>
  rw [hy] at hx
  have has:as=[]:=List.length_eq_zero_iff.1 (by rw [hal,hy]; rfl)
  subst has
  refine ⟨True,.row (ρ.getD id 0) es0.length sz 0 len,σ.h,?_,trivial,ρ,.sub id 0 len,[],h,[],Upd.same hs,?_,fun _ _ q=>by simp at q,fun q=>?_,hx⟩
  ·simp only [step,appY,ha,hav,hO,hlen,hz,o2,o3,and_self,if_true,List.isEmpty_nil]
  ·exact VT.of1 ⟨ty',T,fz,es0,he,by rw [hz]⟩
  ·simp [I.cls] at q
 | cons y0 ys0 =>
  have hse:someE ys=true:=by rw [hy]; rfl
  rw [hse] at hx
  simp only [cond_true] at hx
  cases hf:fits (len + List.length ys) bytes with
  | false=>rw [hf] at hx; cases hx
  | true =>
   rw [hf] at hx
   simp only [cond_true] at hx
   have hf:=fits_iff hf
   have hne:as.isEmpty=false:=by
    cases as with
    | nil=>rw [hy] at hal; simp at hal
    | cons=>rfl
   have hcc:All2 Wp (O.es.take len ++ as) ((es0.take len ++ ys).map (Ty.enc T)):=by
    rw [List.map_append,List.map_take]; exact (o5.take len).append hc
   obtain ⟨u1,u2⟩:=new_row (ty:=ty) hs hz hcc
   have hl2:(O.es.take len ++ as).length=len + as.length:=by rw [List.length_append,List.length_take,hlen]; omega
   rw [hl2] at u2
   refine ⟨(len + as.length) * bytes≤maxB∧len + as.length≤4611686018427387904,.row σ.h.length (len + as.length) sz 0 (len + as.length),σ.h ++ [⟨ty,sz,0,true,O.es.take len ++ as⟩],?_,⟨by rw [hal]; exact hf.1,by rw [hal]; exact hf.2⟩,_,.row h.length,[],_,[],u1,VT.of1 u2,fun _ _ q=>by simp at q,fun q=>?_,hx⟩
   ·simp only [step,appY,ha,hav,hO,hlen,hz,o2,o3,and_self,if_true,hne,Bool.false_eq_true,if_false]
   ·simp [I.cls] at q
theorem xexec_ok (hc:CfgOk P c) (hs:HS ρ h σ.h) (hrd:∀ o,VT ρ h (rd o) (σ.val (gx c.GX) o)) {d:Bool} {ok:Nat→Bool} {K:XV→List Nat→List XO→Option β} {i:I} {dst:Option Nat} {Q:St→Prop} (hx:xexec c d ok h rd K i=some r) (hQ:∀ a H',Aft ρ h σ d ok rd i K r a H'→Q (St.put ⟨σ.t,H'⟩ dst a)):aExec P (gx c.GX) d σ dst Q i:=by
 by_cases hcall:∃ f as,i=.call f as
 ·obtain ⟨f,as,rfl⟩:=hcall
  simp only [xexec] at hx
  split at hx
  case h_2=>cases hx
  rename_i fi u hfo
  have hfv:σ.val (gx c.GX) f=.v (.func (.func fi) #[] #[]):=by
   have:=hrd f
   rw [hfo] at this
   exact vt_fnc this
  have hv:=map_vt (xs:=as) hrd
  rcases xcallP_ok hs hv c.pis hc.pis hx with ⟨bs,res,v,h',tch,k0,k1,k2,k3,k4,k4',k5,k6,k7⟩ | ho
  ·refine .inr ⟨fi,hfv,k0,.inl ⟨bs,res,k1,k2,k3,hQ _ _ ⟨ρ,v,[],h',tch,k4,k5,(fun hm id hid=>List.all_eq_true.1 hm id (k4' id hid)),fun _ hd=>⟨rfl,k3 hd,rfl,k6 hd⟩,k7⟩⟩⟩
  ·cases d with
   | true=>cases ho
   | false =>
    obtain ⟨k0,kH⟩:=xcallH_ok hs hv c.his hc.his ho
    refine .inr ⟨fi,hfv,k0,.inr ⟨rfl,kH.mono ?_⟩⟩
    rintro res H' ⟨ρ',v,kl,h',tch,u1,u1',u2,u3⟩
    exact hQ _ _ ⟨ρ',v,kl,h',tch,u1,u2,(fun _=>u1'),(fun _ hd=>by cases hd),u3⟩
 ·have hn:∀ f as,i ≠ .call f as:=fun f as q=>hcall ⟨f,as,q⟩
  rw [aExec_step hn]
  by_cases happ:∃ ty sz bytes s x id len,i=.app ty sz bytes s x∧rd s=.csub id len
  ·obtain ⟨ty,sz,bytes,s,x,id,len,rfl,h1⟩:=happ
   simp only [xexec,h1] at hx
   obtain ⟨q,a,H',e1,e2,e3⟩:=xappc_ok (d:=d) (ok:=ok) hs hrd h1 hx
   rw [e1]
   exact ⟨e2,hQ _ _ e3⟩
  have hx':(match xstep c.tt h rd i with
    | some (p,v,kl,h')=>cond p (K v kl.toList (killH kl.toList h')) none
    | none=>none)=some r:=by
   rw [← hx]
   cases i with
   | call f as=>exact absurd rfl (hn _ _)
   | app ty sz bytes s x =>
    simp only [xexec]
    cases h1:rd s with
    | csub id len=>exact absurd ⟨ty,sz,bytes,s,x,id,len,rfl,h1⟩ happ
    | _=>rfl
   | _=>rfl
  split at hx'
  ·rename_i p v kl h' hst
   cases p with
   | false=>cases hx'
   | true =>
    obtain ⟨q,a,H',ρ',tch,e1,e2,e3,e4,e5⟩:=xstep_sim i hs hrd _ _ _ _ hst rfl
    rw [e1]
    refine ⟨e2,hQ _ _ ⟨ρ',v,kl.toList,_,tch,e3,e4,e5 ok,fun hcl _=>?_,hx'⟩⟩
    obtain ⟨c1,c2⟩:=xstep_cls hcl hst
    subst c1 c2
    exact ⟨ap_same e3 hs.rl rfl,step_cls hcl e1,rfl,rfl⟩
  ·cases hx'
end
def SpR (ρ:List Nat) (h:List XO) (σ:St) (sp:Sp):Prop:=∀ q ∈ sp,(σ.t.getD q.2.1 .any=.v (.bool q.2.2.1)∧VT ρ h q.2.2.2 (σ.t.getD q.1 .any))∨(σ.t.getD q.2.1 .any ≠ .v (.bool q.2.2.1)∧σ.t.getD q.1 .any=und)
section
variable {P:Program} {c:Cfg} {ρ:List Nat} {X:XS} {H:List AObj} {σ:St} {β:Type} {r:β} {sp:Sp}
theorem vt_get {h:List XO} {t:List XV} {ts:List AV} (ht:All2 (VT ρ h) t ts) (i:Nat):VT ρ h (t.getD i .any) (ts.getD i .any):=by
 rcases Nat.lt_or_ge i ts.length with q | q
 ·exact ht.getD q _ _
 ·have:t[i]?=none:=List.getElem?_eq_none (by rw [ht.1]; exact q)
  simp only [List.getD,this,Option.getD_none]; trivial
theorem rdG_ok (hS:Sim ρ X σ) (o:Opd):VT ρ X.h (rdG c.GX X.t o) (σ.val (gx c.GX) o):=by
 cases o with
 | t i=>exact vt_get hS.t i
 | k v=>exact VT.of1 (vx1_v v)
 | g i =>
  simp only [rdG,St.val,gx]
  by_cases hb:Nat.blt i 1000000=true
  case neg=>rw [if_neg hb]; trivial
  rw [if_pos hb,if_pos hb]
  cases c.GX i with
  | none=>trivial
  | some p =>
   obtain ⟨T,x⟩:=p
   exact ⟨_,rfl,by rw [List.drop_zero]; exact All2.rfl' .refl _⟩
theorem rdC_ok (hS:Sim ρ X σ) (hsp:SpR ρ X.h σ sp) {ctx:List (Nat × Bool)} (hg:∀ g ∈ ctx,σ.t.getD g.1 .any=.v (.bool g.2)) (o:Opd):VT ρ X.h (rdC c.GX sp ctx X.t o) (σ.val (gx c.GX) o):=by
 cases o with
 | t i =>
  simp only [rdC]
  split
  ·rename_i q hq
   have hm:=List.mem_of_find?_eq_some hq
   have hp:=List.find?_some hq
   simp only [Bool.and_eq_true,List.any_eq_true] at hp
   obtain ⟨e1,g,hgm,hg2⟩:=hp
   have e1:=beq_eq e1
   simp only [Bool.and_eq_true,beq_iff_eq] at hg2
   have e2:=beq_eq hg2.1
   have hgg:=hg g hgm
   rw [e2,hg2.2] at hgg
   rcases hsp q hm with ⟨_,h2⟩ | ⟨h1,_⟩
   ·rw [e1] at h2; exact h2
   ·exact absurd hgg h1
  ·exact vt_get hS.t i
 | k v=>exact rdG_ok (c:=c) hS (.k v)
 | g i=>exact rdG_ok (c:=c) hS (.g i)
theorem all2_at {h:List XO} {t:List XV} {ts:List AV} (ht:All2 (VT ρ h) t ts) {u:Nat} {x:XV} (hx:VT ρ h x (ts.getD u .any)):All2 (VT ρ h) (t.set u x) ts:=by
 refine ⟨by simp [ht.1],fun i y a p q=>?_⟩
 rw [List.getElem?_set] at p
 split at p
 ·rename_i hi
  subst hi
  split at p
  ·cases p
   have:ts.getD u .any=a:=by simp only [List.getD,q,Option.getD_some]
   rw [this] at hx; exact hx
  ·cases p
 ·exact ht.2 i y a p q
theorem mat_ok {h:List XO} {s:Nat} {v:Bool} (hg:σ.t.getD s .any=.v (.bool v)):∀ (l:Sp) (t:List XV),All2 (VT ρ h) t σ.t→(∀ q ∈ l,(σ.t.getD q.2.1 .any=.v (.bool q.2.2.1)∧VT ρ h q.2.2.2 (σ.t.getD q.1 .any))∨(σ.t.getD q.2.1 .any ≠ .v (.bool q.2.2.1)∧σ.t.getD q.1 .any=und))→All2 (VT ρ h) (l.foldl (fun t q=>if Nat.beq q.2.1 s=true then t.set q.1 (if (q.2.2.1 == v)=true then q.2.2.2 else kU) else t) t) σ.t:=by
 intro l
 induction l with
 | nil=>intro t ht _; exact ht
 | cons q l ih =>
  intro t ht hl
  refine ih _ ?_ (fun q' hq'=>hl q' (by simp [hq']))
  dsimp only
  split
  ·rename_i hb
   have hb:=beq_eq hb
   rcases hl q (by simp) with ⟨h1,h2⟩ | ⟨h1,h2⟩
   ·rw [hb,hg] at h1
    cases h1
    rw [if_pos (by simp)]
    exact all2_at ht h2
   ·have hne:¬ (q.2.2.1 == v)=true:=fun e=>h1 (by rw [hb,hg]; simp only [beq_iff_eq] at e; rw [e])
    rw [if_neg hne]
    refine all2_at ht ?_
    rw [h2]; exact rfl
  ·exact ht
theorem same_set {t:List XV} {ts:List AV} {h:List XO} (ht:All2 (VT ρ h) t ts) {s:Nat} {b:Bool} (hb:ts.getD s .any=.v (.bool b)):All2 (VT ρ h) (t.set s (.d .bool b)) ts:=all2_at ht (by rw [hb]; exact Wp.refl _)
theorem matL_ok {s:Nat} {v:Bool} (hS:Sim ρ X σ) (hsp:SpR ρ X.h σ sp) (hg:σ.t.getD s .any=.v (.bool v)):Sim ρ ⟨matL s v sp X.t,X.h⟩ σ∧SpR ρ X.h σ (matS s sp) :=
 ⟨⟨mat_ok hg sp _ (same_set hS.t hg) hsp,hS.h⟩,fun q hq=>hsp q (List.mem_filter.1 hq).1⟩
theorem killS_map (kl:List Nat):∀ sp,killS kl sp=sp.map fun q=>(q.1,q.2.1,q.2.2.1,killTL kl q.2.2.2):=by
 induction kl with
 | nil=>intro sp; show sp=_; simp [killTL]
 | cons k kl ih =>
  intro sp
  show killS kl (sp.map _)=_
  rw [ih,List.map_map]; rfl
theorem vt_any {h:List XO} (a:AV):VT ρ h .any a:=trivial
theorem put_ok {ρ':List Nat} {h':List XO} {H':List AObj} {kl tch:List Nat} {t:List XV} (ht:All2 (VT ρ X.h) t σ.t) (hu:Upd ρ X.h H ρ' h' H' kl tch) {v:XV} {a:AV} (hv:VT ρ' h' v a) (dst:Option Nat):Sim ρ' ⟨putX (killL kl t) dst v,h'⟩ (St.put ⟨σ.t,H'⟩ dst a):=by
 have h1:All2 (VT ρ' h') (killL kl t) σ.t:=by
  rw [killL_map]
  exact ⟨by simp [ht.1],fun i y b p q=>by
   rw [List.getElem?_map] at p
   cases hy:t[i]? with
   | none=>rw [hy] at p; cases p
   | some z=>rw [hy] at p; cases p; exact hu.tr.T (ht.2 i z b hy q)⟩
 cases dst with
 | none=>exact ⟨h1,hu.hs⟩
 | some i=>exact ⟨h1.set hv i,hu.hs⟩
theorem getD_put {σ:St} {H':List AObj} {dst:Option Nat} {a:AV} {j:Nat} (hj:dst ≠ some j):(St.put ⟨σ.t,H'⟩ dst a).t.getD j .any=σ.t.getD j .any:=by
 cases dst with
 | none=>rfl
 | some i =>
  have:i ≠ j:=fun q=>hj (by rw [q])
  simp only [St.put,List.getD,List.getElem?_set_ne this]
theorem drop_ok {ρ':List Nat} {h':List XO} {H H':List AObj} {kl tch:List Nat} (hsp:SpR ρ X.h σ sp) (hu:Upd ρ X.h H ρ' h' H' kl tch) (dst:Option Nat) (a:AV):SpR ρ' h' (St.put ⟨σ.t,H'⟩ dst a) (spDrop dst (killS kl sp)):=by
 intro q hq
 have hne:dst ≠ some q.1∧dst ≠ some q.2.1∧q ∈ killS kl sp:=by
  cases dst with
  | none=>exact ⟨by simp,by simp,hq⟩
  | some i =>
   simp only [spDrop,List.mem_filter,Bool.and_eq_true,Bool.not_eq_true'] at hq
   refine ⟨fun e=>?_,fun e=>?_,hq.1⟩
   ·cases e; simp at hq
   ·cases e; simp at hq
 rw [getD_put hne.1,getD_put hne.2.1]
 have hm:=hne.2.2
 rw [killS_map] at hm
 obtain ⟨q0,hq0,rfl⟩:=List.mem_map.1 hm
 rcases hsp q0 hq0 with ⟨h1,h2⟩ | ⟨h1,h2⟩
 ·exact .inl ⟨h1,hu.tr.T h2⟩
 ·exact .inr ⟨h1,h2⟩
def AftI (c:Cfg) (ρ:List Nat) (X:XS) (σ:St) (d:Bool) (ok:Nat→Bool) (ins:Ins) (K:XS→Sp→Option β) (r:β) (τ:St):Prop :=
 ∃ ρ' X' sp',Sim ρ' X' τ∧SpR ρ' X'.h τ sp'∧(∃ kl tch,Upd ρ X.h σ.h ρ' X'.h τ.h kl tch∧(ins.gd=none→leaves ok (rdG c.GX X.t) ins.i=true→∀ id ∈ tch,ok id=true))∧K X' sp'=some r
theorem put_h {σ:St} {H':List AObj} {dst:Option Nat} {a:AV}:(St.put ⟨σ.t,H'⟩ dst a).h=H':=by cases dst <;> rfl
theorem specI_cls {i:I} (h:specI i=true):i.cls≤1∧∀ f as,i ≠ .call f as:=by
 cases i <;> simp [specI] at h <;> exact ⟨by simp [I.cls],fun f as q=>by cases q⟩
theorem mrg_ok {t:Bool} {x y v:XV} {a b:AV} {h:List XO} (hm:mrg t x y=some v) (ha:t=true→VT ρ h x a) (hb:t=false→VT ρ h y b):VT ρ h v (if t=true then a else b):=by
 unfold mrg at hm
 split at hm
 ·rename_i T x T' y
  split at hm
  ·rename_i y' hy
   cases hm
   obtain ⟨rfl,rfl⟩:=castT_eq hy
   cases t with
   | true=>exact ha rfl
   | false=>exact hb rfl
  ·cases hm
 ·cases hm
theorem pick_step {Gl:Nat→Option (List AV)} {σ:St} {s:Nat} {a b:Opd} {t:Bool} (ht:σ.t.getD s .any=.v (.bool t)):step Gl σ (.pick (.t s) a b)=some (True,if t=true then σ.val Gl a else σ.val Gl b,σ.h):=by
 have hts:σ.val Gl (.t s)=.v (.bool t):=ht
 simp only [step,hts]
def AftU (c:Cfg) (ρ:List Nat) (X:XS) (σ:St) (d:Bool) (ok:Nat→Bool) (i:I) (K:XS→Sp→Option β) (r:β) (τ:St):Prop :=
 ∃ ρ' X' sp',Sim ρ' X' τ∧SpR ρ' X'.h τ sp'∧(∃ kl tch,Upd ρ X.h σ.h ρ' X'.h τ.h kl tch∧(leaves ok (rdG c.GX X.t) i=true→∀ id ∈ tch,ok id=true)∧(i.cls≤1→d=true→ρ'=ρ∧X'.h=X.h∧τ.h=σ.h))∧K X' sp'=some r
theorem xun_ok (hc:CfgOk P c) (hS:Sim ρ X σ) (hsp:SpR ρ X.h σ sp) {d:Bool} {ok:Nat→Bool} {K:XS→Sp→Option β} {Q:St→Prop} {dst:Option Nat} {i:I} (hx:xun c d ok X sp dst K i=some r) (hQ:∀ τ,AftU c ρ X σ d ok i K r τ→Q τ):aExec P (gx c.GX) d σ dst Q i:=by
 by_cases hp:∃ s a b,i=.pick (.t s) a b
 ·obtain ⟨s,a,b,rfl⟩:=hp
  simp only [xun,xpick] at hx
  have hvs:=vt_get hS.t s
  have go:∀ t:Bool,σ.t.getD s .any=.v (.bool t)→(match (generalizing:=false) mrg t (rdC c.GX sp [(s,true)] X.t a) (rdC c.GX sp [(s,false)] X.t b) with
   | some v=>K ⟨putX X.t dst v,X.h⟩ (spDrop dst sp)
   | none=>cond t (K ⟨putX (matL s true sp X.t) dst (rdC c.GX sp [(s,true)] X.t a),X.h⟩ (spDrop dst (matS s sp))) (K ⟨putX (matL s false sp X.t) dst (rdC c.GX sp [(s,false)] X.t b),X.h⟩ (spDrop dst (matS s sp))))=some r→aExec P (gx c.GX) d σ dst Q (.pick (.t s) a b):=by
   intro t ht hy
   rw [aExec_step (by intro f as q; cases q),pick_step ht]
   refine ⟨trivial,hQ _ ?_⟩
   have hva:t=true→VT ρ X.h (rdC c.GX sp [(s,true)] X.t a) (σ.val (gx c.GX) a):=fun q=>rdC_ok hS hsp (by simp only [List.mem_singleton,forall_eq]; rw [ht,q]) a
   have hvb:t=false→VT ρ X.h (rdC c.GX sp [(s,false)] X.t b) (σ.val (gx c.GX) b):=fun q=>rdC_ok hS hsp (by simp only [List.mem_singleton,forall_eq]; rw [ht,q]) b
   have hu:=Upd.same hS.h
   have fin:∀ (t':List XV) (sp1:Sp) (v:XV),All2 (VT ρ X.h) t' σ.t→SpR ρ X.h σ sp1→VT ρ X.h v (if t=true then σ.val (gx c.GX) a else σ.val (gx c.GX) b)→K ⟨putX t' dst v,X.h⟩ (spDrop dst sp1)=some r→AftU c ρ X σ d ok (.pick (.t s) a b) K r (St.put ⟨σ.t,σ.h⟩ dst (if t=true then σ.val (gx c.GX) a else σ.val (gx c.GX) b)):=by
    intro t' sp1 v ht' hsp1 hv hK
    refine ⟨ρ,⟨putX t' dst v,X.h⟩,spDrop dst sp1,put_ok (X:=X) (kl:=[]) ht' hu hv dst,drop_ok (kl:=[]) hsp1 hu dst _,⟨[],[],by rw [put_h]; exact hu,(fun _ _ q=>by simp at q),fun _ _=>⟨rfl,rfl,put_h⟩⟩,hK⟩
   split at hy
   ·rename_i v hm
    exact fin X.t sp v hS.t hsp (mrg_ok hm hva hvb) hy
   ·cases t with
    | true=>obtain ⟨m1,m2⟩:=matL_ok hS hsp ht; exact fin _ _ _ m1.t m2 (hva rfl) hy
    | false=>obtain ⟨m1,m2⟩:=matL_ok hS hsp ht; exact fin _ _ _ m1.t m2 (hvb rfl) hy
  split at hx
  ·rename_i t hcb
   have hcb:X.t.getD s .any=.d .bool t:=hcb
   rw [hcb] at hvs
   exact go t (vt_bool hvs) hx
  ·cases hx
 ·have hx':xexec c d ok X.h (rdG c.GX X.t) (fun x kl h'=>K ⟨putX (killL kl X.t) dst x,h'⟩ (spDrop dst (killS kl sp))) i=some r:=by
   rw [← hx]
   unfold xun
   split
   ·exact absurd ⟨_,_,_,rfl⟩ hp
   ·rfl
  refine xexec_ok hc hS.h (rdG_ok hS) hx' ?_
  rintro a H' ⟨ρ',v,kl,h',tch,u1,u2,u3,u4,u5⟩
  exact hQ _ ⟨ρ',_,_,put_ok hS.t u1 u2 dst,drop_ok hsp u1 dst a,⟨kl,tch,by rw [put_h]; exact u1,u3,fun p q=>⟨(u4 p q).1,(u4 p q).2.2.2,by rw [put_h]; exact (u4 p q).2.1⟩⟩,u5⟩
theorem xspec_ok {tt:Nat→Option Ty} (hS:Sim ρ X σ) (hsp:SpR ρ X.h σ sp) {s:Nat} {want:Bool} (hg:σ.t.getD s .any=.v (.bool want)) {i:I} (hcl:i.cls≤1) {p:Bool} {v:XV} (hx:xspec c.GX tt X.h X.t sp s want i=some (p,v)) (hp:p=true):∃ q a,step (gx c.GX) σ i=some (q,a,σ.h)∧q∧VT ρ X.h v a:=by
  by_cases hpk:∃ s' a b,i=.pick (.t s') a b
  · obtain ⟨s',a,b,rfl⟩:=hpk
    simp only [xspec] at hx
    have hv1:=rdC_ok (c:=c) hS hsp (ctx:=[(s,want)]) (by simp only [List.mem_singleton,forall_eq]; exact hg) (.t s')
    have go:∀ t:Bool,σ.t.getD s' .any=.v (.bool t)→(match (generalizing:=false) mrg t (rdC c.GX sp [(s',true),(s,want)] X.t a) (rdC c.GX sp [(s',false),(s,want)] X.t b) with
      | some v=>some (true,v)
      | none=>none)=some (p,v)→∃ q a',step (gx c.GX) σ (.pick (.t s') a b)=some (q,a',σ.h)∧q∧VT ρ X.h v a':=by
      intro t ht hy
      split at hy
      · rename_i w hm
        cases hy
        refine ⟨_,_,pick_step ht,trivial,?_⟩
        refine mrg_ok hm (fun q=>?_) (fun q=>?_)
        · exact rdC_ok hS hsp (by simp only [List.mem_cons,List.not_mem_nil,or_false,forall_eq_or_imp,forall_eq]; exact ⟨by rw [ht,q],hg⟩) a
        · exact rdC_ok hS hsp (by simp only [List.mem_cons,List.not_mem_nil,or_false,forall_eq_or_imp,forall_eq]; exact ⟨by rw [ht,q],hg⟩) b
      · cases hy
    split at hx
    · rename_i t hcb
      rw [hcb] at hv1
      exact go t (vt_bool hv1) hx
    · cases hx
  · have hx' : (match xstep tt X.h (rdC c.GX sp [(s, want)] X.t) i with
        | some (p,v,_,_)=>some (p,v)
        | none=>none)=some (p,v):=by
      rw [← hx]
      cases i with
      | pick c' a b=>cases c' with
        | t s'=>exact absurd ⟨_,_,_,rfl⟩ hpk
        | _=>rfl
      | _=>rfl
    split at hx'
    · rename_i p1 v1 q1 q2 hst
      cases hx'
      obtain ⟨q,a,H',ρ2,tch,e1,e2,e3,e4,e5⟩:=xstep_sim i hS.h (fun o=>rdC_ok hS hsp (by simp only [List.mem_singleton,forall_eq]; exact hg) o) _ _ _ _ hst hp
      obtain ⟨c1,c2⟩:=xstep_cls hcl hst
      subst c1 c2
      have hρ:=ap_same e3 hS.h.rl rfl
      have hH:=step_cls hcl e1
      subst hρ
      rw [hH] at e1
      exact ⟨q,a,e1,e2,e4⟩
    · cases hx'
theorem spec_new {u s:Nat} {want b:Bool} {v:XV} {a:AV} (hsp:SpR ρ X.h σ sp) (hs:HS ρ X.h σ.h) (hul:u < σ.t.length) (hus:u ≠ s) (hg:σ.t.getD s .any=.v (.bool b)) (hv:(b=want∧VT ρ X.h v a)∨(b ≠ want∧a=und)):SpR ρ X.h (St.put ⟨σ.t,σ.h⟩ (some u) a) ((u,s,want,v) :: spDrop (some u) sp):=by
 intro q hq
 rcases List.mem_cons.1 hq with rfl | hq
 ·have h1:(St.put ⟨σ.t,σ.h⟩ (some u) a).t.getD u .any=a:=by simp [St.put,List.getD,hul]
  have h2:(St.put ⟨σ.t,σ.h⟩ (some u) a).t.getD s .any=.v (.bool b):=by rw [getD_put (by simpa using hus)]; exact hg
  show ((St.put ⟨σ.t,σ.h⟩ (some u) a).t.getD s .any=.v (.bool want)∧VT ρ X.h v ((St.put ⟨σ.t,σ.h⟩ (some u) a).t.getD u .any))∨((St.put ⟨σ.t,σ.h⟩ (some u) a).t.getD s .any ≠ .v (.bool want)∧(St.put ⟨σ.t,σ.h⟩ (some u) a).t.getD u .any=und)
  rw [h1,h2]
  rcases hv with ⟨rfl,hv⟩ | ⟨hb,rfl⟩
  ·exact .inl ⟨rfl,hv⟩
  ·exact .inr ⟨fun q=>by cases q; exact hb rfl,rfl⟩
 ·exact drop_ok (kl:=[]) hsp (Upd.same hs) (some u) a q hq
theorem xIns_ok (hc:CfgOk P c) {d:Bool} {ok:Nat→Bool} {K:XS→Sp→Option β} {ins:Ins}:∀ (n:Nat) (X:XS) (sp:Sp) (Q:St→Prop),Sim ρ X σ→SpR ρ X.h σ sp→xIns c d ok n X sp K ins=some r→(∀ τ,AftI c ρ X σ d ok ins K r τ→Q τ)→aStep P (gx c.GX) d σ ins Q:=by
 intro n
 induction n with
 | zero=>intro X sp Q _ _ hx; cases hx
 | succ n ih =>
  intro X sp Q hS hsp hx hQ
  obtain ⟨dst,gd,i⟩:=ins
  cases gd with
  | none =>
   show aExec P (gx c.GX) d σ dst Q i
   simp only [xIns] at hx
   refine xun_ok hc hS hsp hx fun τ hτ=>hQ τ ?_
   obtain ⟨ρ',X',sp',a1,a2,⟨kl,tch,a3,a4,_⟩,a5⟩:=hτ
   exact ⟨ρ',X',sp',a1,a2,⟨kl,tch,a3,fun _=>a4⟩,a5⟩
  | some g =>
   obtain ⟨s,want⟩:=g
   simp only [xIns] at hx
   have hvs:=vt_get hS.t s
   have hu:=Upd.same hS.h
   have skip:∀ (X1:XS) (sp1:Sp),X1.h=X.h→Sim ρ X1 σ→SpR ρ X1.h σ sp1→K ⟨putX X1.t dst kU,X1.h⟩ (spDrop dst sp1)=some r→Q (σ.put dst und):=by
    intro X1 sp1 he hS1 hsp1 hK
    have hu1:=Upd.same hS1.h
    refine hQ _ ⟨ρ,⟨putX X1.t dst kU,X1.h⟩,spDrop dst sp1,put_ok (X:=X1) (kl:=[]) hS1.t hu1 (show VT ρ X1.h kU und from rfl) dst,drop_ok (kl:=[]) hsp1 hu1 dst und,⟨[],[],?_,fun q=>by cases q⟩,hK⟩
    have:(σ.put dst und).h=σ.h:=put_h (H':=σ.h)
    rw [this]
    show Upd ρ X.h σ.h ρ X1.h σ.h [] []
    rw [he]; exact hu
   have gcase:∀ b:Bool,σ.t.getD s .any=.v (.bool b)→(match (generalizing:=false) specI i,dst,xspec c.GX c.tt X.h X.t sp s want i with
     | true,some u,some (p,v)=>if (Nat.blt u X.t.length && !(Nat.beq u s))=true then cond (p || not (bEq b want)) (K ⟨X.t.set u .any,X.h⟩ ((u,s,want,v) :: spDrop (some u) sp)) none else none
     | _,_,_=>cond b (xsplit c d ok X sp dst s want i K true) (xsplit c d ok X sp dst s want i K false))=some r→aStep P (gx c.GX) d σ ⟨dst,some (s,want),i⟩ Q:=by
    clear hx
    intro b hg hx
    have hstep:aStep P (gx c.GX) d σ ⟨dst,some (s,want),i⟩ Q=if b=want then aExec P (gx c.GX) d σ dst Q i else Q (σ.put dst und):=by
     simp only [aStep,hg]
    rw [hstep]
    have split_ok:xsplit c d ok X sp dst s want i K b=some r→if b=want then aExec P (gx c.GX) d σ dst Q i else Q (σ.put dst und):=by
     intro hy
     obtain ⟨m1,m2⟩:=matL_ok hS hsp hg
     unfold xsplit at hy
     by_cases hw:b=want
     ·rw [if_pos hw]
      rw [if_pos (by rw [hw]; simp)] at hy
      refine xun_ok hc m1 m2 hy fun τ hτ=>hQ τ ?_
      obtain ⟨ρ',X',sp',a1,a2,⟨kl,tch,a3,a4,_⟩,a5⟩:=hτ
      exact ⟨ρ',X',sp',a1,a2,⟨kl,tch,a3,fun q=>by cases q⟩,a5⟩
     ·rw [if_neg hw]
      rw [if_neg (by simpa using hw)] at hy
      exact skip ⟨matL s b sp X.t,X.h⟩ _ rfl m1 m2 hy
    split at hx
    ·rename_i u p v hsi hxs
     split at hx
     case isFalse=>cases hx
     rename_i hub
     simp only [Bool.and_eq_true,Bool.not_eq_true'] at hub
     have hul:=blt_t hub.1
     have hus:u ≠ s:=fun q=>by subst q; simp at hub
     have hul':u < σ.t.length:=by rw [← hS.t.1]; exact hul
     obtain ⟨hcl,hncall⟩:=specI_cls hsi
     cases hpb:(p || not (bEq b want)) with
     | false=>rw [hpb] at hx; cases hx
     | true =>
      rw [hpb] at hx
      have hx:K ⟨X.t.set u .any,X.h⟩ ((u,s,want,v) :: spDrop (some u) sp)=some r:=hx
      by_cases hw:b=want
      ·rw [if_pos hw]
       have hp:p=true:=by
        subst hw
        simpa [bEq] using hpb
       obtain ⟨q,a,e1,e2,e4⟩:=xspec_ok hS hsp (by rw [hg,hw]) hcl hxs hp
       rw [aExec_step hncall,e1]
       exact ⟨e2,hQ _ ⟨ρ,_,_,put_ok (X:=X) (kl:=[]) hS.t hu (vt_any _) (some u),spec_new hsp hS.h hul' hus hg (.inl ⟨hw,e4⟩),⟨[],[],hu,fun q=>by cases q⟩,hx⟩⟩
      ·rw [if_neg hw]
       exact hQ _ ⟨ρ,_,_,put_ok (X:=X) (kl:=[]) hS.t hu (vt_any _) (some u),spec_new hsp hS.h hul' hus hg (.inr ⟨hw,rfl⟩),⟨[],[],hu,fun q=>by cases q⟩,hx⟩
    ·cases b with
     | true=>exact split_ok hx
     | false=>exact split_ok hx
   split at hx
   ·rename_i b hb
    rw [hb] at hvs
    exact gcase b (vt_bool hvs) hx
   ·rename_i xs hb
    rw [hb] at hvs
    have hg:=vt_k hvs
    have hstep:aStep P (gx c.GX) d σ ⟨dst,some (s,want),i⟩ Q=Q (σ.put dst und):=by simp only [aStep,hg]
    rw [hstep]
    exact skip X sp rfl hS hsp hx
   ·split at hx
    ·rename_i q hq
     have hvq:=vt_get hS.t q.2.1
     have go:∀ b:Bool,σ.t.getD q.2.1 .any=.v (.bool b)→cond b (xIns c d ok n ⟨matL q.2.1 true sp X.t,X.h⟩ (matS q.2.1 sp) K ⟨dst,some (s,want),i⟩) (xIns c d ok n ⟨matL q.2.1 false sp X.t,X.h⟩ (matS q.2.1 sp) K ⟨dst,some (s,want),i⟩)=some r→aStep P (gx c.GX) d σ ⟨dst,some (s,want),i⟩ Q:=by
      intro b hb hy
      obtain ⟨m1,m2⟩:=matL_ok hS hsp hb
      have hy':xIns c d ok n ⟨matL q.2.1 b sp X.t,X.h⟩ (matS q.2.1 sp) K ⟨dst,some (s,want),i⟩=some r:=by cases b <;> exact hy
      refine ih _ _ Q m1 m2 hy' fun τ hτ=>hQ τ ?_
      obtain ⟨ρ',X',sp',a1,a2,⟨kl,tch,a3,a4⟩,a5⟩:=hτ
      exact ⟨ρ',X',sp',a1,a2,⟨kl,tch,a3,fun q=>by cases q⟩,a5⟩
     split at hx
     ·rename_i b hb
      rw [hb] at hvq
      exact go b (vt_bool hvq) hx
     ·cases hx
    ·cases hx
   ·cases hx
theorem xops_ok (hc:CfgOk P c) {d:Bool} {K:XS→Option β} {H0:List AObj} {ρ0:List Nat}:∀ (l:List Ins) (X:XS) (sp:Sp) (ρ:List Nat) (σ:St),Sim ρ X σ→SpR ρ X.h σ sp→Frm H0 ρ0 ρ σ.h→xops c d K l X sp=some r→aOps P (gx c.GX) d (fun τ=>∃ ρ' X',Sim ρ' X' τ∧Frm H0 ρ0 ρ' τ.h∧K X'=some r) l σ:=by
 intro l
 induction l with
 | nil=>intro X sp ρ σ hS _ hF hx; exact ⟨ρ,X,hS,hF,hx⟩
 | cons i l ih =>
  intro X sp ρ σ hS hsp hF hx
  refine xIns_ok hc 8 X sp _ hS hsp hx ?_
  rintro τ ⟨ρ',X',sp',s1,s2,⟨kl,tch,u,_⟩,hK⟩
  exact ih X' sp' ρ' τ s1 s2 (hF.upd hS.h.rl u) hK
end
section
variable {P:Program} {c:Cfg} {ρ:List Nat} {X:XS} {h:List XO} {H:List AObj} {σ:St} {β:Type} {r:β} {sp:Sp} {m N:Nat} {U:List Nat} {Gl:Nat→Option (List AV)} {rd:Opd→XV}
theorem rows_1 {v:XV} {a:AV} (hv:V1 ρ h v a) (hp:plain1 v=true):rows1 a=(rowsX1 v).map fun id=>ρ.getD id 0:=by
 cases v with
 | d T x =>
  have hw:Wp a (Ty.enc T x):=hv
  have:=(wp_keep hw []).2
  cases a with
  | agg cs=>rfl
  | _=>exact this
 | k y=>have:a=.v y:=hv; subst this; rfl
 | row id=>obtain ⟨ty,T,fz,es,he,rfl⟩:=hv; rfl
 | sub id o l=>obtain ⟨ty,T,fz,es,he,rfl⟩:=hv; rfl
 | _=>cases hp
theorem rows_A {v:XV} {a:AV} (hv:VT ρ h v a) (hp:plainX v=true):rowsA a=(rowsX v).map fun id=>ρ.getD id 0:=by
 cases v with
 | agg cs =>
  obtain ⟨as,rfl,hl⟩:=hv
  show as.flatMap rows1=(cs.flatMap rowsX1).map _
  have hp':cs.all plain1=true:=hp
  clear hp
  induction cs generalizing as with
  | nil=>rw [hl.nil_left]; rfl
  | cons c cs ih =>
   obtain ⟨a,as',rfl,h1,h2⟩:=hl.cons_left
   simp only [List.all_cons,Bool.and_eq_true] at hp'
   rw [List.flatMap_cons,List.flatMap_cons,List.map_append,rows_1 h1 hp'.1,ih as' h2 hp'.2]
 | d T x=>exact (wp_keep (show Wp a (Ty.enc T x) from hv) []).2
 | k y=>have:a=.v y:=hv; subst this; rfl
 | row id=>obtain ⟨ty,T,fz,es,he,rfl⟩:=hv; rfl
 | sub id o l=>obtain ⟨ty,T,fz,es,he,rfl⟩:=hv; rfl
 | _=>cases hp
theorem rows_L:∀ {vs:List XV} {as:List AV},All2 (VT ρ h) vs as→vs.all plainX=true→as.flatMap rowsA=(vs.flatMap rowsX).map fun id=>ρ.getD id 0:=by
 intro vs
 induction vs with
 | nil=>intro as hl _; rw [hl.nil_left]; rfl
 | cons v vs ih =>
  intro as hl hp
  obtain ⟨a,as',rfl,h1,h2⟩:=hl.cons_left
  simp only [List.all_cons,Bool.and_eq_true] at hp
  rw [List.flatMap_cons,List.flatMap_cons,List.map_append,rows_A h1 hp.1,ih h2 hp.2]
theorem idsX_ok {ok:Nat→Bool} (hrd:∀ o,VT ρ h (rd o) (σ.val Gl o)) {i:I} (hx:idsX ok rd i=true):∀ id ∈ i.ids Gl σ,∃ j,id=ρ.getD j 0∧ok j=true∧j < h.length:=by
 have one:∀ x:Opd,(match rd x with | .ptr id _ _=>ok id | .lp _ _ _=>true | _=>false)=true→∀ id ∈ (match σ.val Gl x with | .ptr id _ _ _=>[id] | _=>[]),∃ j,id=ρ.getD j 0∧ok j=true∧j < h.length:=by
  intro x hb id hid
  have hv:=hrd x
  split at hb
  ·rename_i j i o hj
   rw [hj] at hv
   obtain ⟨ob,he,ha⟩:=hv
   rw [ha] at hid
   simp only [List.mem_singleton] at hid
   exact ⟨j,hid,hb,(List.getElem?_eq_some_iff.1 he).1⟩
  ·rename_i T y o hj
   rw [hj] at hv
   obtain ⟨cs,ha,_⟩:=hv
   rw [ha] at hid
   cases hid
  ·cases hb
 have two:∀ x:Opd,(match rd x with | .ptr id _ _=>ok id | _=>false)=true→(match rd x with | .ptr id _ _=>ok id | .lp _ _ _=>true | _=>false)=true:=by
  intro x hb
  split at hb
  ·rename_i h1; rw [h1]; exact hb
  ·cases hb
 cases i with
 | load sz ag x=>exact one x hx
 | aaddr b st n x k=>exact one x hx
 | b2s x =>
  intro id hid
  have hv:=hrd x
  simp only [idsX] at hx
  simp only [I.ids] at hid
  split at hx
  ·rename_i j hj
   rw [hj] at hv
   obtain ⟨ty,T,fz,es,he,ha⟩:=hv
   rw [ha] at hid
   simp only [List.mem_singleton] at hid
   exact ⟨j,hid,hx,(List.getElem?_eq_some_iff.1 he).1⟩
  ·rename_i j o l hj
   rw [hj] at hv
   obtain ⟨ty,T,fz,es,he,ha⟩:=hv
   rw [ha] at hid
   simp only [List.mem_singleton] at hid
   exact ⟨j,hid,hx,(List.getElem?_eq_some_iff.1 he).1⟩
  ·rename_i T y hj
   rw [hj] at hv
   have hw:Wp (σ.val Gl x) (Ty.enc T y):=hv
   split at hid
   ·rename_i q
    rw [q] at hw
    exfalso
    cases T <;> first | (cases hw; done) | (cases y <;> cases hw)
   ·cases hid
  ·rename_i v hj
   rw [hj] at hv
   rw [show σ.val Gl x=.v v from hv] at hid
   cases hid
  ·cases hx
 | aslice b n x lo hi=>exact one x (two x hx)
 | mget kt k z x y =>
  intro id hid
  have hv:=hrd x
  simp only [idsX] at hx
  simp only [I.ids] at hid
  split at hx
  ·rename_i j hj
   rw [hj] at hv
   obtain ⟨ty,K,V,es,he,ha⟩:=hv
   rw [ha] at hid
   simp only [List.mem_singleton] at hid
   exact ⟨j,hid,hx,(List.getElem?_eq_some_iff.1 he).1⟩
  ·cases hx
 | call fo args =>
  simp only [idsX,Bool.and_eq_true] at hx
  intro id hid
  simp only [I.ids] at hid
  rw [rows_L (map_vt (xs:=args) hrd) hx.1] at hid
  obtain ⟨j,hj,rfl⟩:=List.mem_map.1 hid
  refine ⟨j,rfl,List.all_eq_true.1 hx.2 j hj,?_⟩
  obtain ⟨v,hv,hjv⟩:=List.mem_flatMap.1 hj
  obtain ⟨o,ho,rfl⟩:=List.mem_map.1 hv
  have hV:=hrd o
  have lt1:∀ {v:XV} {a:AV},V1 ρ h v a→∀ j ∈ rowsX1 v,j < h.length:=by
   intro v a hv j hj
   cases v with
   | row id=>obtain ⟨ty,T,fz,es,he,_⟩:=hv; simp only [rowsX1,List.mem_singleton] at hj; subst hj; exact (List.getElem?_eq_some_iff.1 he).1
   | sub id o l=>obtain ⟨ty,T,fz,es,he,_⟩:=hv; simp only [rowsX1,List.mem_singleton] at hj; subst hj; exact (List.getElem?_eq_some_iff.1 he).1
   | _=>cases hj
  generalize rd o=v at hV hjv
  cases v with
  | agg cs =>
   obtain ⟨as,_,hl⟩:=hV
   obtain ⟨c',hc',hj'⟩:=List.mem_flatMap.1 hjv
   obtain ⟨k,hk⟩:=List.getElem?_of_mem hc'
   obtain ⟨b,_,hb⟩:=hl.get_left hk
   exact lt1 hb j hj'
  | row id=>exact lt1 (show V1 ρ h (.row id) _ from hV) j hjv
  | sub id o l=>exact lt1 (show V1 ρ h (.sub id o l) _ from hV) j hjv
  | _=>cases hjv
 | _=>intro id hid; cases hid
theorem ok_low {j:Nat} (h:(Nat.blt j m && !(U.any (Nat.beq j)))=true):j < m∧j ∉ U:=by
 simp only [Bool.and_eq_true,Bool.not_eq_true'] at h
 refine ⟨blt_t h.1,fun q=>?_⟩
 have:U.any (Nat.beq j)=true:=List.any_eq_true.2 ⟨j,q,Nat.beq_refl j⟩
 rw [this] at h; cases h.2
theorem ok_up {j:Nat} (h:(Nat.ble m j || U.any (Nat.beq j))=true):m≤j∨j ∈ U:=by
 simp only [Bool.or_eq_true,List.any_eq_true] at h
 rcases h with q | ⟨x,hx,q⟩
 ·exact .inl (Nat.le_of_ble_eq_true q)
 ·have:=beq_eq q; subst this; exact .inr hx
theorem getD_inj (hnd:ρ.Nodup) {i j:Nat} (hi:i < ρ.length) (hj:j < ρ.length) (h:ρ.getD i 0=ρ.getD j 0):i=j:=by
 simp only [List.getD,List.getElem?_eq_getElem hi,List.getElem?_eq_getElem hj,Option.getD_some] at h
 exact (List.getElem_inj hnd).1 h
theorem xrd_ok (hc:CfgOk P c) {ok:Nat→Bool} (hS:Sim ρ X σ) (hsp:SpR ρ X.h σ sp) {K:XS→Sp→Option β} {ins:Ins} {Q:St→Prop} (hcl:ins.i.cls≤1) (hx:xrd c ok X sp K ins=some r)
  (hQ:∀ (X':XS) (sp':Sp) (τ:St),Sim ρ X' τ→SpR ρ X'.h τ sp'→X'.h=X.h→τ.h=σ.h→K X' sp'=some r→Q τ):(wants σ ins→∀ id ∈ ins.i.ids (gx c.GX) σ,∃ j,id=ρ.getD j 0∧ok j=true∧j < X.h.length)∧aStep P (gx c.GX) true σ ins Q:=by
 have hu:=Upd.same hS.h
 obtain ⟨dst,gd,i⟩:=ins
 cases gd with
 | none =>
  simp only [xrd] at hx
  split at hx
  case isFalse=>cases hx
  rename_i hid
  refine ⟨fun _=>idsX_ok (rdG_ok hS) hid,?_⟩
  show aExec P (gx c.GX) true σ dst Q i
  refine xun_ok hc hS hsp hx fun τ hτ=>?_
  obtain ⟨ρ',X',sp',a1,a2,⟨kl,tch,a3,_,a4⟩,a5⟩:=hτ
  obtain ⟨rfl,e1,e2⟩:=a4 hcl rfl
  exact hQ X' sp' τ a1 a2 e1 e2 a5
 | some g =>
  obtain ⟨s,want⟩:=g
  simp only [xrd] at hx
  have hvs:=vt_get hS.t s
  split at hx
  case h_2=>cases hx
  rename_i b hb
  change Bool at b
  rw [hb] at hvs
  have hg:=vt_bool hvs
  split at hx
  case h_2=>cases hx
  rename_i u p v hsi hxs
  split at hx
  case isFalse=>cases hx
  rename_i hub
  simp only [Bool.and_eq_true,Bool.not_eq_true'] at hub
  obtain ⟨⟨hu1,hu2⟩,hid⟩:=hub
  have hul:=blt_t hu1
  have hus:u ≠ s:=fun q=>by subst q; simp at hu2
  have hul':u < σ.t.length:=by rw [← hS.t.1]; exact hul
  refine ⟨fun hw=>idsX_ok (fun o=>rdC_ok hS hsp (by simp only [List.mem_singleton,forall_eq]; exact hw) o) hid,?_⟩
  have hstep:aStep P (gx c.GX) true σ ⟨some u,some (s,want),i⟩ Q=if b=want then aExec P (gx c.GX) true σ (some u) Q i else Q (St.put σ (some u) und):=by
   simp only [aStep,hg]
  rw [hstep]
  cases hpb:(p || not (bEq b want)) with
  | false=>rw [hpb] at hx; cases hx
  | true =>
   rw [hpb] at hx
   have hx:K ⟨X.t.set u .any,X.h⟩ ((u,s,want,v) :: spDrop (some u) sp)=some r:=hx
   obtain ⟨_,hncall⟩:=specI_cls hsi
   have hany:∀ a,Sim ρ ⟨X.t.set u .any,X.h⟩ (St.put ⟨σ.t,σ.h⟩ (some u) a):=fun a=>put_ok (X:=X) (kl:=[]) hS.t hu (vt_any a) (some u)
   by_cases hw:b=want
   ·rw [if_pos hw]
    have hp:p=true:=by
     subst hw
     simpa [bEq] using hpb
    obtain ⟨q,a,e1,e2,e4⟩:=xspec_ok hS hsp (by rw [hg,hw]) hcl hxs hp
    rw [aExec_step hncall,e1]
    exact ⟨e2,hQ _ _ (St.put ⟨σ.t,σ.h⟩ (some u) a) (hany a) (spec_new hsp hS.h hul' hus hg (.inl ⟨hw,e4⟩)) rfl rfl hx⟩
   ·rw [if_neg hw]
    exact hQ _ _ (St.put ⟨σ.t,σ.h⟩ (some u) und) (hany und) (spec_new hsp hS.h hul' hus hg (.inr ⟨hw,rfl⟩)) rfl rfl hx
theorem xopsR_ok (hc:CfgOk P c) {K:XS→Option β} {H0:List AObj} {ρ0:List Nat} {V:List Nat}:∀ (l:List (Nat × Ins)) (X:XS) (sp:Sp) (ρ:List Nat) (σ:St),Sim ρ X σ→SpR ρ X.h σ sp→Frm H0 ρ0 ρ σ.h→(∀ i,i < m→i < ρ.length→ρ.getD i 0 < N∧(ρ.getD i 0 ∈ V ↔ i ∈ U))→(∀ i,m≤i→i < ρ.length→N≤ρ.getD i 0)→N≤σ.h.length→m≤X.h.length →
  xopsR c m U K l X sp=some r→aOpsR P (gx c.GX) N V (fun τ=>∃ ρ' X',Sim ρ' X' τ∧Frm H0 ρ0 ρ' τ.h∧K X'=some r) l σ:=by
 intro l
 induction l with
 | nil=>intro X sp ρ σ hS _ hF _ _ _ _ hx; exact ⟨ρ,X,hS,hF,hx⟩
 | cons p l ih =>
  intro X sp ρ σ hS hsp hF hA hB hN hM hx
  obtain ⟨mk,i⟩:=p
  have next:∀ (ρ':List Nat) (X':XS) (sp':Sp) (τ:St) (kl tch:List Nat),Sim ρ' X' τ→SpR ρ' X'.h τ sp'→Upd ρ X.h σ.h ρ' X'.h τ.h kl tch→xopsR c m U K l X' sp'=some r→aOpsR P (gx c.GX) N V (fun τ=>∃ ρ' X',Sim ρ' X' τ∧Frm H0 ρ0 ρ' τ.h∧K X'=some r) l τ:=by
   intro ρ' X' sp' τ kl tch s1 s2 u hK
   obtain ⟨n,e,q⟩:=u.ap
   have hml:m≤ρ.length:=by rw [hS.h.rl]; exact hM
   refine ih X' sp' ρ' τ s1 s2 (hF.upd hS.h.rl u) (fun j hj hj'=>?_) (fun j hj hj'=>?_) (Nat.le_trans hN u.ge) (Nat.le_trans hM u.hl) hK
   ·rw [e,getD_left (by omega)]; exact hA j hj (by omega)
   ·rcases Nat.lt_or_ge j ρ.length with hl | hl
    ·rw [e,getD_left hl]; exact hB j hj hl
    ·rw [e] at hj' ⊢
     simp only [List.length_append] at hj'
     have:(ρ ++ n).getD j 0=n[j - ρ.length]'(by omega):=by
      simp only [List.getD]
      rw [List.getElem?_append_right hl,List.getElem?_eq_getElem (by omega)]; rfl
     rw [this]
     exact Nat.le_trans hN (q _ (List.getElem_mem _))
  match mk with
  | 0 =>
   simp only [xopsR] at hx
   refine xIns_ok hc 8 X sp _ hS hsp hx ?_
   rintro τ ⟨ρ',X',sp',s1,s2,⟨kl,tch,u,_⟩,hK⟩
   exact next ρ' X' sp' τ kl tch s1 s2 u hK
  | 1 =>
   simp only [xopsR] at hx
   split at hx
   case isFalse=>cases hx
   rename_i hcl
   obtain ⟨k1,k2⟩:=xrd_ok (Q:=aOpsR P (gx c.GX) N V (fun τ=>∃ ρ' X',Sim ρ' X' τ∧Frm H0 ρ0 ρ' τ.h∧K X'=some r) l) hc hS hsp (Nat.le_of_ble_eq_true hcl) hx (fun X' sp' τ s1 s2 he hh hK=>ih X' sp' ρ τ s1 s2 (by rw [hh]; exact hF) hA hB (by rw [hh]; exact hN) (by rw [he]; exact hM) hK)
   refine ⟨fun hw id hid=>?_,k2⟩
   obtain ⟨j,rfl,hok,hj⟩:=k1 hw id hid
   obtain ⟨o1,o2⟩:=ok_low hok
   have:=hA j o1 (by rw [hS.h.rl]; exact hj)
   exact ⟨this.1,fun q=>o2 (this.2.1 q)⟩
  | k + 2 =>
   show aStep P (gx c.GX) false σ i (fun ρ=>agree N V σ.h ρ.h∧aOpsR P (gx c.GX) N V _ l ρ)
   have fin:∀ (ρ':List Nat) (X':XS) (sp':Sp) (τ:St) (kl tch:List Nat),Sim ρ' X' τ→SpR ρ' X'.h τ sp'→Upd ρ X.h σ.h ρ' X'.h τ.h kl tch→(∀ id ∈ tch,(Nat.ble m id || U.any (Nat.beq id))=true)→xopsR c m U K l X' sp'=some r→agree N V σ.h τ.h∧aOpsR P (gx c.GX) N V (fun τ=>∃ ρ' X',Sim ρ' X' τ∧Frm H0 ρ0 ρ' τ.h∧K X'=some r) l τ:=by
    intro ρ' X' sp' τ kl tch s1 s2 u hlv hK
    refine ⟨?_,next ρ' X' sp' τ kl tch s1 s2 u hK⟩
    intro j hj hjV
    refine u.fr j (by omega) (fun id hid hil q=>?_)
    have hil':id < ρ.length:=by rw [hS.h.rl]; exact hil
    rcases ok_up (hlv id hid) with r1 | r1
    ·have:=hB id r1 hil'; omega
    ·rcases Nat.lt_or_ge id m with r2 | r2
     ·exact hjV (q ▸ (hA id r2 hil').2.2 r1)
     ·have:=hB id r2 hil'; omega
   obtain ⟨dst,gd,ii⟩:=i
   cases gd with
   | none =>
    have hx:(if leaves (fun id=>Nat.ble m id || U.any (Nat.beq id)) (rdG c.GX X.t) ii=true then xIns c false (fun id=>Nat.ble m id || U.any (Nat.beq id)) 8 X sp (fun X' sp'=>xopsR c m U K l X' sp') ⟨dst,none,ii⟩ else none)=some r:=hx
    split at hx
    case isFalse=>cases hx
    rename_i hb
    refine xIns_ok hc 8 X sp _ hS hsp hx ?_
    rintro τ ⟨ρ',X',sp',s1,s2,⟨kl,tch,u,hlv⟩,hK⟩
    exact fin ρ' X' sp' τ kl tch s1 s2 u (hlv rfl hb) hK
   | some g =>
    obtain ⟨s,want⟩:=g
    have hx:(match X.t.getD s .any with
     | .d .bool b=>cond b (xwr c (fun id=>Nat.ble m id || U.any (Nat.beq id)) X sp dst s want ii (fun X' sp'=>xopsR c m U K l X' sp') true) (xwr c (fun id=>Nat.ble m id || U.any (Nat.beq id)) X sp dst s want ii (fun X' sp'=>xopsR c m U K l X' sp') false)
     | _=>none)=some r:=hx
    have hvs:=vt_get hS.t s
    split at hx
    case h_2=>cases hx
    rename_i b hb
    change Bool at b
    rw [hb] at hvs
    have hg:=vt_bool hvs
    have hw:xwr c (fun id=>Nat.ble m id || U.any (Nat.beq id)) X sp dst s want ii (fun X' sp'=>xopsR c m U K l X' sp') b=some r:=by
     cases b <;> exact hx
    obtain ⟨m1,m2⟩:=matL_ok hS hsp hg
    have hstep:∀ Q,aStep P (gx c.GX) false σ ⟨dst,some (s,want),ii⟩ Q=if b=want then aExec P (gx c.GX) false σ dst Q ii else Q (σ.put dst und):=by
     intro Q; simp only [aStep,hg]
    rw [hstep]
    unfold xwr at hw
    by_cases hbw:b=want
    ·rw [if_pos hbw]
     rw [if_pos (by rw [hbw]; simp)] at hw
     split at hw
     case isFalse=>cases hw
     rename_i hlv
     refine xun_ok hc m1 m2 hw fun τ hτ=>?_
     obtain ⟨ρ',X',sp',a1,a2,⟨kl,tch,a3,a4,_⟩,a5⟩:=hτ
     exact fin ρ' X' sp' τ kl tch a1 a2 a3 (a4 hlv) a5
    ·rw [if_neg hbw]
     rw [if_neg (by simpa using hbw)] at hw
     have hu1:=Upd.same m1.h
     refine fin ρ _ _ _ [] [] (put_ok (X:=⟨matL s b sp X.t,X.h⟩) (kl:=[]) m1.t hu1 (show VT ρ X.h kU und from rfl) dst) (drop_ok (kl:=[]) m2 hu1 dst und) ?_ (fun id q=>by simp at q) hw
     have:(σ.put dst und).h=σ.h:=put_h (H':=σ.h)
     show Upd ρ X.h σ.h ρ X.h (σ.put dst und).h [] []
     rw [this]; exact Upd.same hS.h
end
section
variable {Gl:Nat→Option (List AV)} {F:Addr→Option Value} {own own':List Ent} {B:Nat} {w0:W0} {σ:St} {act:Act} {w:World}
def Okc (F:Addr→Option Value) (own own':List Ent) (a:AV):Prop:=∀ v,R F own v a→R F own' v a
def Cl (n:Nat) (a:AV):Prop:=∀ (F:Addr→Option Value) (own own':List Ent),(∀ i,i < n→own'[i]?=own[i]?)→Okc F own own' a
theorem cl_rp {x:Value} {a:AV} (h:RP F x a) (n:Nat):Cl n a:=by
 induction h with
 | any x=>exact fun _ _ _ _ v _=>.pure (.any v)
 | v x=>exact fun F own own' _ v h=>by rw [h.v_inv]; exact .pure (.v _)
 | nil sz=>exact fun F own own' _ v h=>.pure h.list_inv
 | list ad n cap sz xs cv hn hc hz hF hR ih=>exact fun F own own' _ v h=>.pure h.list_inv
 | lptr ad cs cv hF hR ih=>exact fun F own own' _ v h=>.pure h.lptr_inv
 | agg xs cs hl h1 hR ih =>
  intro F own own' hw v h
  obtain ⟨ys,rfl,hl',h1',hR'⟩:=h.agg_inv
  refine .agg ys cs hl' h1' fun j y a p q=>?_
  have hj:j < xs.size:=by rw [hl]; exact (List.getElem?_eq_some_iff.1 q).1
  exact ih j _ a (Array.getElem?_eq_getElem hj) q F own own' hw y (hR' j y a p q)
 | tup xs cs hl hR ih =>
  intro F own own' hw v h
  obtain ⟨ys,rfl,hl',hR'⟩:=h.tup_inv
  refine .tup ys cs hl' fun j y a p q=>?_
  have hj:j < xs.size:=by rw [hl]; exact (List.getElem?_eq_some_iff.1 q).1
  exact ih j _ a (Array.getElem?_eq_getElem hj) q F own own' hw y (hR' j y a p q)
theorem okc_row {id G sz off len:Nat} (h:own'[id]?=own[id]?):Okc F own own' (.row id G sz off len):=fun v hv=>by
 obtain ⟨e,he,hG,hs,hx⟩:=hv.row_inv
 exact .row _ _ _ _ _ _ e (by rw [h]; exact he) hG hs hx (hv.row_sz he)
theorem okc_crow {id G sz len:Nat} (h:own'[id]?=own[id]?):Okc F own own' (.crow id G sz len):=fun v hv=>by
 obtain ⟨e,he,hG,hs,hx⟩:=hv.crow_inv
 exact .crow _ _ _ _ _ e (by rw [h]; exact he) hG hs hx (hv.crow_sz he)
theorem okc_ptr {id G i off:Nat} (h:own'[id]?=own[id]?):Okc F own own' (.ptr id G i off):=fun v hv=>by
 obtain ⟨e,he,hG,hs,hx⟩:=hv.ptr_inv
 exact .ptr _ _ _ _ _ e (by rw [h]; exact he) hG hs hx (hv.ptr_sz he)
theorem okc_mp {id:Nat} (h:own'[id]?=own[id]?):Okc F own own' (.mp id):=fun v hv=>by
 obtain ⟨e,he,h0,hx⟩:=hv.mp_inv
 exact .mp _ _ e (by rw [h]; exact he) h0 hx
theorem cl_r {n:Nat} {x:Value} {a:AV} (h:R F own x a) (hn:own.length≤n):Cl n a:=by
 have lt:∀ {id:Nat} {e:Ent},own[id]?=some e→id < n:=fun q=>Nat.lt_of_lt_of_le (List.getElem?_eq_some_iff.1 q).1 hn
 induction h with
 | pure h=>exact cl_rp h n
 | mp x id e he h0 hx=>exact fun F own own' hw=>okc_mp (hw id (lt he))
 | row x id G sz off len e he hG hs hx hz=>exact fun F own own' hw=>okc_row (hw id (lt he))
 | crow x id G sz len e he hG hs hx hz=>exact fun F own own' hw=>okc_crow (hw id (lt he))
 | ptr x id G i off e he hG hs hx hz=>exact fun F own own' hw=>okc_ptr (hw id (lt he))
 | clo f xs cs hl hR ih =>
  intro F own own' hw v h
  obtain ⟨ys,rfl,hl',hR'⟩:=h.clo_inv
  refine .clo f ys cs hl' fun j y a p q=>?_
  have hj:j < xs.size:=by rw [hl]; exact (List.getElem?_eq_some_iff.1 q).1
  exact ih j _ a (Array.getElem?_eq_getElem hj) q F own own' hw y (hR' j y a p q)
 | agg xs cs hl h1 hR ih =>
  intro F own own' hw v h
  obtain ⟨ys,rfl,hl',h1',hR'⟩:=h.agg_inv
  refine .agg ys cs hl' h1' fun j y a p q=>?_
  have hj:j < xs.size:=by rw [hl]; exact (List.getElem?_eq_some_iff.1 q).1
  exact ih j _ a (Array.getElem?_eq_getElem hj) q F own own' hw y (hR' j y a p q)
 | tup xs cs hl hR ih =>
  intro F own own' hw v h
  obtain ⟨ys,rfl,hl',hR'⟩:=h.tup_inv
  refine .tup ys cs hl' fun j y a p q=>?_
  have hj:j < xs.size:=by rw [hl]; exact (List.getElem?_eq_some_iff.1 q).1
  exact ih j _ a (Array.getElem?_eq_getElem hj) q F own own' hw y (hR' j y a p q)
def ClH (n:Nat) (H:List AObj):Prop:=∀ (j:Nat) (O:AObj),H[j]?=some O→O.pr=false→∀ (i k:Nat) (e a:AV),O.es[i]?=some e→e.cells[k]?=some a→Cl n a
theorem Inv.clH (h:Inv Gl F own B w0 σ act w):ClH σ.h.length σ.h:=by
 intro j O hO hpr i k e a hi hk
 obtain ⟨en,hen,hOr⟩:=h.obj_own hO
 rcases hOr with ⟨_,k1,k2,k3,k4,k5,k6,k7,k8⟩ | ⟨_,_,m2,_⟩
 case inr=>rw [hpr] at m2; cases m2
 cases hg:en.g with
 | none =>
  rw [hg] at k8
  have:O.es.length=0:=by have k8:en.cap=0:=k8; omega
  have:=(List.getElem?_eq_some_iff.1 hi).1
  omega
 | some g =>
  rw [hg] at k8
  obtain ⟨cs,a1,a2,a3,a4⟩:=k8
  obtain ⟨y,b1,b2,b3⟩:=a3 i k e a hi hk
  unfold RC at b3
  rw [if_neg (by rw [hpr]; simp)] at b3
  exact cl_r b3 (Nat.le_of_eq h.hl)
open Classical in
noncomputable def off1 (F:Addr→Option Value) (own own':List Ent) (a:AV):AV:=if Okc F own own' a then a else .any
noncomputable def offA (F:Addr→Option Value) (own own':List Ent):AV→AV
 | .agg cs=>.agg (cs.map (off1 F own own'))
 | a=>off1 F own own' a
noncomputable def offT (F:Addr→Option Value) (own own':List Ent):AV→AV
 | .tup vs=>.tup (vs.map (offA F own own'))
 | a=>offA F own own' a
noncomputable def offO (F:Addr→Option Value) (own own':List Ent) (o:AObj):AObj:=if o.pr=true then o else { o with es:=o.es.map (offA F own own') }
theorem off1_eq {a:AV} (h:Okc F own own' a):off1 F own own' a=a:=by unfold off1; rw [if_pos h]
theorem off1_or (a:AV):off1 F own own' a=a∨off1 F own own' a=.any:=by
 unfold off1; split
 ·exact .inl rfl
 ·exact .inr rfl
theorem R.off1 {x:Value} {a:AV} (h:R F own x a):R F own' x (off1 F own own' a):=by
 unfold Abs.off1
 split
 ·rename_i hk; exact hk x h
 ·exact .pure (.any x)
theorem offA_else {a:AV} (h:∀ cs,a ≠ .agg cs):offA F own own' a=Abs.off1 F own own' a:=by
 cases a <;> first | rfl | exact absurd rfl (h _)
theorem offT_else {a:AV} (h:∀ cs,a ≠ .tup cs):offT F own own' a=offA F own own' a:=by
 cases a <;> first | rfl | exact absurd rfl (h _)
theorem R.offA {x:Value} {a:AV} (h:R F own x a):R F own' x (offA F own own' a):=by
 by_cases ha:∃ cs,a=.agg cs
 ·obtain ⟨cs,rfl⟩:=ha
  obtain ⟨xs,rfl,hl,h1,hR⟩:=h.agg_inv
  refine .agg xs _ (by simp [hl]) h1 fun j x a p q=>?_
  rw [List.getElem?_map] at q
  cases hc:cs[j]? with
  | none=>rw [hc] at q; cases q
  | some c=>rw [hc] at q; cases q; exact (hR j x c p hc).off1
 ·rw [offA_else fun cs q=>ha ⟨cs,q⟩]; exact h.off1
theorem R.offT {x:Value} {a:AV} (h:R F own x a):R F own' x (offT F own own' a):=by
 by_cases ha:∃ cs,a=.tup cs
 ·obtain ⟨cs,rfl⟩:=ha
  obtain ⟨xs,rfl,hl,hR⟩:=h.tup_inv
  refine .tup xs _ (by simp [hl]) fun j x a p q=>?_
  rw [List.getElem?_map] at q
  cases hc:cs[j]? with
  | none=>rw [hc] at q; cases q
  | some c=>rw [hc] at q; cases q; exact (hR j x c p hc).offA
 ·rw [offT_else fun cs q=>ha ⟨cs,q⟩]; exact h.offA
theorem offA_cells (a:AV):(offA F own own' a).cells=a.cells.map (off1 F own own'):=by
 by_cases ha:∃ cs,a=.agg cs
 ·obtain ⟨cs,rfl⟩:=ha; rfl
 ·rw [offA_else fun cs q=>ha ⟨cs,q⟩]
  have hc:a.cells=[a]:=by cases a <;> first | rfl | exact absurd ⟨_,rfl⟩ ha
  rw [hc]
  rcases off1_or (F:=F) (own:=own) (own':=own') a with q | q
  ·rw [q,hc]; simp [q]
  ·rw [q]; simp [q,AV.cells]
theorem Inv.off (h:Inv Gl F own B w0 σ act w) {k:Nat} {e e':Ent} {ob':AObj} (he:own[k]?=some e) (hN:w0.N≤k) (hg:e'.g=e.g) (hO':ObjR F (own.set k e') w e' ob') :
  Inv Gl F (own.set k e') B w0 ⟨σ.t.map (offT F own (own.set k e')),(σ.h.map (offO F own (own.set k e'))).set k ob'⟩ act w:=by
 have hk:k < own.length:=(List.getElem?_eq_some_iff.1 he).1
 have hk':k < σ.h.length:=by rw [← h.hl]; exact hk
 have get:∀ {id:Nat} {f:Ent},(own.set k e')[id]?=some f→(id=k∧f=e')∨(id ≠ k∧own[id]?=some f):=fun {id f} q=>by
  by_cases hi:k=id
  ·subst hi; rw [List.getElem?_set_self hk] at q; cases q; exact .inl ⟨rfl,rfl⟩
  ·rw [List.getElem?_set_ne hi] at q; exact .inr ⟨fun q=>hi q.symm,q⟩
 have getg:∀ {id:Nat} {f:Ent},(own.set k e')[id]?=some f→∃ f0,own[id]?=some f0∧f0.g=f.g:=fun {id f} q=>by
  rcases get q with ⟨rfl,rfl⟩ | ⟨_,q⟩
  ·exact ⟨e,he,hg.symm⟩
  ·exact ⟨f,q,rfl⟩
 refine { tl:=by simp [h.tl],tr:=fun i x a p q=>?_,defers:=h.defers,sub:=h.sub,hl:=by simp [h.hl],objs:=fun id f o p q=>?_,inj:=fun i j f f' g p q r s=>?_,below:=h.below,base:=fun id f g p q=>?_,gl:=h.gl,gw:=h.gw,room:=h.room,ext:=h.ext,ext0:=h.ext0,nl:=by have:=h.nl; simpa using this,fr:=fun q hq=>?_,pd:=PdIn.turn h.pd (fun _ _ _=>rfl) (fun _ _ _ q=>.inl q) (fun id f g p q=>by obtain ⟨f0,q1,q2⟩:=getg p; exact .inl fun r=>r id f0 q1 (q2.trans q)) }
 ·have q:(σ.t.map (Abs.offT F own (own.set k e')))[i]?=some a:=q
  rw [List.getElem?_map] at q
  cases hc:σ.t[i]? with
  | none=>rw [hc] at q; cases q
  | some c=>rw [hc] at q; cases q; exact (h.tr i x c p hc).offT
 ·have q:((σ.h.map (offO F own (own.set k e'))).set k ob')[id]?=some o:=q
  rcases get p with ⟨rfl,rfl⟩ | ⟨hid,hf⟩
  ·rw [List.getElem?_set_self (by simpa using hk')] at q
   cases q
   exact hO'
  ·rw [List.getElem?_set_ne (fun q=>hid q.symm),List.getElem?_map] at q
   cases ho:σ.h[id]? with
   | none=>rw [ho] at q; cases q
   | some O =>
    rw [ho] at q; cases q
    rcases h.objs id f O hf ho with ⟨k0,k1,k2,k3,k4,k5,k6,k7,k8⟩ | hm
    case inr =>
     have:offO F own (own.set k e') O=O:=by simp [offO,hm.2.2.1]
     rw [this]
     exact .inr hm
    by_cases hpr:O.pr=true
    ·have:offO F own (own.set k e') O=O:=by simp [offO,hpr]
     rw [this]
     refine .inl ⟨k0,k1,k2,k3,k4,k5,k6,k7,?_⟩
     cases hg:f.g with
     | none=>rw [hg] at k8; exact k8
     | some g =>
      rw [hg] at k8
      obtain ⟨cs,a1,a2,a3,a4⟩:=k8
      refine ⟨cs,a1,a2,fun i j x a r s=>?_,a4⟩
      obtain ⟨y,b1,b2,b3⟩:=a3 i j x a r s
      refine ⟨y,b1,b2,?_⟩
      unfold RC at b3 ⊢
      rw [if_pos hpr] at b3 ⊢
      exact b3
    ·have e1:offO F own (own.set k e') O={ O with es:=O.es.map (Abs.offA F own (own.set k e')) }:=by simp [offO,hpr]
     rw [e1]
     have el:∀ (i:Nat) (x:AV),(O.es.map (Abs.offA F own (own.set k e')))[i]?=some x→∃ z,O.es[i]?=some z∧x=Abs.offA F own (own.set k e') z:=fun i x q=>by
      rw [List.getElem?_map] at q
      cases hz:O.es[i]? with
      | none=>rw [hz] at q; cases q
      | some z=>rw [hz] at q; cases q; exact ⟨z,rfl,rfl⟩
     refine .inl ⟨k0,by simp [k1],k2,k3,k4,⟨k5.1,by simpa using k5.2⟩,by simpa using k6,fun i x q=>?_,?_⟩
     ·obtain ⟨z,hz,rfl⟩:=el i x q
      rw [offA_cells,List.length_map]; exact k7 i z hz
     ·cases hg:f.g with
      | none=>rw [hg] at k8; exact k8
      | some g =>
       rw [hg] at k8
       obtain ⟨cs,a1,a2,a3,a4⟩:=k8
       obtain ⟨fr,a1,af⟩:=a1
       refine ⟨cs,⟨fr,a1,by rw [List.length_map]; exact af⟩,a2,fun i j x a r s=>?_,a4⟩
       obtain ⟨z,hz,rfl⟩:=el i x r
       rw [offA_cells,List.getElem?_map] at s
       cases hc:z.cells[j]? with
       | none=>rw [hc] at s; cases s
       | some c =>
        rw [hc] at s; cases s
        obtain ⟨y,b1,b2,b3⟩:=a3 i j z c hz hc
        refine ⟨y,b1,b2,?_⟩
        unfold RC at b3 ⊢
        rw [if_neg hpr] at b3 ⊢
        exact b3.off1
 ·obtain ⟨f0,q1,q2⟩:=getg p
  obtain ⟨f1,q3,q4⟩:=getg q
  exact h.inj i j f0 f1 g q1 q3 (by rw [q2]; exact r) (by rw [q4]; exact s)
 ·obtain ⟨f0,q1,q2⟩:=getg p
  exact h.base id f0 g q1 (by rw [q2]; exact q)
 ·have:(own.set k e').take q.1=own.take q.1:=by
   apply List.ext_getElem?
   intro j
   rw [List.getElem?_take,List.getElem?_take]
   split
   ·rename_i hj
    have:=w0.hfr q hq
    rw [List.getElem?_set_ne (by omega)]
   ·rfl
  rw [this]; exact h.fr q hq
theorem Inv.cut (h:Inv Gl F own B w0 σ act w) {k s len:Nat} {ob:AObj} {sz:Nat} (hob:σ.h[k]?=some ob) (hpr:ob.pr=true) (hfz:ob.fz=0) (hN:w0.N≤k) (hs:σ.t[s]?=some (.row k ob.es.length sz 0 len)) :
  ∃ e',len≤ob.es.length∧Inv Gl F (own.set k e') B w0 ⟨(σ.t.map (offT F own (own.set k e'))).set s (.row k len sz 0 len),(σ.h.map (offO F own (own.set k e'))).set k { ob with es:=ob.es.take len }⟩ act w:=by
 obtain ⟨e,he,hOr⟩:=h.obj_own hob
 have hk:k < own.length:=(List.getElem?_eq_some_iff.1 he).1
 have hlt:s < act.tmps.size:=by rw [h.tl]; exact (List.getElem?_eq_some_iff.1 hs).1
 have hR:=h.tr s _ _ (Array.getElem?_eq_getElem hlt) hs
 obtain ⟨k1,k2,k3,k4,k5,k6,k7,k8⟩:=hOr.of_e (hR.row_sz he)
 obtain ⟨e2,he2,hG,hsl,hx⟩:=hR.row_inv
 rw [he] at he2
 cases he2
 obtain ⟨x1,x2,x3⟩:=hx k1.symm
 obtain ⟨cp,c1,c2⟩:=x3 (.inr rfl)
 have hle:len≤ob.es.length:=by omega
 have hO':ObjR F (own.set k { e with G:=len }) w { e with G:=len } { ob with es:=ob.es.take len }:=by
  refine ObjC.r ⟨by simp [hle],k2,k3,by show len≤e.cap; omega,⟨k5.1,fun q=>by have q:ob.pr=false:=q; rw [hpr] at q; cases q⟩,by show ob.fz≤_; omega,fun i x q=>?_,?_⟩
  ·have q:(ob.es.take len)[i]?=some x:=q
   rw [List.getElem?_take] at q
   split at q
   ·exact k7 i x q
   ·cases q
  ·show match e.g with
    | none=>e.cap=0
    | some g=>_
   cases hg:e.g with
   | none=>rw [hg] at k8; exact k8
   | some g =>
    rw [hg] at k8
    obtain ⟨cs,a1,a2,a3,a4⟩:=k8
    obtain ⟨fr,a1,af⟩:=a1
    refine ⟨cs,⟨fr,a1,af.imp id (fun q=>by exfalso; omega)⟩,a2,fun i j x a r s=>?_,a4⟩
    have r:(ob.es.take len)[i]?=some x:=r
    rw [List.getElem?_take] at r
    split at r
    ·obtain ⟨y,b1,b2,b3⟩:=a3 i j x a r s
     refine ⟨y,b1,b2,?_⟩
     unfold RC at b3 ⊢
     rw [if_pos hpr] at b3
     rw [if_pos (show ({ ob with es:=ob.es.take len }:AObj).pr=true from hpr)]
     exact b3
    ·cases r
 refine ⟨{ e with G:=len },hle,?_⟩
 have hI:=h.off (e':={ e with G:=len }) he hN rfl hO'
 have hrow:R F (own.set k { e with G:=len }) act.tmps[s] (.row k len sz 0 len) :=
  .row _ _ _ _ _ _ { e with G:=len } (by rw [List.getElem?_set_self hk]) (Nat.le_refl _) hsl (fun _=>⟨x1,by omega,fun _=>⟨cp,c1,c2⟩⟩) (by show 0 < e.sz; rw [k2]; exact k3)
 have:=hI.put hrow (some s)
 have e1:act.put (some s) act.tmps[s]=act:=by
  have hs:act.tmps.setIfInBounds s act.tmps[s]=act.tmps:=by
   apply Array.ext_getElem?
   intro j
   rw [Array.getElem?_setIfInBounds]
   split
   ·rename_i hj
    subst hj
    rw [Array.getElem?_eq_getElem hlt]
   ·rfl
  show ({ act with tmps:=act.tmps.setIfInBounds s act.tmps[s] }:Act)=act
  rw [hs]
 rw [e1] at this
 exact this
def setC (e:AV) (o:Nat) (a:AV):AV:=match e with
 | .agg us=>.agg (us.set o a)
 | _=>a
theorem setC_cells {e a b:AV} {o:Nat} (ha:a.cells=[a]) (ho:e.cells[o]?=some b):(setC e o a).cells=e.cells.set o a:=by
 by_cases h:∃ us,e=.agg us
 ·obtain ⟨us,rfl⟩:=h; rfl
 ·have hc:e.cells=[e]:=by cases e <;> first | rfl | exact absurd ⟨_,rfl⟩ h
  have hs:setC e o a=a:=by cases e <;> first | rfl | exact absurd ⟨_,rfl⟩ h
  rw [hc] at ho ⊢
  have:o=0:=by
   have:=(List.getElem?_eq_some_iff.1 ho).1
   simp at this; exact this
  subst this
  rw [hs,ha]; rfl
theorem Inv.cellTo (h:Inv Gl F own B w0 σ act w) {k o:Nat} {ob:AObj} {e0 a0 a':AV} (hob:σ.h[k]?=some ob) (hes:ob.es=[e0]) (hpr:ob.pr=false) (ho:e0.cells[o]?=some a0) (ha:∀ (e:Ent) (g:Nat) (cs:Array Value) (fr:Nat × Nat) (y:Value),own[k]?=some e→e.g=some g→w.heap[g]?=some (.cells cs ob.ty fr)→cs[0 * ob.sz + o]?=some y→R F own y a0→R F own y a') (hac:a'.cells=[a']) :
  Inv Gl F own B w0 ⟨σ.t,σ.h.set k { ob with es:=[setC e0 o a'] }⟩ act w:=by
 have hk:k < σ.h.length:=(List.getElem?_eq_some_iff.1 hob).1
 refine h.turn (fun _ _ q=>q) (Le.refl _) h.sub (by simp [h.hl]) (fun id e o' p q=>?_) h.inj h.below h.base
 have q:(σ.h.set k { ob with es:=[setC e0 o a'] })[id]?=some o':=q
 by_cases hid:k=id
 ·subst hid
  rw [List.getElem?_set_self hk] at q
  cases q
  rcases h.objs k e ob p hob with ⟨k0,k1,k2,k3,k4,k5,k6,k7,k8⟩ | ⟨_,_,m2,_⟩
  case inr=>rw [hpr] at m2; cases m2
  have hcl:=setC_cells hac ho
  refine ObjC.r ⟨by rw [k1,hes]; rfl,k2,k3,k4,⟨k5.1,fun q=>by rw [k5.2 q,hes]; rfl⟩,by rw [hes] at k6; exact k6,fun i x q=>?_,?_⟩
  ·have q:[setC e0 o a'][i]?=some x:=q
   have hi:i=0:=by have:=(List.getElem?_eq_some_iff.1 q).1; simpa using this
   subst hi
   cases q
   rw [hcl,List.length_set]
   exact k7 0 e0 (by rw [hes]; rfl)
  ·cases hg:e.g with
   | none=>rw [hg] at k8; exact k8
   | some g =>
    rw [hg] at k8
    obtain ⟨cs,a1,a2,a3,a4⟩:=k8
    obtain ⟨fr,a1,af⟩:=a1
    refine ⟨cs,⟨fr,a1,by rw [hes] at af; exact af⟩,a2,fun i j x a r s=>?_,a4⟩
    have r:[setC e0 o a'][i]?=some x:=r
    have hi:i=0:=by have:=(List.getElem?_eq_some_iff.1 r).1; simpa using this
    subst hi
    cases r
    rw [hcl,List.getElem?_set] at s
    split at s
    ·rename_i hj
     subst hj
     split at s
     ·cases s
      obtain ⟨y,b1,b2,b3⟩:=a3 0 o e0 _ (by rw [hes]; rfl) ho
      refine ⟨y,b1,b2,?_⟩
      unfold RC at b3 ⊢
      rw [if_neg (by rw [hpr]; simp)] at b3
      rw [if_neg (by show ¬ ob.pr=true; rw [hpr]; simp)]
      exact ha e g cs fr y p hg a1 b1 b3
     ·cases s
    ·exact a3 0 j e0 a (by rw [hes]; rfl) s
 ·rw [List.getElem?_set_ne hid] at q
  exact h.objs id e o' p q
theorem Inv.cellNil (h:Inv Gl F own B w0 σ act w) {k o:Nat} {ob:AObj} {e0 a':AV} {v:Value} (hob:σ.h[k]?=some ob) (hes:ob.es=[e0]) (hpr:ob.pr=false) (ho:e0.cells[o]?=some (.v v)) (ha:R F own v a') (hac:a'.cells=[a']) :
  Inv Gl F own B w0 ⟨σ.t,σ.h.set k { ob with es:=[setC e0 o a'] }⟩ act w:=h.cellTo hob hes hpr ho (fun e g cs fr y _ _ _ _ q=>by rw [q.v_inv]; exact ha) hac
end
section
variable {ρ:List Nat} {h h':List XO} {H:List AObj} {F:Addr→Option Value} {own:List Ent} {e':Ent} {id:Nat}
theorem okc_wp {own':List Ent} {T:Ty} {y:T.den} {a:AV} (hw:Wp a (Ty.enc T y)):Okc F own own' a:=by
 have one:∀ {a:AV},Pl1 a→Okc F own own' a:=fun {a} hp v hv=>by
  rcases hp with ⟨y,rfl,hy⟩ | ⟨sz,xs,rfl⟩
  ·rw [hv.v_inv]; exact .pure (.v _)
  ·exact .pure hv.list_inv
 by_cases ha:∃ cs,a=.agg cs
 ·obtain ⟨cs,rfl⟩:=ha
  intro v hv
  obtain ⟨xs,rfl,hl,h1,hR⟩:=hv.agg_inv
  exact .agg xs cs hl h1 fun j x a p q=>one (wp_pl hw (List.mem_of_getElem? q)) x (hR j x a p q)
 ·have hc:a.cells=[a]:=by cases a <;> first | rfl | exact absurd ⟨_,rfl⟩ ha
  exact one (wp_pl hw (by rw [hc]; simp))
theorem V1.okc (hs:HS ρ h H) (hid:id < h.length) {x:XV} {a:AV} (hv:V1 ρ h x a) (hn:x ≠ .any) (hh:hit [id] x=false):Okc F own (own.set (ρ.getD id 0) e') a:=by
 have ne:∀ {j:Nat} {o:XO},h[j]?=some o→[id].contains j=false→(own.set (ρ.getD id 0) e')[ρ.getD j 0]?=own[ρ.getD j 0]?:=fun {j o} q hj=>by
  rw [List.getElem?_set_ne (fun q'=>?_)]
  have:=hs.inj hid (List.getElem?_eq_some_iff.1 q).1 q'
  subst this
  simp at hj
 cases x with
 | any=>exact absurd rfl hn
 | d T y=>exact okc_wp hv
 | k v =>
  have hv:a=.v v:=hv
  subst hv
  intro v h; rw [h.v_inv]; exact .pure (.v _)
 | row j=>obtain ⟨_,_,_,_,q,rfl⟩:=hv; exact okc_row (ne q hh)
 | sub j o l=>obtain ⟨_,_,_,_,q,rfl⟩:=hv; exact okc_row (ne q hh)
 | csub j l=>obtain ⟨_,_,_,_,q,rfl,_⟩:=hv; exact okc_crow (ne q hh)
 | vrow j=>obtain ⟨_,_,q,rfl⟩:=hv; exact okc_row (ne q hh)
 | me j =>
  rcases hv with rfl | ⟨_,q,rfl⟩
  ·intro v h; rw [h.v_inv]; exact .pure (.v _)
  ·exact okc_ptr (ne q hh)
 | ptr j i o=>obtain ⟨_,q,rfl⟩:=hv; exact okc_ptr (ne q hh)
 | mp j=>obtain ⟨_,_,_,_,q,rfl⟩:=hv; exact okc_mp (ne q hh)
 | lp T y o=>obtain ⟨_,rfl,_⟩:=hv; intro v h; exact .pure h.lptr_inv
 | agg=>exact hv.elim
 | tup=>exact hv.elim
theorem V1.off (hs:HS ρ h H) (hid:id < h.length) (ht:Trn ρ h ρ h' [id]) {x:XV} {a:AV} (hv:V1 ρ h x a):V1 ρ h' (kill1L [id] x) (off1 F own (own.set (ρ.getD id 0) e') a):=by
 have hv':=ht x a hv
 by_cases hn:x=.any
 ·subst hn; trivial
 ·rw [kill1L_eq] at hv' ⊢
  cases hh:hit [id] x with
  | true=>simp only [if_true]; trivial
  | false =>
   rw [hh] at hv'
   simp only [Bool.false_eq_true,if_false] at hv' ⊢
   rw [off1_eq (hv.okc hs hid hn hh)]; exact hv'
theorem cells_off (hs:HS ρ h H) (hid:id < h.length) (ht:Trn ρ h ρ h' [id]) {cs:List XV} {as:List AV} (hc:All2 (V1 ρ h) cs as):All2 (V1 ρ h') (cs.map (kill1L [id])) (as.map (off1 F own (own.set (ρ.getD id 0) e'))) :=
 ⟨by simp [hc.1],fun i y b p q=>by
  rw [List.getElem?_map] at p q
  cases hy:cs[i]? with
  | none=>rw [hy] at p; cases p
  | some z =>
   cases hb:as[i]? with
   | none=>rw [hb] at q; cases q
   | some c=>rw [hy] at p; rw [hb] at q; cases p; cases q; exact (hc.2 i z c hy hb).off hs hid ht⟩
theorem VA.off (hs:HS ρ h H) (hid:id < h.length) (ht:Trn ρ h ρ h' [id]) {x:XV} {a:AV} (hv:VA ρ h x a):VA ρ h' (killAL [id] x) (offA F own (own.set (ρ.getD id 0) e') a):=by
 by_cases ha:∃ cs,x=.agg cs
 ·obtain ⟨cs,rfl⟩:=ha
  obtain ⟨as,rfl,hc⟩:=hv
  rw [killAL_agg]
  exact ⟨_,rfl,cells_off hs hid ht hc⟩
 ·rw [killAL_else _ x fun cs q=>ha ⟨cs,q⟩]
  have hv1:V1 ρ h x a:=by cases x <;> first | exact hv | exact absurd ⟨_,rfl⟩ ha
  by_cases hag:∃ cs,a=.agg cs
  ·obtain ⟨cs,rfl⟩:=hag
   cases x with
   | d T y =>
    have hv1:Wp (.agg cs) (Ty.enc T y):=hv1
    have he:offA F own (own.set (ρ.getD id 0) e') (.agg cs)=.agg cs:=by
     show AV.agg (cs.map _)=_
     congr 1
     refine (List.map_congr_left fun c hc=>?_).trans (List.map_id cs)
     refine off1_eq fun v hv=>?_
     rcases wp_pl hv1 hc with ⟨y,rfl,hy⟩ | ⟨sz,xs,rfl⟩
     ·rw [hv.v_inv]; exact .pure (.v _)
     ·exact .pure hv.list_inv
    rw [he]; exact hv1
   | any=>trivial
   | k v=>cases hv1
   | row j=>obtain ⟨_,_,_,_,_,q⟩:=hv1; cases q
   | sub j o l=>obtain ⟨_,_,_,_,_,q⟩:=hv1; cases q
   | csub j l=>obtain ⟨_,_,_,_,_,q,_⟩:=hv1; cases q
   | vrow j=>obtain ⟨_,_,_,q⟩:=hv1; cases q
   | ptr j i o=>obtain ⟨_,_,q⟩:=hv1; cases q
   | mp j=>obtain ⟨_,_,_,_,_,q⟩:=hv1; cases q
   | me j=>rcases hv1 with q | ⟨_,_,q⟩ <;> cases q
   | lp T y o=>obtain ⟨_,q,_⟩:=hv1; cases q
   | agg=>exact hv1.elim
   | tup=>exact hv1.elim
  ·rw [offA_else fun cs q=>hag ⟨cs,q⟩]
   exact VA.of1 (hv1.off hs hid ht)
theorem VT.off (hs:HS ρ h H) (hid:id < h.length) (ht:Trn ρ h ρ h' [id]) {x:XV} {a:AV} (hv:VT ρ h x a):VT ρ h' (killTL [id] x) (offT F own (own.set (ρ.getD id 0) e') a):=by
 by_cases ha:∃ cs,x=.tup cs
 ·obtain ⟨cs,rfl⟩:=ha
  obtain ⟨as,rfl,hc⟩:=hv
  rw [killTL_tup]
  refine ⟨_,rfl,by simp [hc.1],fun i y b p q=>?_⟩
  rw [List.getElem?_map] at p q
  cases hy:cs[i]? with
  | none=>rw [hy] at p; cases p
  | some z =>
   cases hb:as[i]? with
   | none=>rw [hb] at q; cases q
   | some c=>rw [hy] at p; rw [hb] at q; cases p; cases q; exact (hc.2 i z c hy hb).off hs hid ht
 ·rw [killTL_else _ x fun cs q=>ha ⟨cs,q⟩]
  have hvA:VA ρ h x a:=by cases x <;> first | exact hv | exact absurd ⟨_,rfl⟩ ha
  by_cases hat:∃ cs,a=.tup cs
  ·obtain ⟨cs,rfl⟩:=hat
   by_cases hx:x=.any
   ·subst hx; rw [show killAL [id] XV.any=.any from rfl]; trivial
   ·exfalso
    cases x with
    | any=>exact hx rfl
    | d T y =>
     have hw:Wp (.tup cs) (Ty.enc T y):=hvA
     rcases wp_pl hw (c:=.tup cs) (by simp [AV.cells]) with ⟨y,q,_⟩ | ⟨sz,xs,q⟩ <;> cases q
    | k v=>cases hvA
    | row j=>obtain ⟨_,_,_,_,_,q⟩:=hvA; cases q
    | sub j o l=>obtain ⟨_,_,_,_,_,q⟩:=hvA; cases q
    | csub j l=>obtain ⟨_,_,_,_,_,q,_⟩:=hvA; cases q
    | vrow j=>obtain ⟨_,_,_,q⟩:=hvA; cases q
    | ptr j i o=>obtain ⟨_,_,q⟩:=hvA; cases q
    | me j=>rcases hvA with q | ⟨_,_,q⟩ <;> cases q
    | mp j=>obtain ⟨_,_,_,_,_,q⟩:=hvA; cases q
    | lp T y o=>obtain ⟨_,q,_⟩:=hvA; cases q
    | agg us=>obtain ⟨_,q,_⟩:=hvA; cases q
    | tup us=>exact ha ⟨_,rfl⟩
  ·rw [offT_else fun cs q=>hat ⟨cs,q⟩]
   exact VT.ofA (hvA.off hs hid ht)
theorem ObjS.off (hs:HS ρ h H) (hid:id < h.length) (ht:Trn ρ h ρ h' [id]) {o:XO} {O:AObj} (hR:ObjS ρ h o O):ObjS ρ h' (killO1 [id] o) (offO F own (own.set (ρ.getD id 0) e') O):=by
 cases o with
 | row ty T fz es =>
  have:offO F own (own.set (ρ.getD id 0) e') O=O:=by simp [offO,hR.2.2.1]
  rw [this]; exact hR
 | map ty K V es =>
  have:offO F own (own.set (ρ.getD id 0) e') O=O:=by simp [offO,hR.2.2.1]
  rw [this]; exact hR
 | box ty cs =>
  obtain ⟨a,b,c,d,e,he,hc⟩:=hR
  have:offO F own (own.set (ρ.getD id 0) e') O={ O with es:=O.es.map (offA F own (own.set (ρ.getD id 0) e')) }:=by simp [offO,c]
  rw [this]
  exact ⟨a,by simpa using b,c,d,offA F own (own.set (ρ.getD id 0) e') e,by simp [he],by rw [offA_cells]; exact cells_off hs hid ht hc⟩
 | vec ty cs =>
  obtain ⟨a,b,c,d,hc⟩:=hR
  have:offO F own (own.set (ρ.getD id 0) e') O={ O with es:=O.es.map (offA F own (own.set (ρ.getD id 0) e')) }:=by simp [offO,c]
  rw [this]
  refine ⟨a,b,c,d,by simp [hc.1],fun i y e p q=>?_⟩
  have q:(O.es.map (offA F own (own.set (ρ.getD id 0) e')))[i]?=some e:=q
  rw [List.getElem?_map] at p q
  cases hy:cs[i]? with
  | none=>rw [hy] at p; cases p
  | some z =>
   cases hb:O.es[i]? with
   | none=>rw [hb] at q; cases q
   | some e1 =>
    rw [hy] at p; rw [hb] at q; cases p; cases q
    obtain ⟨c1,c2⟩:=hc.2 i z e1 hy hb
    have hna:∀ cs,e1 ≠ .agg cs:=fun cs q=>by
     subst q
     have c1:cs=[AV.agg cs]:=c1
     have:=congrArg (fun l:List AV=>SizeOf.sizeOf l) c1
     simp at this
     omega
    rw [offA_else hna]
    refine ⟨?_,c2.off hs hid ht⟩
    rcases off1_or (F:=F) (own:=own) (own':=own.set (ρ.getD id 0) e') e1 with q | q
    ·rw [q]; exact c1
    ·rw [q]; rfl
end
section
variable {S R:Type} {step:S→Option (S ⊕ R)}
theorem runO_mono:∀ {n m:Nat} {s:S} {r:R},runO step n s=some r→n≤m→runO step m s=some r:=by
 intro n
 induction n with
 | zero=>intro m s r h; cases h
 | succ n ih =>
  intro m s r h hm
  cases m with
  | zero=>omega
  | succ m =>
   simp only [runO] at h ⊢
   split at h
   ·exact ih h (by omega)
   ·exact h
   ·cases h
theorem loopO_some {s:S} {r:R}:loopO step s=some r ↔ ∃ n,runO step n s=some r:=by
 constructor
 ·intro h
  unfold loopO at h
  split at h
  ·rename_i hn; exact ⟨_,h⟩
  ·cases h
 ·rintro ⟨n,h⟩
  have hn:∃ n r,runO step n s=some r:=⟨n,r,h⟩
  obtain ⟨r',hr'⟩:=hn.choose_spec
  have e1:=runO_mono hr' (Nat.le_max_left _ n)
  have e2:=runO_mono h (Nat.le_max_right hn.choose n)
  rw [e1] at e2
  cases e2
  unfold loopO
  rw [dif_pos hn]
  exact hr'
theorem loopO_eq (step:S→Option (S ⊕ R)) (s:S):loopO step s=match step s with
  | some (.inl s')=>loopO step s'
  | some (.inr r)=>some r
  | none=>none:=by
 apply Option.ext
 intro r
 rw [loopO_some]
 constructor
 ·rintro ⟨n,h⟩
  cases n with
  | zero=>cases h
  | succ n =>
   simp only [runO] at h
   split at h
   ·rename_i s' hs; rw [hs]; exact loopO_some.2 ⟨n,h⟩
   ·rename_i r' hs; rw [hs]; exact h
   ·cases h
 ·intro h
  split at h
  ·rename_i s' hs
   obtain ⟨n,hn⟩:=loopO_some.1 h
   exact ⟨n + 1,by simp only [runO,hs]; exact hn⟩
  ·rename_i r' hs
   cases h
   exact ⟨1,by simp only [runO,hs]⟩
  ·cases h
end
section
variable {P:Program} {c:Cfg} {ρ:List Nat} {X:XS} {σ:St} {F:Addr→Option Value} {own:List Ent} {B:Nat} {w0:W0} {act:Act} {w:World} {H0:List AObj} {ρ0:List Nat} {Gl:Nat→Option (List AV)}
theorem act_self {i:Nat} (hlt:i < act.tmps.size):act.put (some i) act.tmps[i]=act:=by
 have hs:act.tmps.setIfInBounds i act.tmps[i]=act.tmps:=by
  apply Array.ext_getElem?
  intro j
  rw [Array.getElem?_setIfInBounds]
  split
  ·rename_i hj
   subst hj
   rw [Array.getElem?_eq_getElem hlt]
  ·rfl
 show ({ act with tmps:=act.tmps.setIfInBounds i act.tmps[i] }:Act)=act
 rw [hs]
theorem Frm.mine {nf id:Nat} {h:List XO} {H:List AObj} (hF:Frm H0 ρ0 ρ H) (hs:HS ρ h H) (hnf:nf=ρ0.length) (hid:nf≤id) (hl:id < h.length):H0.length≤ρ.getD id 0:=by
 subst hnf
 obtain ⟨l,hl',hq⟩:=hF.pre
 have hidl:id < ρ.length:=by rw [hs.rl]; exact hl
 rw [hl'] at hidl ⊢
 simp only [List.length_append] at hidl
 have:(ρ0 ++ l).getD id 0=l[id - ρ0.length]'(by omega):=by
  simp only [List.getD]
  rw [List.getElem?_append_right hid,List.getElem?_eq_getElem (by omega)]; rfl
 rw [this]
 exact hq _ (List.getElem_mem _)
theorem pre1_tr {nf:Nat} (hnf:nf=ρ0.length) (hN:w0.N≤H0.length) (hcl:ClH H0.length H0) (hI:Inv Gl F own B w0 σ act w) (hS:Sim ρ X σ) (hF:Frm H0 ρ0 ρ σ.h) {s id len ty:Nat} {T:Ty} {es:List T.den} (hk:X.t.getD s .any=.sub id 0 len) (he:X.h[id]?=some (.row ty T false es)) (hid:nf≤id) :
  ∃ F' own' σ' ρ',Inv Gl F' own' B w0 σ' act w∧Sim ρ' ⟨(X.t.map (killT id)).set s (.row id),(X.h.map (killO id)).set id (.row ty T false (es.take len))⟩ σ'∧Frm H0 ρ0 ρ' σ'.h:=by
 have hidl:id < X.h.length:=(List.getElem?_eq_some_iff.1 he).1
 have hsl:s < X.t.length:=by
  rcases Nat.lt_or_ge s X.t.length with q | q
  ·exact q
  ·simp [List.getD,List.getElem?_eq_none q] at hk
 have hsl':s < σ.t.length:=by rw [← hS.t.1]; exact hsl
 have hv:=vt_get hS.t s
 rw [hk] at hv
 obtain ⟨ty',T',fz',es',he',ha⟩:=hv
 rw [he] at he'
 cases he'
 obtain ⟨O,hO,o1,o2,o3,o4,o5⟩:=hS.h.hr id _ he
 have hlen:O.es.length=es.length:=by have:=o5.1; simpa using this
 have hkn:H0.length≤ρ.getD id 0:=hF.mine hS.h hnf hid hidl
 have hs?:σ.t[s]?=some (.row (ρ.getD id 0) O.es.length T.size 0 len):=by
  rw [List.getElem?_eq_getElem hsl']
  simp only [List.getD,List.getElem?_eq_getElem hsl',Option.getD_some] at ha
  rw [ha,hlen]; rfl
 obtain ⟨e',hle,hI'⟩:=hI.cut hO o3 (by rw [o4]; simp) (Nat.le_trans hN hkn) hs?
 have hkH:ρ.getD id 0 < σ.h.length:=hS.h.lt hidl
 have hmap:X.h.map (killO id)=X.h.map (killO1 [id]):=killH_map [id] X.h
 have htm:X.t.map (killT id)=X.t.map (killTL [id]):=killL_map [id] X.t
 rw [hmap,htm]
 have ht:Trn ρ X.h ρ ((X.h.map (killO1 [id])).set id (.row ty T false (es.take len))) [id]:=Trn.mk (fun j oj e hj=>by
  refine ⟨killO1 [id] oj,by rw [List.getElem?_set_ne (fun q=>hj (by simp [q])),List.getElem?_map,e]; rfl,?_⟩
  cases oj <;> simp [same2,killO1]) (fun _ _=>rfl)
 refine ⟨F,_,_,ρ,hI',⟨?_,by simp [hS.h.rl],hS.h.nd,fun j oj q=>?_⟩,⟨hF.pre,by simpa using hF.ge,fun j hj hn=>?_⟩⟩
 ·have hvr:VT ρ ((X.h.map (killO1 [id])).set id (.row ty T false (es.take len))) (.row id) (.row (ρ.getD id 0) len T.size 0 len):=by
   refine ⟨ty,T,false,es.take len,by rw [List.getElem?_set_self (by simpa using hidl)],?_⟩
   rw [List.length_take,Nat.min_eq_left (by omega)]
  refine All2.set ⟨by simp [hS.t.1],fun i y b p q=>?_⟩ hvr s
  rw [List.getElem?_map] at p q
  cases hy:X.t[i]? with
  | none=>rw [hy] at p; cases p
  | some z =>
   cases hb:σ.t[i]? with
   | none=>rw [hb] at q; cases q
   | some c=>rw [hy] at p; rw [hb] at q; cases p; cases q; exact (hS.t.2 i z c hy hb).off hS.h hidl ht
 ·have q:((X.h.map (killO1 [id])).set id (.row ty T false (es.take len)))[j]?=some oj:=q
  by_cases hj:id=j
  ·subst hj
   rw [List.getElem?_set_self (by simpa using hidl)] at q
   cases q
   refine ⟨{ O with es:=O.es.take len },by show ((σ.h.map _).set _ _)[ρ.getD id 0]?=_; rw [List.getElem?_set_self (by simpa using hkH)],o1,o2,o3,by rw [show ({ O with es:=O.es.take len }:AObj).fz=O.fz from rfl,o4]; simp,?_⟩
   rw [List.map_take]; exact o5.take len
  ·rw [List.getElem?_set_ne hj,List.getElem?_map] at q
   cases hx:X.h[j]? with
   | none=>rw [hx] at q; cases q
   | some ox =>
    rw [hx] at q; cases q
    have hjl:=(List.getElem?_eq_some_iff.1 hx).1
    obtain ⟨O1,hO1,hR⟩:=hS.h.hr j ox hx
    refine ⟨_,?_,hR.off (F:=F) (own:=own) (e':=e') hS.h hidl ht⟩
    show ((σ.h.map _).set _ _)[ρ.getD j 0]?=_
    rw [List.getElem?_set_ne (fun q=>hj (hS.h.inj hidl hjl q)),List.getElem?_map,hO1]; rfl
 ·show ((σ.h.map _).set _ _)[j]?=_
  rw [List.getElem?_set_ne (by omega),List.getElem?_map,hF.fr j hj hn]
  cases hj0:H0[j]? with
  | none=>rfl
  | some O1 =>
   show some (offO _ _ _ O1)=some O1
   congr 1
   unfold offO
   split
   ·rfl
   ·rename_i hpr
    have hpr:O1.pr=false:=by simpa using hpr
    have:O1.es.map (offA F own (own.set (ρ.getD id 0) e'))=O1.es:=by
     refine (List.map_congr_left fun e hem=>?_).trans (List.map_id O1.es)
     obtain ⟨i,hi⟩:=List.mem_iff_getElem?.1 hem
     have hc:∀ c ∈ e.cells,off1 F own (own.set (ρ.getD id 0) e') c=c:=fun c hcm=>by
      obtain ⟨k,hk⟩:=List.mem_iff_getElem?.1 hcm
      exact off1_eq (hcl j O1 hj0 hpr i k e c hi hk F own _ fun i hi=>by rw [List.getElem?_set_ne (by omega)])
     show offA F own (own.set (ρ.getD id 0) e') e=e
     by_cases hag:∃ cs,e=.agg cs
     ·obtain ⟨cs,rfl⟩:=hag
      show AV.agg (cs.map _)=_
      congr 1
      exact (List.map_congr_left fun c hcm=>hc c hcm).trans (List.map_id cs)
     ·rw [offA_else fun cs q=>hag ⟨cs,q⟩]
      exact hc e (by cases e <;> first | exact List.mem_singleton.2 rfl | exact absurd ⟨_,rfl⟩ hag)
    rw [this]
theorem pre1_ghc (hI:Inv Gl F own B w0 σ act w) (hS:Sim ρ X σ) (hF:Frm H0 ρ0 ρ σ.h) {id o ty ty':Nat} {T:Ty} {cs:List XV} (he:X.h[id]?=some (.box ty' cs)) (ho:cs[o]?=some (.k (.slice none 0 0))) (hz:0 < T.size) :
  ∃ F' own' σ' ρ',Inv Gl F' own' B w0 σ' act w∧Sim ρ' ⟨X.t,(X.h ++ [XO.row ty T false []]).set id (.box ty' (cs.set o (.row X.h.length)))⟩ σ'∧Frm H0 ρ0 ρ' σ'.h:=by
 have hidl:id < X.h.length:=(List.getElem?_eq_some_iff.1 he).1
 obtain ⟨O,hO,o1,o2,o3,o4,e,o5,hc⟩:=hS.h.hr id _ he
 have hkH:ρ.getD id 0 < σ.h.length:=hS.h.lt hidl
 have hI1:=hI.newNil ty T.size true hz
 obtain ⟨a,ha,hva⟩:=hc.get_left ho
 have hva:a=.v (.slice none 0 0):=hva
 subst hva
 have hrow:R F (own ++ [⟨none,0,T.size,0⟩]) (.slice none 0 0) (.row σ.h.length 0 T.size 0 0):=by
  rw [← hI.hl]
  exact .row _ _ _ _ _ _ _ own_last (by simp) ⟨_,_,rfl,by simp,fun q=>by simp at q⟩ (fun _=>⟨rfl,by simp,fun _=>⟨_,Nat.le_of_eq (Nat.zero_add _),by simp⟩⟩) (by first | assumption | (show 0 < T.size; omega) | (show 0 < _; assumption))
 have hO1:(σ.h ++ [(⟨ty,T.size,0,true,[]⟩:AObj)])[ρ.getD id 0]?=some O:=by rw [List.getElem?_append_left hkH]; exact hO
 have hI2:=hI1.cellNil hO1 o5 o3 ha hrow rfl
 obtain ⟨u1,u2⟩:=new_row (ty:=ty) (ys:=([]:List T.den)) (as:=[]) hS.h rfl .nil
 have he1:(X.h ++ [XO.row ty T false []])[id]?=some (.box ty' cs):=by rw [List.getElem?_append_left hidl]; exact he
 have hg:(ρ ++ [σ.h.length]).getD id 0=ρ.getD id 0:=getD_left (by rw [hS.h.rl]; exact hidl)
 have hcl:=setC_cells (e:=e) (a:=.row σ.h.length 0 T.size 0 0) rfl ha
 have hob:ObjS (ρ ++ [σ.h.length]) (X.h ++ [XO.row ty T false []]) (.box ty' (cs.set o (.row X.h.length))) { O with es:=[setC e o (.row σ.h.length 0 T.size 0 0)] }:=by
  refine ⟨o1,by simpa using o2,o3,o4,_,rfl,?_⟩
  rw [hcl]
  refine All2.set ?_ u2 o
  have:=u1.tr.cells hc
  rw [map_kill_nil] at this
  exact this
 have u3:=Upd.set u1.hs he1 (o':=.box ty' (cs.set o (.row X.h.length))) trivial hob
 have u4:=u1.trans u3 hS.h.rl
 rw [hg] at u4
 refine ⟨F,_,_,ρ ++ [σ.h.length],hI2,?_,hF.upd hS.h.rl u4⟩
 exact put_ok (X:=X) (kl:=[]) hS.t u4 (v:=.any) (a:=.any) trivial none
theorem pre1_gha (hI:Inv Gl F own B w0 σ act w) (hS:Sim ρ X σ) (hF:Frm H0 ρ0 ρ σ.h) {s o ty:Nat} {T:Ty} {cs:List XV} (hk:X.t.getD s .any=.agg cs) (ho:cs[o]?=some (.k (.slice none 0 0))) (hz:0 < T.size) :
  ∃ F' own' σ' ρ',Inv Gl F' own' B w0 σ' act w∧Sim ρ' ⟨X.t.set s (.agg (cs.set o (.row X.h.length))),X.h ++ [XO.row ty T false []]⟩ σ'∧Frm H0 ρ0 ρ' σ'.h:=by
 have hsl:s < X.t.length:=by
  rcases Nat.lt_or_ge s X.t.length with q | q
  ·exact q
  ·simp [List.getD,List.getElem?_eq_none q] at hk
 have hsl':s < σ.t.length:=by rw [← hS.t.1]; exact hsl
 have hst:s < act.tmps.size:=by rw [hI.tl]; exact hsl'
 have hv:=vt_get hS.t s
 rw [hk] at hv
 obtain ⟨as,has,hc⟩:=hv
 have hs?:σ.t[s]?=some (.agg as):=by
  rw [List.getElem?_eq_getElem hsl']
  simp only [List.getD,List.getElem?_eq_getElem hsl',Option.getD_some] at has
  rw [has]
 obtain ⟨a,ha,hva⟩:=hc.get_left ho
 have hva:a=.v (.slice none 0 0):=hva
 subst hva
 have hI1:=hI.newNil ty T.size true hz
 have hrow:R F (own ++ [⟨none,0,T.size,0⟩]) (.slice none 0 0) (.row σ.h.length 0 T.size 0 0):=by
  rw [← hI.hl]
  exact .row _ _ _ _ _ _ _ own_last (by simp) ⟨_,_,rfl,by simp,fun q=>by simp at q⟩ (fun _=>⟨rfl,by simp,fun _=>⟨_,Nat.le_of_eq (Nat.zero_add _),by simp⟩⟩) (by first | assumption | (show 0 < T.size; omega) | (show 0 < _; assumption))
 have hR:=hI1.tr s _ _ (Array.getElem?_eq_getElem hst) hs?
 have hag:R F (own ++ [⟨none,0,T.size,0⟩]) act.tmps[s] (.agg (as.set o (.row σ.h.length 0 T.size 0 0))):=by
  obtain ⟨xs,hxs,hl,h1,hRc⟩:=hR.agg_inv
  rw [hxs]
  refine .agg xs _ (by simp [hl]) h1 fun j x b p q=>?_
  rw [List.getElem?_set] at q
  split at q
  ·rename_i hj
   subst hj
   split at q
   ·cases q
    have:=(hRc o x _ p ha).v_inv
    subst this
    exact hrow
   ·cases q
  ·exact hRc j x b p q
 obtain ⟨u1,u2⟩:=new_row (ty:=ty) (ys:=([]:List T.den)) (as:=[]) hS.h rfl .nil
 have hI2:=hI1.put hag (some s)
 rw [act_self hst] at hI2
 refine ⟨F,_,_,ρ ++ [σ.h.length],hI2,?_,hF.upd hS.h.rl u1⟩
 refine put_ok (X:=X) (kl:=[]) hS.t u1 (v:=.agg (cs.set o (.row X.h.length))) (a:=.agg (as.set o (.row σ.h.length 0 T.size 0 0))) ⟨_,rfl,?_⟩ (some s)
 refine All2.set ?_ u2 o
 have:=u1.tr.cells hc
 rw [map_kill_nil] at this
 exact this
theorem wp_single {T:Ty} {b:AV} {x:T.den} (h:Wp b (Ty.enc T x)) (hT:T.isTup=false):b.cells=[b]:=by
 have hs:=enc_shp T x
 generalize Ty.enc T x=e at h hs
 cases h with
 | agg=>simp only [shp] at hs; rw [hT] at hs; cases hs
 | refl =>
  cases b with
  | agg cs=>simp only [shp] at hs; rw [hT] at hs; cases hs
  | _=>rfl
 | _=>rfl
theorem pre1_fzc (hI:Inv Gl F own B w0 σ act w) (hS:Sim ρ X σ) (hF:Frm H0 ρ0 ρ σ.h) {id o ty':Nat} {T:Ty} {cs:List XV} {c:XV} {x:T.den} (he:X.h[id]?=some (.box ty' cs)) (ho:cs[o]?=some c) (hx:toD X.h T c=some x) (hT:T.isTup=false) :
  ∃ F' own' σ' ρ',Inv Gl F' own' B w0 σ' act w∧Sim ρ' ⟨X.t,(frzX X.h (rowsX c)).set id (.box ty' (cs.set o (.d T x)))⟩ σ'∧Frm H0 ρ0 ρ' σ'.h:=by
 have hidl:id < X.h.length:=(List.getElem?_eq_some_iff.1 he).1
 obtain ⟨O,hO,o1,o2,o3,o4,e,o5,hc⟩:=hS.h.hr id _ he
 have hkH:ρ.getD id 0 < σ.h.length:=hS.h.lt hidl
 obtain ⟨a,ha,hva⟩:=hc.get_left ho
 obtain ⟨b,k1,k2,k3,k4⟩:=toD_keep hS.h hx (VA.of1 hva)
 obtain ⟨F1,hF1,hI1,hkp⟩:=hI.freezeL (rowsA a)
 have hu:=Upd.frz _ hS.h k4
 rw [← k3] at hu
 have hni:∀ j ∈ rowsX c,j ≠ id:=fun j hj q=>by
  obtain ⟨ty,T',fz,es,e'⟩:=k4 j hj
  rw [q,he] at e'; cases e'
 have he1:(frzX X.h (rowsX c))[id]?=some (.box ty' cs):=by
  have key:∀ (ids:List Nat) (g:List XO),(∀ j ∈ ids,j ≠ id)→(frzX g ids)[id]?=g[id]?:=by
   intro ids
   induction ids with
   | nil=>intro g _; rfl
   | cons j ids ih =>
    intro g hn
    simp only [frzX,List.foldl_cons]
    have:=fun g=>ih g fun i hi=>hn i (by simp [hi])
    simp only [frzX] at this
    rw [this]
    cases hg:g[j]? with
    | none=>rfl
    | some o=>exact List.getElem?_set_ne (hn j (by simp))
  rw [key _ _ hni]; exact he
 have hO1:(freeze σ.h (rowsA a))[ρ.getD id 0]?=some O:=by
  rw [hu.fr _ hkH (fun j hj hjl q=>hni j hj (hS.h.inj hjl hidl q))]; exact hO
 have hbc:=wp_single k2 hT
 have hI2:=hI1.cellTo hO1 o5 o3 ha (a':=b) (fun en g cs' fr y p1 p2 p3 p4 p5=>by
  rcases hI.objs _ en O p1 hO with ⟨q0,q1,q2,q3,q4,q5,q6,q7,q8⟩ | ⟨_,_,m2,_⟩
  case inr=>rw [o3] at m2; cases m2
  rw [p2] at q8
  obtain ⟨cs2,⟨fr2,r1,_⟩,r2,r3,r4⟩:=q8
  rw [p3] at r1
  cases r1
  obtain ⟨y',s1,s2,s3⟩:=r3 0 o e a (by rw [o5]; rfl) ha
  rw [p4] at s1
  cases s1
  unfold RC at s3
  rw [if_neg (by rw [o3]; simp)] at s3
  exact .pure (keepA_sound hI hF1 s3 k1 hkp).1) hbc
 have hcl:=setC_cells (e:=e) (a:=b) hbc ha
 have hob:ObjS ρ (frzX X.h (rowsX c)) (.box ty' (cs.set o (.d T x))) { O with es:=[setC e o b] }:=by
  refine ⟨o1,by simpa using o2,o3,o4,_,rfl,?_⟩
  rw [hcl]
  refine All2.set ?_ (show V1 ρ (frzX X.h (rowsX c)) (.d T x) b from k2) o
  have:=hu.tr.cells hc
  rw [map_kill_nil] at this
  exact this
 have u3:=Upd.set hu.hs he1 (o':=.box ty' (cs.set o (.d T x))) trivial hob
 have u4:=hu.trans u3 hS.h.rl
 refine ⟨F1,_,_,ρ,hI2,?_,hF.upd hS.h.rl u4⟩
 exact put_ok (X:=X) (kl:=[]) hS.t u4 (v:=.any) (a:=.any) trivial none
theorem pre1_ok {nf:Nat} (hnf:nf=ρ0.length) (hN:w0.N≤H0.length) (hcl:ClH H0.length H0) (hI:Inv Gl F own B w0 σ act w) (hS:Sim ρ X σ) (hF:Frm H0 ρ0 ρ σ.h) (p:Pre):∃ F' own' σ' ρ',Inv Gl F' own' B w0 σ' act w∧Sim ρ' (preX1 nf X p) σ'∧Frm H0 ρ0 ρ' σ'.h:=by
 cases p with
 | gh s ty T =>
  simp only [preX1]
  split
  ·rename_i hk
   split
   ·rename_i hz
    have hz:=blt_t hz
    have hsl:s < X.t.length:=by
     rcases Nat.lt_or_ge s X.t.length with q | q
     ·exact q
     ·simp [List.getD,List.getElem?_eq_none q] at hk
    have hsl':s < σ.t.length:=by rw [← hS.t.1]; exact hsl
    have hv:=vt_get hS.t s
    rw [hk] at hv
    have ha:=vt_k hv
    have hs?:σ.t[s]?=some (.v (.slice none 0 0)):=by
     rw [List.getElem?_eq_getElem hsl']
     simp only [List.getD,List.getElem?_eq_getElem hsl',Option.getD_some] at ha
     rw [ha]
    obtain ⟨own',hI'⟩:=hI.ghost1 (s,ty,T.size)
    have hgh:ghost σ (s,ty,T.size)=⟨σ.t.set s (.row σ.h.length 0 T.size 0 0),σ.h ++ [⟨ty,T.size,0,true,[]⟩]⟩:=by
     simp only [ghost,hs?,hz,if_true]
    rw [hgh] at hI'
    obtain ⟨u1,u2⟩:=new_row (ty:=ty) (ys:=([]:List T.den)) (as:=[]) hS.h rfl .nil
    refine ⟨F,own',_,ρ ++ [σ.h.length],hI',?_,?_⟩
    ·exact put_ok (X:=X) (kl:=[]) hS.t u1 (VT.of1 u2) (some s)
    ·exact hF.upd hS.h.rl u1
   ·exact ⟨F,own,σ,ρ,hI,hS,hF⟩
  ·exact ⟨F,own,σ,ρ,hI,hS,hF⟩
 | fz s T =>
  simp only [preX1]
  split
  ·rename_i x hx
   have hsl:s < X.t.length:=by
    rcases Nat.lt_or_ge s X.t.length with q | q
    ·exact q
    ·rw [show X.t.getD s .any=.any by simp [List.getD,List.getElem?_eq_none q]] at hx
     cases T <;> simp [toD,lst] at hx
   have hsl':s < σ.t.length:=by rw [← hS.t.1]; exact hsl
   have hst:s < act.tmps.size:=by rw [hI.tl]; exact hsl'
   have hv:=vt_get hS.t s
   have hnt:∀ us,X.t.getD s .any ≠ .tup us:=fun us q=>by
    rw [q] at hx
    cases T <;> simp [toD,lst] at hx
   obtain ⟨b,k1,k2,k3,k4⟩:=toD_keep hS.h hx (hv.notup hnt)
   obtain ⟨F1,hF1,hI1,hkp⟩:=hI.freezeL (rowsA (σ.t.getD s .any))
   have hsg:σ.t[s]?=some (σ.t.getD s .any):=by simp [List.getD,List.getElem?_eq_getElem hsl']
   have hR:=hI.tr s _ _ (Array.getElem?_eq_getElem hst) hsg
   obtain ⟨r1,_,_⟩:=keepA_sound hI hF1 hR k1 hkp
   have hI2:=hI1.put (.pure r1) (some s)
   rw [act_self hst] at hI2
   have hu:=Upd.frz _ hS.h k4
   rw [← k3] at hu
   refine ⟨F1,own,_,ρ,hI2,?_,?_⟩
   ·exact put_ok (X:=X) (kl:=[]) hS.t hu (vt_d k2) (some s)
   ·exact hF.upd hS.h.rl hu
  ·exact ⟨F,own,σ,ρ,hI,hS,hF⟩
 | ghc s o ty T =>
  simp only [preX1]
  split
  case h_2=>exact ⟨F,own,σ,ρ,hI,hS,hF⟩
  split
  case h_2=>exact ⟨F,own,σ,ρ,hI,hS,hF⟩
  rename_i he
  split
  case h_2=>exact ⟨F,own,σ,ρ,hI,hS,hF⟩
  rename_i ho
  split
  ·rename_i hz
   exact pre1_ghc hI hS hF he ho (blt_t hz)
  ·exact ⟨F,own,σ,ρ,hI,hS,hF⟩
 | gha s o ty T =>
  simp only [preX1]
  split
  case h_2=>exact ⟨F,own,σ,ρ,hI,hS,hF⟩
  rename_i hk
  split
  case h_2=>exact ⟨F,own,σ,ρ,hI,hS,hF⟩
  rename_i ho
  split
  ·rename_i hz
   exact pre1_gha hI hS hF hk ho (blt_t hz)
  ·exact ⟨F,own,σ,ρ,hI,hS,hF⟩
 | tr s =>
  simp only [preX1]
  split
  case h_2=>exact ⟨F,own,σ,ρ,hI,hS,hF⟩
  rename_i id off len hk
  split
  case h_2=>exact ⟨F,own,σ,ρ,hI,hS,hF⟩
  rename_i ty T fz es he
  split
  ·rename_i hb
   simp only [Bool.and_eq_true,Bool.not_eq_true'] at hb
   have h0:=beq_eq hb.1.1
   have hf:=hb.2
   subst h0 hf
   exact pre1_tr hnf hN hcl hI hS hF hk he (Nat.le_of_ble_eq_true hb.1.2)
  ·exact ⟨F,own,σ,ρ,hI,hS,hF⟩
 | fzc s o T =>
  simp only [preX1]
  split
  case h_2=>exact ⟨F,own,σ,ρ,hI,hS,hF⟩
  split
  case h_2=>exact ⟨F,own,σ,ρ,hI,hS,hF⟩
  rename_i he
  split
  case h_2=>exact ⟨F,own,σ,ρ,hI,hS,hF⟩
  rename_i ho
  split
  case h_2=>exact ⟨F,own,σ,ρ,hI,hS,hF⟩
  rename_i hx
  split
  ·exact ⟨F,own,σ,ρ,hI,hS,hF⟩
  ·rename_i hT
   exact pre1_fzc hI hS hF he ho hx (by simpa using hT)
theorem pre_ok {nf:Nat} (hnf:nf=ρ0.length) (hN:w0.N≤H0.length) (hcl:ClH H0.length H0) (pre:List Pre):∀ {X:XS} {F:Addr→Option Value} {own:List Ent} {σ:St} {ρ:List Nat},Inv Gl F own B w0 σ act w→Sim ρ X σ→Frm H0 ρ0 ρ σ.h→∃ F' own' σ' ρ',Inv Gl F' own' B w0 σ' act w∧Sim ρ' (preX nf pre X) σ'∧Frm H0 ρ0 ρ' σ'.h:=by
 induction pre with
 | nil=>intro X F own σ ρ hI hS hF; exact ⟨F,own,σ,ρ,hI,hS,hF⟩
 | cons p pre ih =>
  intro X F own σ ρ hI hS hF
  obtain ⟨F',own',σ',ρ',a,b,d⟩:=pre1_ok hnf hN hcl hI hS hF p
  exact ih a b d
theorem startsR_ok:∀ (n j:Nat) (l:List Nat),startsR n j l=true→∃ r,l=List.range' j n ++ r:=by
 intro n
 induction n with
 | zero=>intro j l _; exact ⟨l,by simp⟩
 | succ n ih =>
  intro j l h
  cases l with
  | nil=>simp [startsR] at h
  | cons a l =>
   simp only [startsR,Bool.and_eq_true] at h
   have:=beq_eq h.1
   subst this
   obtain ⟨r,rfl⟩:=ih (a + 1) l h.2
   exact ⟨r,by simp [List.range'_succ]⟩
theorem foc_frm {H:List AObj} {foc:List Nat} {nf:Nat} {h:List XO} (hs:HS ρ h H) (hF:Frm H0 ρ0 ρ H) (hnf:nf=ρ0.length) (hst:startsR nf 0 foc=true) (hnd:foc.Nodup) (hlt:∀ id ∈ foc,id < h.length):Frm H0 ρ0 (foc.map fun id=>ρ.getD id 0) H:=by
 subst hnf
 obtain ⟨r,rfl⟩:=startsR_ok _ _ _ hst
 obtain ⟨l,hl,hq⟩:=hF.pre
 refine ⟨⟨r.map fun id=>ρ.getD id 0,?_,fun x hx=>?_⟩,hF.ge,hF.fr⟩
 ·rw [List.map_append]
  congr 1
  apply List.ext_getElem
  ·simp
  ·intro i h1 h2
   simp only [List.length_map,List.length_range'] at h1
   simp only [List.getElem_map,List.getElem_range',Nat.zero_add,Nat.one_mul]
   rw [hl,getD_left h1]
   simp [List.getD,List.getElem?_eq_getElem h1]
 ·obtain ⟨id,hid,rfl⟩:=List.mem_map.1 hx
  have hge:ρ0.length≤id:=by
   rcases Nat.lt_or_ge id ρ0.length with q | q
   ·exfalso
    rw [List.nodup_append] at hnd
    exact hnd.2.2 id (by simp [List.mem_range'_1,q]) id hid rfl
   ·exact q
  have hidl:id < ρ.length:=by rw [hs.rl]; exact hlt id (by simp [hid])
  rw [hl] at hidl ⊢
  simp only [List.length_append] at hidl
  have:(ρ0 ++ l).getD id 0=l[id - ρ0.length]'(by omega):=by
   simp only [List.getD]
   rw [List.getElem?_append_right hge,List.getElem?_eq_getElem (by omega)]; rfl
  rw [this]
  exact hq _ (List.getElem_mem _)
theorem extL_ok {nf:Nat} (hN:w0.N≤H0.length) (hcl:ClH H0.length H0) {pre:List Pre} {sh:Sh} {s:Ty.denL sh.tys} (hI:Inv Gl F own B w0 σ act w) (hS:Sim ρ X σ) (hF:Frm H0 ρ0 ρ σ.h) (hnf:nf=ρ0.length) (hx:extL nf pre sh X=some s):∃ F' own' σ' ρ',Inv Gl F' own' B w0 σ' act w∧Sim ρ' (emb sh s) σ'∧Frm H0 ρ0 ρ' σ'.h:=by
 obtain ⟨F',own',σ',ρ',hI',hS',hF'⟩:=pre_ok hnf hN hcl pre hI hS hF
 unfold extL at hx
 split at hx
 ·rename_i foc x he
  split at hx
  ·rename_i hb
   cases hx
   simp only [Bool.and_eq_true] at hb
   have hn:(preX nf pre X).t.length=sh.n:=by
    have h1:=beq_eq hb.2
    rw [← h1,hS'.t.1,hS.t.1,← hI'.tl,← hI.tl]
   obtain ⟨e1,e2,e3,e4⟩:=ext_sim hS'.t hS'.h hn he
   exact ⟨F',own',σ',_,hI',e1,foc_frm hS'.h hF' hnf hb.1 e4 e2⟩
  ·cases hx
 ·cases hx
def Std {β:Type} (H0:List AObj) (ρ0:List Nat) (K:Exit→XS→Option β) (r:β) (e:Exit) (τ:St):Prop:=∃ ρ' X',Sim ρ' X' τ∧Frm H0 ρ0 ρ' τ.h∧K e X'=some r
theorem spltN_some {β:Type} {f:XS→Option β} {s:Nat} {k:IntKind} {m:Int} {X:XS} {r:β} (h:X.t.getD s .any=.d (.int k) m):∀ ns:List Int,spltN f s k m X ns=some r→f X=some r
 | [],hx=>by cases hx
 | n :: ns,hx=>by
  unfold spltN at hx
  by_cases hm:iEq m n=true
  ·rw [hm] at hx
   have hm:m=n:=by simpa [iEq] using hm
   subst hm
   have hs:s < X.t.length:=by
    rcases Nat.lt_or_ge s X.t.length with q | q
    ·exact q
    ·simp [List.getD,List.getElem?_eq_none q] at h
   have:X.t.set s (.d (.int k) m)=X.t:=by
    apply List.ext_getElem?
    intro j
    rw [List.getElem?_set]
    split
    ·rename_i hj
     subst hj
     have h2:X.t[s]?=some (X.t.getD s .any):=by simp [List.getD,List.getElem?_eq_getElem hs]
     exact (h2.trans (congrArg some h)).symm
    ·rfl
   rw [this] at hx
   exact hx
  ·rw [Bool.not_eq_true] at hm
   rw [hm] at hx
   exact spltN_some h ns hx
theorem top_ex {nf:Nat} {oc:Option C} {β:Type} {K:Exit→XS→Option β} {r:β} {X:XS}:∀ {xc:XC},oc=some xc.er→xwp c nf xc β K X=some r→∃ xc':XC,oc=some xc'.er∧xwp c nf xc' β K X=some r∧∀ s k ns b,xc' ≠ .splt s k ns b:=by
 intro xc
 induction xc with
 | splt s k ns b ih =>
  intro h1 h2
  simp only [xwp] at h2
  split at h2
  ·rename_i k' m hm
   split at h2
   ·rename_i hk
    have hk:=of_decide_eq_true hk
    subst hk
    exact ih h1 (spltN_some hm _ h2)
   ·cases h2
  ·cases h2
 | _=>intro h1 h2; exact ⟨_,h1,h2,fun s k ns b q=>by cases q⟩
theorem xwp_soundN (hc:CfgOk P c) (hm:P.follows .mixedOrders=true) {hl0:List Nat} {N nf:Nat} (hN:w0.N=N) (hN0:w0.N≤H0.length) (hcl:ClH H0.length H0) (hnf:nf=ρ0.length):∀ (code:Code) (xc:XC),cC P hl0 code=some xc.er→∀ (β:Type) (K:Exit→XS→Option β) (r:β) (X:XS) (ρ:List Nat) (σ:St) (F:Addr→Option Value) (own:List Ent) (act:Act) (w:World),
  xwp c nf xc β K X=some r→Sim ρ X σ→Frm H0 ρ0 ρ σ.h→Inv (gx c.GX) F own B w0 σ act w→code.wp P (fun e a w=>NG e∧Some' (gx c.GX) B w0 (Std H0 ρ0 K r e) a w) act w:=by
 intro code
 induction code with
 | skip =>
  intro xc hcc β K r X ρ σ F own act w hx hS hF hI
  obtain ⟨xc,hcc,hx,hnt⟩:=top_ex hcc hx
  cases xc <;> first | exact (hnt _ _ _ _ rfl).elim | simp only [cC,XC.er,Option.some.injEq,reduceCtorEq] at hcc
  exact wp_skip ⟨ng_normal,F,own,σ,hI,ρ,X,hS,hF,hx⟩
 | region id ops draw =>
  intro xc hcc β K r X ρ σ F own act w hx hS hF hI
  obtain ⟨xc,hcc,hx,hnt⟩:=top_ex hcc hx
  refine awp_soundN hm hN _ _ hcc _ σ F own act w ?_ hI
  have hsp:SpR ρ X.h σ []:=fun q hq=>by simp at hq
  cases xc with
  | ops d l=>exact xops_ok hc l X [] ρ σ hS hsp hF hx
  | rops U l =>
   refine ⟨(U.filter fun j=>Nat.blt j X.h.length).map fun j=>ρ.getD j 0,xopsR_ok (m:=X.h.length) (N:=σ.h.length) (U:=U) hc l X [] ρ σ hS hsp hF (fun i hi hi'=>⟨hS.h.lt hi,fun q=>?_,fun q=>List.mem_map.2 ⟨i,List.mem_filter.2 ⟨q,Nat.ble_eq_true_of_le hi⟩,rfl⟩⟩) (fun i hi hi'=>by rw [hS.h.rl] at hi'; omega) (Nat.le_refl _) (Nat.le_refl _) hx⟩
   obtain ⟨j,hj,he⟩:=List.mem_map.1 q
   obtain ⟨h1,h2⟩:=List.mem_filter.1 hj
   have:=getD_inj hS.h.nd (by rw [hS.h.rl]; exact blt_t h2) hi' he
   subst this; exact h1
  | splt s k ns b=>exact (hnt s k ns b rfl).elim
  | _ =>
   exfalso
   cases draw with
   | false =>
    simp only [cC,XC.er] at hcc
    rw [Option.map_eq_some_iff] at hcc
    obtain ⟨_,_,q⟩:=hcc
    cases q
   | true =>
    simp only [cC,XC.er] at hcc
    repeat' (split at hcc)
    all_goals cases hcc
 | seq a b iha ihb =>
  intro xc hcc β K r X ρ σ F own act w hx hS hF hI
  obtain ⟨xc,hcc,hx,hnt⟩:=top_ex hcc hx
  simp only [cC] at hcc
  split at hcc
  ·rename_i x y hxa hyb
   cases xc <;> first | exact (hnt _ _ _ _ rfl).elim | simp only [XC.er,Option.some.injEq,reduceCtorEq,C.seq.injEq] at hcc
   case seq xa xb =>
    obtain ⟨rfl,rfl⟩:=hcc
    refine wp_seq (wp_mono (iha xa hxa β _ r X ρ σ F own act w hx hS hF hI) ?_)
    rintro e a1 w1 ⟨ng,F1,own1,τ,hI1,ρ1,X1,hS1,hF1,hK⟩
    cases e with
    | normal=>exact ihb xb hyb β K r X1 ρ1 τ F1 own1 a1 w1 hK hS1 hF1 hI1
    | _=>exact ⟨ng,F1,own1,τ,hI1,ρ1,X1,hS1,hF1,hK⟩
   case seqj pre sh xa xb =>
    obtain ⟨rfl,rfl⟩:=hcc
    simp only [xwp] at hx
    generalize hA:xwp c nf xa (Ty.denL sh.tys ⊕ β) (fun e Y=>match e with
     | .normal=>match extL nf pre sh Y with
      | some s'=>some (.inl s')
      | none=>none
     | e=>Option.map Sum.inr (K e Y)) X=oA at hx
    unfold joinO at hx
    split at hx
    ·rename_i s0
     refine wp_seq (wp_mono (iha xa hxa _ _ _ X ρ σ F own act w hA hS hF hI) ?_)
     rintro e a1 w1 ⟨ng,F1,own1,τ,hI1,ρ1,X1,hS1,hF1,hK⟩
     cases e with
     | normal =>
      simp only at hK
      split at hK
      ·rename_i s2 hs2
       cases hK
       obtain ⟨F2,own2,σ2,ρ2,hI2,hS2,hF2⟩:=extL_ok hN0 hcl hI1 hS1 hF1 hnf hs2
       exact ihb xb hyb β K r _ ρ2 σ2 F2 own2 a1 w1 hx hS2 hF2 hI2
      ·cases hK
     | _ =>
      simp only [Option.map_eq_some_iff] at hK
      obtain ⟨_,_,q⟩:=hK
      cases q
    ·rename_i r0
     cases hx
     refine wp_seq (wp_mono (iha xa hxa _ _ _ X ρ σ F own act w hA hS hF hI) ?_)
     rintro e a1 w1 ⟨ng,F1,own1,τ,hI1,ρ1,X1,hS1,hF1,hK⟩
     cases e with
     | normal =>
      simp only at hK
      split at hK <;> cases hK
     | _ =>
      simp only [Option.map_eq_some_iff] at hK
      obtain ⟨r2,hr2,q⟩:=hK
      cases q
      exact ⟨ng,F1,own1,τ,hI1,ρ1,X1,hS1,hF1,hr2⟩
    ·cases hx
  ·cases hcc
 | cond c0 a b iha ihb =>
  intro xc hcc β K r X ρ σ F own act w hx hS hF hI
  obtain ⟨xc,hcc,hx,hnt⟩:=top_ex hcc hx
  simp only [cC] at hcc
  split at hcc
  ·rename_i x y hxa hyb
   cases xc <;> first | exact (hnt _ _ _ _ rfl).elim | simp only [XC.er,Option.some.injEq,reduceCtorEq,C.cond.injEq] at hcc
   rename_i o xa xb
   obtain ⟨rfl,rfl,rfl⟩:=hcc
   simp only [xwp] at hx
   have hv:=rdG_ok (c:=c) hS (cOpd c0)
   split at hx
   case h_2=>cases hx
   rename_i t ht
   rw [ht] at hv
   have hva:=vt_bool hv
   have he:=hI.ev c0
   rw [hva] at he
   refine wp_cond he.v_inv ?_
   have lit:∀ v:Bool,St.val (gx c.GX) σ (cOpd c0)=.v (.bool v)→Sim ρ (litX (cOpd c0) v X) σ:=by
    intro v hv
    unfold litX
    split
    ·rename_i i hi
     rw [hi] at hv
     exact ⟨same_set hS.t hv,hS.h⟩
    ·exact hS
   have key:∀ v:Bool,St.val (gx c.GX) σ (cOpd c0)=.v (.bool v)→cond v (xwp c nf xa β K (litX (cOpd c0) true X)) (xwp c nf xb β K (litX (cOpd c0) false X))=some r→Code.wp P (if v=true then a else b) (fun e a w=>NG e∧Some' (gx c.GX) B w0 (Std H0 ρ0 K r e) a w) act w:=by
    intro v hv hx
    cases v with
    | true=>simp only [if_true]; exact iha xa hxa β K r _ ρ σ F own act w hx (lit true hv) hF hI
    | false=>simp only [Bool.false_eq_true,if_false]; exact ihb xb hyb β K r _ ρ σ F own act w hx (lit false hv) hF hI
   exact key t hva hx
  ·cases hcc
 | block id b ih =>
  intro xc hcc β K r X ρ σ F own act w hx hS hF hI
  obtain ⟨xc,hcc,hx,hnt⟩:=top_ex hcc hx
  simp only [cC] at hcc
  cases hb:cC P hl0 b with
  | none=>rw [hb] at hcc; cases hcc
  | some x =>
   rw [hb] at hcc
   cases xc <;> first | exact (hnt _ _ _ _ rfl).elim | simp only [XC.er,Option.map_some,Option.some.injEq,reduceCtorEq,C.block.injEq] at hcc
   rename_i id' xb
   obtain ⟨rfl,rfl⟩:=hcc
   refine wp_block (wp_mono (ih xb hb β _ r X ρ σ F own act w hx hS hF hI) ?_)
   rintro e a1 w1 ⟨ng,F1,own1,τ,hI1,ρ1,X1,hS1,hF1,hK⟩
   cases e with
   | exit i =>
    simp only at hK
    simp only [Exit.inBlock]
    by_cases hi:i=id
    ·rw [if_pos (by rw [hi]; simp)] at hK
     rw [if_pos hi]
     exact ⟨ng_normal,F1,own1,τ,hI1,ρ1,X1,hS1,hF1,hK⟩
    ·rw [if_neg (fun q=>hi (beq_eq q))] at hK
     rw [if_neg hi]
     exact ⟨ng_exit _,F1,own1,τ,hI1,ρ1,X1,hS1,hF1,hK⟩
   | _=>exact ⟨ng,F1,own1,τ,hI1,ρ1,X1,hS1,hF1,hK⟩
 | loop b ih =>
  intro xc hcc β K r X ρ σ F own act w hx hS hF hI
  obtain ⟨xc,hcc,hx,hnt⟩:=top_ex hcc hx
  simp only [cC] at hcc
  cases hb:cC P hl0 b with
  | none=>rw [hb] at hcc; cases hcc
  | some x =>
   rw [hb] at hcc
   cases xc <;> first | exact (hnt _ _ _ _ rfl).elim | simp only [XC.er,Option.map_some,Option.some.injEq,reduceCtorEq,C.loop.injEq] at hcc
   case loop pre sh xb =>
    subst hcc
    simp only [xwp] at hx
    split at hx
    case h_2=>cases hx
    rename_i s0 hs0
    obtain ⟨F0,own0,σ0,ρ0',hI0,hS0,hF0⟩:=extL_ok hN0 hcl hI hS hF hnf hs0
    obtain ⟨n,hn⟩:=loopO_some.1 hx
    have key:∀ (n:Nat) (s:Ty.denL sh.tys) (ρ:List Nat) (σ:St) (F:Addr→Option Value) (own:List Ent) (act:Act) (w:World),runO (fun s=>xwp c nf xb (Ty.denL sh.tys ⊕ β) (fun e Y=>match e with
      | .normal=>match extL nf pre sh Y with
       | some s'=>some (.inl s')
       | none=>none
      | e=>Option.map Sum.inr (K e Y)) (emb sh s)) n s=some r→Sim ρ (emb sh s) σ→Frm H0 ρ0 ρ σ.h→Inv (gx c.GX) F own B w0 σ act w→Code.rounds P b (fun e a w=>NG e∧Some' (gx c.GX) B w0 (Std H0 ρ0 K r e) a w) n act w:=by
     intro n
     induction n with
     | zero=>intro s ρ σ F own act w hr; cases hr
     | succ n ihn =>
      intro s ρ σ F own act w hr hS hF hI
      simp only [runO] at hr
      rw [rounds_succ]
      split at hr
      ·rename_i s' hs'
       refine wp_mono (ih xb hb _ _ _ _ ρ σ F own act w hs' hS hF hI) ?_
       rintro e a1 w1 ⟨ng,F1,own1,τ,hI1,ρ1,X1,hS1,hF1,hK⟩
       cases e with
       | normal =>
        simp only at hK
        split at hK
        ·rename_i s2 hs2
         cases hK
         obtain ⟨F2,own2,σ2,ρ2,hI2,hS2,hF2⟩:=extL_ok hN0 hcl hI1 hS1 hF1 hnf hs2
         exact ihn s' ρ2 σ2 F2 own2 a1 w1 hr hS2 hF2 hI2
        ·cases hK
       | _ =>
        simp only [Option.map_eq_some_iff] at hK
        obtain ⟨_,_,q⟩:=hK
        cases q
      ·rename_i r' hs'
       cases hr
       refine wp_mono (ih xb hb _ _ _ _ ρ σ F own act w hs' hS hF hI) ?_
       rintro e a1 w1 ⟨ng,F1,own1,τ,hI1,ρ1,X1,hS1,hF1,hK⟩
       cases e with
       | normal =>
        simp only at hK
        split at hK <;> cases hK
       | _ =>
        simp only [Option.map_eq_some_iff] at hK
        obtain ⟨r2,hr2,q⟩:=hK
        cases q
        exact ⟨ng,F1,own1,τ,hI1,ρ1,X1,hS1,hF1,hr2⟩
      ·cases hr
    exact wp_loop_rounds n (key n s0 ρ0' σ0 F0 own0 act w hn hS0 hF0 hI0)
   case loopU n xb =>
    subst hcc
    simp only [xwp] at hx
    have key:∀ (n:Nat) (X:XS) (ρ:List Nat) (σ:St) (F:Addr→Option Value) (own:List Ent) (act:Act) (w:World),unrollN (fun k Y=>xwp c nf xb β (fun e Z=>match e with | .normal=>k Z | e=>K e Z) Y) n X=some r→Sim ρ X σ→Frm H0 ρ0 ρ σ.h→Inv (gx c.GX) F own B w0 σ act w→Code.rounds P b (fun e a w=>NG e∧Some' (gx c.GX) B w0 (Std H0 ρ0 K r e) a w) n act w:=by
     intro n
     induction n with
     | zero=>intro X ρ σ F own act w hr; cases hr
     | succ n ihn =>
      intro X ρ σ F own act w hr hS hF hI
      simp only [unrollN] at hr
      rw [rounds_succ]
      refine wp_mono (ih xb hb _ _ _ _ ρ σ F own act w hr hS hF hI) ?_
      rintro e a1 w1 ⟨ng,F1,own1,τ,hI1,ρ1,X1,hS1,hF1,hK⟩
      cases e with
      | normal=>exact ihn X1 ρ1 τ F1 own1 a1 w1 hK hS1 hF1 hI1
      | _=>exact ⟨ng,F1,own1,τ,hI1,ρ1,X1,hS1,hF1,hK⟩
    exact wp_loop_rounds n (key n X ρ σ F own act w hx hS hF hI)
 | exit id =>
  intro xc hcc β K r X ρ σ F own act w hx hS hF hI
  obtain ⟨xc,hcc,hx,hnt⟩:=top_ex hcc hx
  cases xc <;> first | exact (hnt _ _ _ _ rfl).elim | simp only [cC,XC.er,Option.some.injEq,reduceCtorEq,C.exit.injEq] at hcc
  subst hcc
  exact wp_exit ⟨ng_exit _,F,own,σ,hI,ρ,X,hS,hF,hx⟩
 | ret =>
  intro xc hcc β K r X ρ σ F own act w hx hS hF hI
  obtain ⟨xc,hcc,hx,hnt⟩:=top_ex hcc hx
  cases xc <;> first | exact (hnt _ _ _ _ rfl).elim | simp only [cC,XC.er,Option.some.injEq,reduceCtorEq] at hcc
  exact wp_ret ⟨ng_ret,F,own,σ,hI,ρ,X,hS,hF,hx⟩
 | label l =>
  intro xc hcc β K r X ρ σ F own act w hx hS hF hI
  obtain ⟨xc,hcc,hx,hnt⟩:=top_ex hcc hx
  cases xc <;> first | exact (hnt _ _ _ _ rfl).elim | simp only [cC,XC.er,Option.some.injEq,reduceCtorEq] at hcc
  exact wp_label ⟨ng_normal,F,own,σ,hI,ρ,X,hS,hF,hx⟩
 | scope b ih =>
  intro xc hcc β K r X ρ σ F own act w hx hS hF hI
  obtain ⟨xc,hcc,hx,hnt⟩:=top_ex hcc hx
  refine wp_scope_straight (wp_mono (ih xc hcc β K r X ρ σ F own act w hx hS hF hI) ?_)
  rintro e a1 w1 ⟨ng,hK⟩
  cases e with
  | goto l=>exact absurd rfl (ng l)
  | _=>exact ⟨ng,hK⟩
 | _=>intro xc hcc; cases hcc
theorem xwp_sound (hc:CfgOk P c) (hm:P.follows .mixedOrders=true) {hl0:List Nat} {N nf:Nat} (hN:w0.N=N) (hN0:w0.N≤H0.length) (hcl:ClH H0.length H0) (hnf:nf=ρ0.length):∀ (code:Code) (xc:XC),cC P hl0 code=some xc.er→∀ (β:Type) (K:Exit→XS→Option β) (r:β) (X:XS) (ρ:List Nat) (σ:St) (F:Addr→Option Value) (own:List Ent) (act:Act) (w:World),
  xwp c nf xc β K X=some r→Sim ρ X σ→Frm H0 ρ0 ρ σ.h→Inv (gx c.GX) F own B w0 σ act w→code.wp P (fun e a w=>Some' (gx c.GX) B w0 (Std H0 ρ0 K r e) a w) act w:=by
 intro code xc hcc β K r X ρ σ F own act w hx hS hF hI
 exact wp_mono (xwp_soundN hc hm hN hN0 hcl hnf code xc hcc β K r X ρ σ F own act w hx hS hF hI) fun e a w h=>h.2
end
end
end Abs
end Go.Proofs.YtnhgeocdffhkjaaGreatDoor
