/- Merged and trimmed by a program: D18. -/
import Derived.Test.YtgfnhpadmifiiaaDoorZCH
set_option linter.unusedVariables false
set_option linter.unusedSimpArgs false
namespace Go.Proofs.YtgfnhpadmifiiaaDoor
namespace Abs
theorem sumS_swap (f:Nat→Nat→Int) (m:Nat):∀ n,sumS (fun u=>sumS (fun k=>f u k) m) n=sumS (fun k=>sumS (fun u=>f u k) n) m:=by
 intro n
 induction n with
 | zero =>
  simp only [sumS]
  have:∀ m,sumS (fun _=>(0:Int)) m=0:=by
   intro m
   induction m with
   | zero=>rfl
   | succ m ih=>simp only [sumS]; omega
  rw [this]
 | succ n ih =>
  simp only [sumS]
  rw [ih,sumS_plus]
theorem prodW_split (dm:List DS3) (b:Nat) (hb:b≤dm.length):∀ n a,a + n=b→prodW dm a dm.length=prodW dm a b * prodW dm b dm.length:=by
  intro n
  induction n with
  | zero => intro a h; have : a = b := by omega
            subst this; rw [prodW_same,Int.one_mul]
  | succ n ih =>
    intro a h
    rw [prodW_step (a:=a) (b:=dm.length) (by omega) (Nat.le_refl _),prodW_step (a:=a) (b:=b) (by omega) hb,ih (a + 1) (by omega),Int.mul_assoc]
theorem tele (dm:List DS3) (x:DS1):∀ n,sumS (fun k=>hiK dm x k - loK dm x k) (n + 1)=hiK dm x n - (dm.getD x.1.toNat zS).1:=by
 intro n
 induction n with
 | zero=>simp [sumS,loK]
 | succ n ih =>
  rw [sumS,ih]
  have:loK dm x (n + 1)=hiK dm x n:=by unfold loK; rw [if_neg (by omega),Nat.add_sub_cancel]
  rw [this]; omega
theorem cnt_total {dm:List DS3} {ns:List DS1} (hd:DmOk dm) (hs:AllS dm ns) (hlo:∀ x ∈ ns,∀ c ∈ x.2.2.1,-4≤c):∀ (f:Nat) (r:Int) (a:Nat),rkI (rkA ns) r < f→RefOk ns.length r→-4≤r→a≤lvl dm ns r→sumS (fun u=>cntE dm ns (u:Int) f r a) 4=prodW dm a dm.length:=by
 intro f
 induction f with
 | zero=>intro r a h; omega
 | succ f ih =>
  intro r a h hr h4 ha
  rcases Int.lt_or_le r 0 with q | q
  ·have:r=-1∨r=-2∨r=-3∨r=-4:=by omega
   simp only [cntE_leaf dm ns _ f q]
   rcases this with rfl | rfl | rfl | rfl <;> simp [sumS]
  ·have hrt:r.toNat < ns.length:=by have:=hr.2; omega
   have hsr:=hs r.toNat hrt
   have hkl:(kids ns r.toNat).length=(ns.getD r.toNat zN).2.1.length + 1:=hsr.2.2.2.1
   have e:lvl dm ns r=(ns.getD r.toNat zN).1.toNat:=by unfold lvl; rw [if_neg (by omega)]
   have h1:=hsr.1
   have h2:=hsr.2.1
   simp only [cntE_node dm ns _ f q]
   rw [sumS_mulR]
   have et:sumS (fun u=>totE dm ns (u:Int) f r.toNat) 4=prodW dm ((ns.getD r.toNat zN).1.toNat + 1) dm.length * wid (dm.getD (ns.getD r.toNat zN).1.toNat zS):=by
    unfold totE
    rw [sumS_swap]
    have e1:sumS (fun k=>sumS (fun u=>cntE dm ns (u:Int) f ((kids ns r.toNat).getD k 0) ((ns.getD r.toNat zN).1.toNat + 1) * (hiK dm (ns.getD r.toNat zN) k - loK dm (ns.getD r.toNat zN) k)) 4) (kids ns r.toNat).length=sumS (fun k=>prodW dm ((ns.getD r.toNat zN).1.toNat + 1) dm.length * (hiK dm (ns.getD r.toNat zN) k - loK dm (ns.getD r.toNat zN) k)) (kids ns r.toNat).length:=by
     refine sumS_congr _ fun k hk=>?_
     rw [sumS_mulR]
     congr 1
     have hrk:=kid_rk hd hs hrt hk
     unfold rkI at h
     rw [if_neg (by omega)] at h
     refine ih _ _ (by omega) (kid_ref hs hrt hk) ?_ (lvl_kid hd hs hrt hk)
     rw [getD_eq _ _ _ hk]
     exact hlo (ns.getD r.toNat zN) (by rw [getD_eq _ _ _ hrt]; exact List.getElem_mem hrt) _ (List.getElem_mem hk)
    rw [e1,sumS_mulL,hkl,tele]
    congr 1
    unfold hiK wid
    rw [if_neg (by omega)]; omega
   rw [et,prodW_split dm (ns.getD r.toNat zN).1.toNat (by omega) _ a (by omega:a + ((ns.getD r.toNat zN).1.toNat - a)=_),prodW_step (a:=(ns.getD r.toNat zN).1.toNat) (b:=dm.length) (by omega) (Nat.le_refl _),Int.mul_comm (prodW dm ((ns.getD r.toNat zN).1.toNat + 1) dm.length),Int.mul_comm]
theorem cnt_out {dm:List DS3} {ns:List DS1} {leaf:Int} (hs:AllS dm ns) (hl:leaf < 0∨255 < leaf):∀ (f:Nat) (r:Int) (a:Nat),RefOk ns.length r→cntE dm ns leaf f r a=0:=by
 intro f
 induction f with
 | zero=>intro r a _; rfl
 | succ f ih =>
  intro r a hr
  rcases Int.lt_or_le r 0 with q | q
  ·rw [cntE_leaf _ _ _ _ q,if_neg (by have:=hr.1; omega)]
  ·rw [cntE_node _ _ _ _ q]
   have hrt:r.toNat < ns.length:=by have:=hr.2; omega
   have:totE dm ns leaf f r.toNat=0:=by
    unfold totE
    have z:∀ n,n≤(kids ns r.toNat).length→sumS (fun k=>cntE dm ns leaf f ((kids ns r.toNat).getD k 0) ((ns.getD r.toNat zN).1.toNat + 1) * (hiK dm (ns.getD r.toNat zN) k - loK dm (ns.getD r.toNat zN) k)) n=0:=by
     intro n
     induction n with
     | zero=>intro _; rfl
     | succ n ihn=>intro hn; simp only [sumS]; rw [ihn (by omega),ih _ _ (kid_ref hs hrt (by omega)),Int.zero_mul]; rfl
    exact z _ (Nat.le_refl _)
   rw [this,Int.zero_mul]
theorem prodW_snoc {dm:List DS3} {i:Nat} (h:i < dm.length):prodW dm 0 (i + 1)=prodW dm 0 i * wid (dm.getD i zS):=by
 unfold prodW
 rw [List.drop_zero,List.drop_zero,List.take_succ_eq_append_getElem h,List.foldl_append,getD_eq _ _ _ h]; rfl
theorem all_m (l:List DS0) (hv:valS l=0):m28 (l,())=some (sat (prodW (doms l) 0 (doms l).length),()):=by
 refine T.eq ?_
 unfold m28
 have hd:=doms_ok hv
 have hdl:=doms_len l
 have hL:=lenI_eq l
 have vo:=val_ok hv
 refine T.callE (val_r _) (T.cf (by rw [iNe_F]; exact hv) ?_)
 refine T.loop (fun q=>∃ i:Nat,i≤l.length∧q=(sat (prodW (doms l) 0 i),(i:Int),l,())) (fun q=>l.length - q.2.1.toNat) ⟨0,by omega,?_⟩ ?_
 ·rw [prodW_same]; rfl
 rintro _ ⟨i,hi,rfl⟩
 dsimp only
 rw [hL]
 refine T.cnd (fun hc=>?_) (fun hc=>?_) <;> simp only [iLt_T,iLt_F] at hc
 ·have hil:i < l.length:=by omega
  have hdt:=doms_get l i hil
  have hb:=hd.at (i:=i) (by omega)
  have hp:=prodW_pos hd 0 i
  have ew:iAdd .i64 (iSub .i64 (domS l[i]).2 (domS l[i]).1) 1=wid ((doms l).getD i zS):=by
   have e1:(domS l[i]).2=((doms l).getD i zS).2.1:=by rw [hdt]
   have e2:(domS l[i]).1=((doms l).getD i zS).1:=by rw [hdt]
   rw [e1,e2,iSub64 (by omega) (by omega),iAdd64 (by omega) (by omega)]; rfl
  refine T.callE (dom_r l i hil hv) ?_
  dsimp only
  rw [ew]
  have hw:1≤wid ((doms l).getD i zS)∧wid ((doms l).getD i zS)≤2000000001:=by unfold wid; omega
  refine T.callE (times_r (sat_nn (by omega)) ⟨by omega,by omega⟩) (T.go ⟨i + 1,by omega,?_⟩ (by dsimp only; rw [iAdd64 (by omega) (by omega)]; omega))
  rw [sat_mul (by omega) (by omega),prodW_snoc (by omega),iAdd64 (by omega) (by omega)]; rfl
 ·obtain rfl:i=l.length:=by omega
  exact T.out (by rw [hdl])
theorem cells_e {g:List (List Int)} (hl:g.length≤6) (hp:∀ r ∈ g,1≤r.length∧r.length≤2000000001) (hc:prodL g≤8192):m47 g=some ((prodL g:Int),()):=cells_m g hl (fun r hr=>(hp r hr).1) hc
theorem count_r (l:List DS0) (hv:valS l=0) (ns:List DS1) (root:Int) (hV:VD (doms l) ns root) (g:List (List Int)) (hg:GOk (doms l) g) (hh:Has ns ns.length g) (hc:prodL g≤8192) (he:m49 (l,()) ((doms l).map fun d=>[d.1]) (ns,root,())=some (g,())) (leaf:Int) :
  m27 (l,()) (ns,root,()) leaf=some (sat (cntE (doms l) ns leaf 9 root 0),()):=by
 refine T.eq ?_
 unfold m27
 have hd:=doms_ok hv
 have hd2:=hd.2.1
 have hgd:=hg.1
 have hs:=hV.alls
 have hlen:=hg.len hd
 have hcm:=cells_e (by omega) hlen hc
 have hsum:=cells_sum (leaf:=leaf) hd hs hg hh (doms l).length 0 [] root (by omega) rfl (by omega) hV.2.1
 rw [List.drop_zero] at hsum
 refine T.callE (starts_m l hv) (T.callE he ?_)
 dsimp only
 have wn:∀ k,1≤widS (doms l) 0 g k:=fun k=>widS_nn hd g 0 (by omega) (fun t ht=>by rw [Nat.zero_add]; exact hg.2 t (by omega)) k
 have tn:∀ k,0≤(if vlF ns 9 root ([] ++ atS g k)=leaf then widS (doms l) 0 g k else 0):=fun k=>by split; have:=wn k; omega; omega
 refine T.loop (fun q=>∃ k:Nat,k≤prodL g∧q=(leaf,g,sat (sumS (fun k=>if vlF ns 9 root ([] ++ atS g k)=leaf then widS (doms l) 0 g k else 0) k),(k:Int),l,ns,root,())) (fun q=>prodL g - q.2.2.2.1.toNat) ⟨0,by omega,rfl⟩ ?_
 rintro _ ⟨k,hk,rfl⟩
 dsimp only
 refine T.callE hcm (T.cnd (fun hc2=>?_) (fun hc2=>?_)) <;> simp only [iLt_T,iLt_F] at hc2
 ·refine T.callE (at_m g (by omega) hlen k (by omega)) (T.callE (val_T hd hs root hV.2.1 hV.1 _ (by rw [atS_len]; exact hgd)) ?_)
  have hsn:=sumS_nn (g:=fun k=>if vlF ns 9 root ([] ++ atS g k)=leaf then widS (doms l) 0 g k else 0) k (fun j _=>tn j)
  refine T.cnd (fun hc3=>?_) (fun hc3=>?_) <;> simp only [iEq_T,iEq_F] at hc3
  ·refine T.callE (width_m l hv g hg k (by omega)) (T.go ⟨k + 1,by omega,?_⟩ (by dsimp only; rw [iAdd64 (by omega) (by omega)]; omega))
   have hw:=wn k
   have b1:=sat_nn hsn
   have b2:=sat_nn (show 0≤widS (doms l) 0 g k by omega)
   rw [iAdd64 (by omega) (by omega),iAdd64 (by omega) (by omega)]
   have e1:sumS (fun k=>if vlF ns 9 root ([] ++ atS g k)=leaf then widS (doms l) 0 g k else 0) (k + 1)=sumS (fun k=>if vlF ns 9 root ([] ++ atS g k)=leaf then widS (doms l) 0 g k else 0) k + widS (doms l) 0 g k:=by
    rw [sumS]
    congr 1
    exact if_pos hc3
   rw [e1,← sat_add hsn (by omega)]
   unfold iMin
   rfl
  ·refine T.go ⟨k + 1,by omega,?_⟩ (by dsimp only; rw [iAdd64 (by omega) (by omega)]; omega)
   have e1:sumS (fun k=>if vlF ns 9 root ([] ++ atS g k)=leaf then widS (doms l) 0 g k else 0) (k + 1)=sumS (fun k=>if vlF ns 9 root ([] ++ atS g k)=leaf then widS (doms l) 0 g k else 0) k:=by
    rw [sumS]
    have:(if vlF ns 9 root ([] ++ atS g k)=leaf then widS (doms l) 0 g k else 0)=0:=if_neg hc3
    rw [this,Int.add_zero]
   rw [e1,iAdd64 (by omega) (by omega)]; rfl
 ·obtain rfl:k=prodL g:=by omega
  refine T.out ?_
  rw [hsum]
theorem few_T (l:List DS0) (hv:valS l=0) (ns:List DS1) (root:Int) (hV:VD (doms l) ns root):∃ g,GOk (doms l) g∧Has ns ns.length g∧m49 (l,()) ((doms l).map fun d=>[d.1]) (ns,root,())=some (g,())∧T (m20 (l,()) (ns,root,()) (ns,root,())) (fun y=>y.1=true→prodL g≤8192):=by
 have hd:=doms_ok hv
 have hd2:=hd.2.1
 obtain ⟨⟨g1,⟨⟩⟩,e1,a1,a2,a3⟩:=cutdia_T l hv _ (starts_ok hd).1 ns root hV.alls hV.1
 obtain ⟨⟨g2,⟨⟩⟩,e2,b1,b2,b3⟩:=cutdia_T l hv g1 a1 ns root hV.alls hV.1
 dsimp only at a1 a2 a3 b1 b2 b3
 refine ⟨g1,a1,a3,e1,?_⟩
 unfold m20
 refine T.callE (starts_m l hv) (T.callE e1 (T.callE e2 (T.call (cells_T g2 (by have:=b1.1; omega) (b1.len hd)) ?_)))
 rintro ⟨y,⟨⟩⟩ ⟨c1,c2⟩
 refine T.ret (fun h=>?_)
 dsimp only at h c1 c2
 rw [iLe_T] at h
 have h1:=c1 h
 have h2:=prod_mono g1 g2 b2.1 (fun a=>(b2.2 a).2)
 omega
theorem law_count (k:Int) (L:List Int) (leaf:Int) (hk:I64 k) (h1:DeckOk L 0) (hlf:I64 leaf):m5 k L leaf=some (true,()):=by
 refine T.eq ?_
 unfold m5
 obtain ⟨j,hj,e⟩:=sch_m k hk
 have hv:=sch_val j hj
 refine T.callE e ?_
 dsimp only
 generalize sch j=l at hv
 have hd:=doms_ok hv
 refine T.callE (show m19 L=some (L,0,()) from rfl) (T.call (made_T l hv 4 (by omega) (by omega) h1) ?_)
 rintro ⟨ns,root,K,a,⟨⟩⟩ ⟨hV,hlo,hlr,_⟩
 dsimp only at hV hlo hlr ⊢
 have hs:=hV.alls
 obtain ⟨_,hsz⟩:=hV.sz hd
 obtain ⟨g,g1,g2,g3,g4⟩:=few_T l hv ns root hV
 refine T.call g4 ?_
 rintro ⟨b,⟨⟩⟩ hb
 dsimp only at hb ⊢
 refine T.cnd (fun _=>awake_T rfl) (fun hc=>?_)
 rw [not_F] at hc
 have hpr:=hb hc
 have hcr:=count_r l hv ns root hV g g1 g2 hpr g3
 have hcn:∀ u:Int,0≤cntE (doms l) ns u 9 root 0:=fun u=>cntE_nn hd hs 9 root 0 hV.2.1.2
 have hct:∀ u:Int,m26 (l,()) (ns,root,()) u=some (sat (cntE (doms l) ns u 9 root 0),()):=fun u=>by
  obtain ⟨⟨y,⟨⟩⟩,e1,e2,e3⟩:=count_T l ns root u hsz
  rw [e1]
  dsimp only at e2 e3
  by_cases q:0≤u∧u≤255
  ·rw [e2 ⟨q.1,q.2,hv,hV⟩]
  ·rw [e3 (fun h=>q ⟨h.1,h.2.1⟩),cnt_out hs (by omega) 9 root 0 hV.2.1]; rfl
 have htot:=cnt_total hd hs hlo 9 root 0 (by
  unfold rkI
  split
  ·omega
  ·have:=(rkA_ok hd hs).2 root.toNat (by have:=hV.2.1.2; omega); omega) hV.2.1 hlr (by omega)
 refine T.loop (fun q=>∃ v:Nat,v≤4∧q=(leaf,sat (sumS (fun u=>cntE (doms l) ns (u:Int) 9 root 0) v),(v:Int),l,ns,root,())) (fun q=>4 - q.2.2.1.toNat) ⟨0,by omega,rfl⟩ ?_
 rintro _ ⟨v,hv4,rfl⟩
 dsimp only
 refine T.cnd (fun hc2=>?_) (fun hc2=>?_) <;> simp only [iLt_T,iLt_F] at hc2
 ·refine T.callE (hct v) (T.go ⟨v + 1,by omega,?_⟩ (by dsimp only; rw [iAdd64 (by omega) (by omega)]; omega))
  have hsn:=sumS_nn (g:=fun u=>cntE (doms l) ns (u:Int) 9 root 0) v (fun j _=>hcn j)
  have b1:=sat_nn hsn
  have b2:=sat_nn (hcn v)
  rw [iAdd64 (by omega) (by omega),iAdd64 (by omega) (by omega)]
  have e1:sumS (fun u=>cntE (doms l) ns (u:Int) 9 root 0) (v + 1)=sumS (fun u=>cntE (doms l) ns (u:Int) 9 root 0) v + cntE (doms l) ns (v:Int) 9 root 0:=rfl
  rw [e1,← sat_add hsn (hcn v)]
  rfl
 ·obtain rfl:v=4:=by omega
  refine T.mapL (T.callE (hct leaf) (T.callE (hcr leaf) (T.ct (by rw [iEq_T]) ?_)))
  obtain ⟨⟨w,⟨⟩⟩,ew,_⟩:=within_T leaf 4 hlf (by omega) (by omega)
  refine T.callE ew (T.callE (hct w) (T.callE ew (T.callE (hcr w) (T.ct (by rw [iEq_T]) (T.callE (all_m l hv) (T.ct ?_ (awake_T rfl)))))))
  rw [iEq_T]
  dsimp only
  rw [htot]
end Abs
end Go.Proofs.YtgfnhpadmifiiaaDoor
