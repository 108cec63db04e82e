/- Merged and trimmed by a program: D19 D20. -/
import Derived.Test.YtgfnhpadmifiiaaDoorZLH
set_option linter.unusedVariables false
set_option linter.unusedSimpArgs false
section
namespace Go.Proofs.YtgfnhpadmifiiaaDoor
namespace Abs
theorem brK_lt:∀ (cs:List Int) (v:Int) (j:Nat),j < cs.length→v < cs.getD j 0→brK cs v≤j:=by
 intro cs
 induction cs with
 | nil=>intro v j h; cases h
 | cons c cs ih =>
  intro v j hj hv
  simp only [brK]
  split
  ·cases j with
   | zero=>simp at hv; omega
   | succ j=>have:=ih v j (by simpa using hj) (by simpa using hv); omega
  ·omega
theorem brK_ge:∀ (cs:List Int) (v:Int) (j:Nat),j < brK cs v→cs.getD j 0≤v:=by
 intro cs
 induction cs with
 | nil=>intro v j h; cases h
 | cons c cs ih =>
  intro v j h
  simp only [brK] at h
  split at h
  ·cases j with
   | zero=>simpa
   | succ j=>have:=ih v j (by omega); simpa using this
  ·omega
theorem firstK_spec {p:Nat→Bool}:∀ (n i b:Nat),i≤b→b < i + n→p b=true→i≤firstK p n i∧firstK p n i≤b∧p (firstK p n i)=true∧∀ j,i≤j→j < firstK p n i→p j=false:=by
 intro n
 induction n with
 | zero=>intro i b h1 h2; omega
 | succ n ih =>
  intro i b h1 h2 h3
  simp only [firstK]
  by_cases q:p i=true
  ·rw [if_pos q]; exact ⟨Nat.le_refl _,h1,q,fun j a b=>by omega⟩
  ·rw [if_neg q]
   have hib:i ≠ b:=fun e=>q (e ▸ h3)
   obtain ⟨a1,a2,a3,a4⟩:=ih (i + 1) b (by omega) (by omega) h3
   refine ⟨by omega,a2,a3,fun j hj1 hj2=>?_⟩
   rcases Nat.lt_or_ge j (i + 1) with r | r
   ·obtain rfl:j=i:=by omega
    simpa using q
   ·exact a4 j r hj2
section
variable {dm:List DS3} {ns:List DS1} {leaf:Int}
theorem kLeast_spec {r b:Nat} (hb:b < (kids ns r).length) (h:cntE dm ns leaf 9 ((kids ns r).getD b 0) ((ns.getD r zN).1.toNat + 1) ≠ 0) :
  kLeast dm ns leaf r≤b∧cntE dm ns leaf 9 ((kids ns r).getD (kLeast dm ns leaf r) 0) ((ns.getD r zN).1.toNat + 1) ≠ 0∧∀ j,j < kLeast dm ns leaf r→cntE dm ns leaf 9 ((kids ns r).getD j 0) ((ns.getD r zN).1.toNat + 1)=0:=by
 unfold kLeast
 obtain ⟨_,a2,a3,a4⟩:=firstK_spec (p:=fun k=>decide (cntE dm ns leaf 9 ((kids ns r).getD k 0) ((ns.getD r zN).1.toNat + 1) ≠ 0)) (kids ns r).length 0 b (by omega) (by omega) (by simpa using h)
 exact ⟨a2,by simpa using a3,fun j hj=>by simpa using a4 j (by omega) hj⟩
def leastS (dm:List DS3) (ns:List DS1) (leaf:Int):Nat→Nat→Int→List Int
 | 0,_,_=>[]
 | n + 1,i,r=>if 0≤r∧(ns.getD r.toNat zN).1=(i:Int) then loK dm (ns.getD r.toNat zN) (kLeast dm ns leaf r.toNat) :: leastS dm ns leaf n (i + 1) ((kids ns r.toNat).getD (kLeast dm ns leaf r.toNat) 0)
   else (dm.getD i zS).1 :: leastS dm ns leaf n (i + 1) r
theorem leastS_len:∀ (n i:Nat) (r:Int),(leastS dm ns leaf n i r).length=n:=by
 intro n
 induction n with
 | zero=>intro i r; rfl
 | succ n ih=>intro i r; simp only [leastS]; split <;> simp [ih]
theorem at_or (hd:DmOk dm) (hs:AllS dm ns) {i:Nat} {r:Int} (hi:i < dm.length) (hr:RefOk ns.length r) (hl:i≤lvl dm ns r):(0≤r∧(ns.getD r.toNat zN).1=(i:Int))∨(i + 1≤lvl dm ns r∧¬ (0≤r∧(ns.getD r.toNat zN).1=(i:Int))):=by
 unfold lvl at hl ⊢
 split at hl
 ·rename_i q; right; rw [if_pos q]; exact ⟨by omega,fun h=>by omega⟩
 ·rename_i q
  have h1:=(hs r.toNat (by have:=hr.2; omega)).1
  rw [if_neg q]
  by_cases e:(ns.getD r.toNat zN).1=(i:Int)
  ·left; exact ⟨by omega,e⟩
  ·right; exact ⟨by omega,fun h=>e h.2⟩
theorem loK_cut {x:DS1} {k:Nat} (hk:k≤x.2.1.length) (h0:0 < k):loK dm x k=x.2.1.getD (k - 1) 0:=by
 unfold loK hiK; rw [if_neg (by omega),if_pos (by omega)]
theorem loK_zero (x:DS1):loK dm x 0=(dm.getD x.1.toNat zS).1:=by unfold loK; rw [if_pos rfl]
theorem leastF_S (hd:DmOk dm) (hs:AllS dm ns):∀ (n i f:Nat) (r:Int) (a:Nat) (fs:List Int),i + n=dm.length→i≤lvl dm ns r→RefOk ns.length r→rkI (rkA ns) r≤f→(0≤r→cntE dm ns leaf 9 r a ≠ 0)→fs.length=dm.length→fs.drop i=(dm.map fun d=>d.1).drop i →
  leastF dm ns leaf f r fs=fs.take i ++ leastS dm ns leaf n i r:=by
 intro n
 induction n with
 | zero =>
  intro i f r a fs hi hl hr hf hc hfl hfd
  have hneg:r < 0:=by
   rcases Int.lt_or_le r 0 with q | q
   ·exact q
   ·unfold lvl at hl
    rw [if_neg (by omega)] at hl
    have h1:=(hs r.toNat (by have:=hr.2; omega)).2.1
    have h0:=(hs r.toNat (by have:=hr.2; omega)).1
    omega
  rw [leastF_leaf f hneg]
  simp only [leastS,List.append_nil]
  rw [List.take_of_length_le (by omega)]
 | succ n ih =>
  intro i f r a fs hi hl hr hf hc hfl hfd
  have hil:i < fs.length:=by omega
  have hlo:fs[i]=(dm.getD i zS).1:=by
   rw [List.drop_eq_getElem_cons hil,List.drop_eq_getElem_cons (show i < (dm.map fun d=>d.1).length by rw [List.length_map]; omega)] at hfd
   have:=(List.cons.inj hfd).1
   rw [List.getElem_map] at this
   rw [this,getD_eq _ _ _ (by omega)]
  have hdr:fs.drop (i + 1)=(dm.map fun d=>d.1).drop (i + 1):=by
   rw [List.drop_eq_getElem_cons hil,List.drop_eq_getElem_cons (show i < (dm.map fun d=>d.1).length by rw [List.length_map]; omega)] at hfd
   exact (List.cons.inj hfd).2
  simp only [leastS]
  rcases at_or hd hs (by omega) hr hl with ⟨q,hat⟩ | ⟨q,hn⟩
  ·rw [if_pos ⟨q,hat⟩]
   have hrt:r.toNat < ns.length:=by have:=hr.2; omega
   have hsr:=hs r.toNat hrt
   have hkl:(kids ns r.toNat).length=(ns.getD r.toNat zN).2.1.length + 1:=hsr.2.2.2.1
   obtain ⟨b,b1,b2⟩:=kid_ne hd hs q hr.2 (hc q)
   obtain ⟨k1,k2,k3⟩:=kLeast_spec b1 b2
   obtain ⟨f',rfl⟩:∃ f',f=f' + 1:=⟨f - 1,by unfold rkI at hf; rw [if_neg (by omega)] at hf; omega⟩
   have hkk:kLeast dm ns leaf r.toNat < (kids ns r.toNat).length:=by omega
   have hrk:=kid_rk hd hs hrt hkk
   have hf2:=hf
   unfold rkI at hf2
   rw [if_neg (by omega)] at hf2
   have hatn:(ns.getD r.toNat zN).1.toNat=i:=by omega
   simp only [leastF]
   rw [if_neg (by omega)]
   have hlk:=lvl_kid hd hs hrt hkk
   by_cases h0:0 < kLeast dm ns leaf r.toNat
   ·rw [if_pos h0,ih (i + 1) f' _ ((ns.getD r.toNat zN).1.toNat + 1) (fs.set (ns.getD r.toNat zN).1.toNat _) (by omega) (by omega) (kid_ref hs hrt hkk) (by omega) (fun _=>k2) (by rw [List.length_set]; exact hfl) (by rw [hatn,List.drop_set_of_lt (by omega)]; exact hdr)]
    rw [hatn,List.take_set,List.take_succ_eq_append_getElem hil,List.set_append_right _ _ (by rw [List.length_take]; omega),loK_cut (by omega) h0]
    have:i - (fs.take i).length=0:=by rw [List.length_take]; omega
    rw [this]; simp
   ·have hz:kLeast dm ns leaf r.toNat=0:=by omega
    rw [if_neg h0,ih (i + 1) f' _ ((ns.getD r.toNat zN).1.toNat + 1) fs (by omega) (by omega) (kid_ref hs hrt hkk) (by omega) (fun _=>k2) hfl hdr]
    rw [List.take_succ_eq_append_getElem hil,hlo]
    have:loK dm (ns.getD r.toNat zN) (kLeast dm ns leaf r.toNat)=(dm.getD i zS).1:=by rw [hz,loK_zero,hatn]
    rw [this]; simp
  ·rw [if_neg hn,ih (i + 1) f r a fs (by omega) q hr hf hc hfl hdr,List.take_succ_eq_append_getElem hil,hlo]
   simp
theorem sumS_zero {f:Nat→Int}:∀ n,(∀ k,k < n→0≤f k)→sumS f n=0→∀ k,k < n→f k=0:=by
 intro n
 induction n with
 | zero=>intro _ _ k hk; omega
 | succ n ih =>
  intro h hz k hk
  simp only [sumS] at hz
  have h1:=sumS_nn n (fun k hk=>h k (by omega))
  have h2:=h n (by omega)
  rcases Nat.lt_or_ge k n with q | q
  ·exact ih (fun k hk=>h k (by omega)) (by omega) k q
  ·obtain rfl:k=n:=by omega
   omega
theorem wid_pos {g:List (List Int)} (hd:DmOk dm) (hg:GOk dm g) (i:Nat) (hi:i≤dm.length) (k:Nat):1≤widS dm i (g.drop i) k:=widS_nn hd (g.drop i) i (by rw [List.length_drop,hg.1]; omega) (fun t ht=>by
  rw [List.length_drop] at ht
  have:=hg.2 (i + t) (by have:=hg.1; omega)
  rw [List.getD_eq_getElem?_getD (l:=g.drop i),List.getElem?_drop,← List.getD_eq_getElem?_getD]
  exact this) k
theorem noCell {g:List (List Int)} (hd:DmOk dm) (hs:AllS dm ns) (hg:GOk dm g) (hh:Has ns ns.length g) {i:Nat} {pre:List Int} {r:Int} (hi:i≤dm.length) (hp:pre.length=i) (hl:i≤lvl dm ns r) (hr:RefOk ns.length r) (hz:cntE dm ns leaf 9 r i=0):∀ k,k < prodL (g.drop i)→vlF ns 9 r (pre ++ atS (g.drop i) k) ≠ leaf:=by
 intro k hk e
 have hsum:=cells_sum (leaf:=leaf) hd hs hg hh (dm.length - i) i pre r (by omega) hp hl hr
 rw [hz] at hsum
 have h1:=sumS_zero (prodL (g.drop i)) (fun k _=>by split; have:=wid_pos hd hg i hi k; omega; omega) hsum k hk
 rw [if_pos e] at h1
 have:=wid_pos hd hg i hi k
 omega
theorem cnt_step (hd:DmOk dm) (hs:AllS dm ns) {i:Nat} {r:Int} (hi:i < dm.length) (hr:RefOk ns.length r) (hl:i + 1≤lvl dm ns r):cntE dm ns leaf 9 r i=wid (dm.getD i zS) * cntE dm ns leaf 9 r (i + 1):=by
 rcases Int.lt_or_le r 0 with q | q
 ·rw [cntE_leaf _ _ _ _ q,cntE_leaf _ _ _ _ q]
  split
  ·rw [prodW_step (a:=i) (b:=dm.length) (by omega) (Nat.le_refl _)]
  ·rw [Int.mul_zero]
 ·rw [cntE_node _ _ _ _ q,cntE_node _ _ _ _ q]
  have e:lvl dm ns r=(ns.getD r.toNat zN).1.toNat:=by unfold lvl; rw [if_neg (by omega)]
  have hrt:=hr.2
  have:=(hs r.toNat (by omega)).2.1
  rw [prodW_step (a:=i) (b:=(ns.getD r.toNat zN).1.toNat) (by omega) (by omega),← Int.mul_assoc,← Int.mul_assoc,Int.mul_comm (wid _)]
theorem vl_kid (hd:DmOk dm) (hs:AllS dm ns) {i:Nat} {r:Int} (hr:RefOk ns.length r) (q:0≤r) (hat:(ns.getD r.toNat zN).1.toNat=i) {pre:List Int} (hp:pre.length=i) (y:Int) (t:List Int):vlF ns 9 r (pre ++ (y :: t))=vlF ns 9 ((kids ns r.toNat).getD (brK (ns.getD r.toNat zN).2.1 y) 0) ((pre ++ [y]) ++ t):=by
 have hrt:r.toNat < ns.length:=by have:=hr.2; omega
 rw [vlF_node ns 8 q,hat]
 have eg:(pre ++ (y :: t)).getD i 0=y:=by
  rw [List.getD_eq_getElem?_getD,List.getElem?_append_right (by omega),hp,Nat.sub_self]; rfl
 rw [eg,List.append_assoc]
 have hk2:=kid_at hs hrt y
 have hrk:=kid_rk hd hs hrt hk2
 have:=(rkA_ok hd hs).2 r.toNat hrt
 exact vlF_stable hd hs 8 8 9 _ _ (by omega) (by omega) (by omega) (kid_ref hs hrt hk2).2
theorem first_cell {g:List (List Int)} (hd:DmOk dm) (hs:AllS dm ns) (hg:GOk dm g) (hh:Has ns ns.length g):∀ (n i:Nat) (pre:List Int) (r:Int),i + n=dm.length→pre.length=i→i≤lvl dm ns r→RefOk ns.length r→cntE dm ns leaf 9 r i ≠ 0 →
  ∃ k,k < prodL (g.drop i)∧vlF ns 9 r (pre ++ atS (g.drop i) k)=leaf∧(∀ k',k' < k→vlF ns 9 r (pre ++ atS (g.drop i) k') ≠ leaf)∧atS (g.drop i) k=leastS dm ns leaf n i r:=by
 have hpos:∀ i,∀ r ∈ g.drop i,1≤r.length:=fun i r hr=>(hg.len hd r (List.mem_of_mem_drop hr)).1
 intro n
 induction n with
 | zero =>
  intro i pre r hi hp hl hr hc
  have hneg:r < 0:=by
   rcases Int.lt_or_le r 0 with q | q
   ·exact q
   ·unfold lvl at hl
    rw [if_neg (by omega)] at hl
    have h1:=(hs r.toNat (by have:=hr.2; omega)).2.1
    have h0:=(hs r.toNat (by have:=hr.2; omega)).1
    omega
  rw [cntE_leaf dm ns leaf 8 hneg] at hc
  have hlf:-1 - r=leaf:=by
   rcases Classical.em (-1 - r=leaf) with q | q
   ·exact q
   ·rw [if_neg q] at hc; exact absurd rfl hc
  rw [List.drop_of_length_le (by have:=hg.1; omega)]
  exact ⟨0,by simp [prodL],by rw [vlF_neg ns 9 hneg]; exact hlf,fun k' h=>by omega,rfl⟩
 | succ n ih =>
  intro i pre r hi hp hl hr hc
  have hgl:=hg.1
  have hig:i < g.length:=by omega
  have hrow:=hg.row hig
  have edr:g.drop i=g[i] :: g.drop (i + 1):=List.drop_eq_getElem_cons hig
  have hPp:0 < prodL (g.drop (i + 1)):=by
   have:∀ g':List (List Int),(∀ r ∈ g',1≤r.length)→1≤prodL g':=by
    intro g'
    induction g' with
    | nil=>intro _; simp [prodL]
    | cons r g' ih=>intro h; simp only [prodL]; exact Nat.mul_le_mul (h r (by simp)) (ih fun x hx=>h x (by simp [hx]))
   exact this _ (hpos (i + 1))
  rw [edr]
  simp only [prodL,leastS]
  have hat:∀ c k,k < prodL (g.drop (i + 1))→c < g[i].length→atS (g[i] :: g.drop (i + 1)) (c * prodL (g.drop (i + 1)) + k)=g[i].getD c 0 :: atS (g.drop (i + 1)) k:=fun c k hk hc=>by
   rw [atS_cons,atS_shift _ (hpos (i + 1)),digit hk hc]
  have split_k:∀ (cc kk:Nat),cc < g[i].length→kk < prodL (g.drop (i + 1))→∀ k',k' < cc * prodL (g.drop (i + 1)) + kk→∃ c k3,k'=c * prodL (g.drop (i + 1)) + k3∧k3 < prodL (g.drop (i + 1))∧(c < cc∨(c=cc∧k3 < kk)):=fun cc kk hcc hkk k' hk'=>by
   refine ⟨k' / prodL (g.drop (i + 1)),k' % prodL (g.drop (i + 1)),by rw [Nat.mul_comm]; exact (Nat.div_add_mod _ _).symm,Nat.mod_lt _ hPp,?_⟩
   have hdm:=Nat.div_add_mod k' (prodL (g.drop (i + 1)))
   rcases Nat.lt_trichotomy (k' / prodL (g.drop (i + 1))) cc with q | q | q
   ·exact .inl q
   ·right
    refine ⟨q,?_⟩
    rw [q,Nat.mul_comm] at hdm
    omega
   ·exfalso
    have h1:(cc + 1) * prodL (g.drop (i + 1))≤(k' / prodL (g.drop (i + 1))) * prodL (g.drop (i + 1)):=Nat.mul_le_mul q (Nat.le_refl _)
    rw [Nat.mul_comm] at hdm
    rw [Nat.add_mul,Nat.one_mul] at h1
    omega
  rcases at_or hd hs (by omega) hr hl with ⟨q,hatt⟩ | ⟨q,hn⟩
  ·rw [if_pos ⟨q,hatt⟩]
   have hrt:r.toNat < ns.length:=by have:=hr.2; omega
   have hsr:=hs r.toNat hrt
   have hkl:(kids ns r.toNat).length=(ns.getD r.toNat zN).2.1.length + 1:=hsr.2.2.2.1
   have hatn:(ns.getD r.toNat zN).1.toNat=i:=by omega
   obtain ⟨b,b1,b2⟩:=kid_ne hd hs q hr.2 hc
   obtain ⟨k1,k2,k3⟩:=kLeast_spec b1 b2
   have hkk:kLeast dm ns leaf r.toNat < (kids ns r.toNat).length:=by omega
   generalize hks:kLeast dm ns leaf r.toNat=ks at k1 k2 k3 hkk
   rw [hatn] at k2 k3
   -- the row's cell at which the branch begins
   obtain ⟨c,hcl,hcv⟩:∃ c,c < g[i].length∧g[i].getD c 0=loK dm (ns.getD r.toNat zN) ks:=by
    rcases Nat.eq_zero_or_pos ks with z | z
    ·refine ⟨0,hrow.pos,?_⟩
     rw [z,loK_zero,hatn,(row_lo hrow).1]
    ·rw [loK_cut (by omega) z]
     have h1:=hh r.toNat hrt ((ns.getD r.toNat zN).2.1.getD (ks - 1) 0) (by rw [getD_eq (ns.getD r.toNat zN).2.1 (ks - 1) 0 (by omega)]; exact List.getElem_mem _)
     rw [hatn,getD_eq _ _ _ hig] at h1
     obtain ⟨c,hc1,hc2⟩:=List.getElem_of_mem h1
     exact ⟨c,hc1,by rw [getD_eq _ _ _ hc1]; exact hc2⟩
   have hcut:∀ j,j < (ns.getD r.toNat zN).2.1.length→(dm.getD i zS).1 < (ns.getD r.toNat zN).2.1.getD j 0:=fun j hj=>by
    have:=(hsr.2.2.2.2.1 j hj).1; rwa [hatn] at this
   have hsort:=List.pairwise_iff_getElem.1 (cuts_sorted hsr)
   have hbr:brK (ns.getD r.toNat zN).2.1 (g[i].getD c 0)=ks:=by
    rw [hcv]
    refine brK_eq _ _ ks (by omega) (fun j hj=>?_) ?_
    ·rw [loK_cut (by omega) (by omega),getD_eq (ns.getD r.toNat zN).2.1 j 0 (by omega),getD_eq (ns.getD r.toNat zN).2.1 (ks - 1) 0 (by omega)]
     rcases Nat.lt_or_ge j (ks - 1) with u | u
     ·have:=hsort j (ks - 1) (by omega) (by omega) u; omega
     ·have:j=ks - 1:=by omega
      subst this; exact Int.le_refl _
    ·rcases Nat.lt_or_ge ks (ns.getD r.toNat zN).2.1.length with u | u
     ·right
      rcases Nat.eq_zero_or_pos ks with z | z
      ·rw [z,loK_zero,hatn]; exact hcut 0 (by omega)
      ·rw [loK_cut (by omega) z,getD_eq (ns.getD r.toNat zN).2.1 (ks - 1) 0 (by omega),getD_eq (ns.getD r.toNat zN).2.1 ks 0 u]
       exact hsort (ks - 1) ks (by omega) u (by omega)
     ·left; omega
   obtain ⟨k',a1,a2,a3,a4⟩:=ih (i + 1) (pre ++ [g[i].getD c 0]) ((kids ns r.toNat).getD ks 0) (by omega) (by rw [List.length_append,hp]; rfl) (by have:=lvl_kid hd hs hrt hkk; omega) (kid_ref hs hrt hkk) k2
   have hlt:c * prodL (g.drop (i + 1)) + k' < g[i].length * prodL (g.drop (i + 1)):=by
    have:(c + 1) * prodL (g.drop (i + 1))≤g[i].length * prodL (g.drop (i + 1)):=Nat.mul_le_mul hcl (Nat.le_refl _)
    rw [Nat.add_mul,Nat.one_mul] at this; omega
   refine ⟨c * prodL (g.drop (i + 1)) + k',hlt,?_,fun k'' hk''=>?_,?_⟩
   ·rw [hat c k' a1 hcl,vl_kid hd hs hr q hatn hp,hbr]; exact a2
   ·obtain ⟨c2,k4,e,h4,hor⟩:=split_k c k' hcl a1 k'' hk''
    have hc2:c2 < g[i].length:=by omega
    rw [e,hat c2 k4 h4 hc2,vl_kid hd hs hr q hatn hp]
    rcases hor with u | ⟨u,u2⟩
    ·have hlt2:g[i].getD c2 0 < g[i].getD c 0:=by
      rw [getD_eq _ _ _ hc2,getD_eq _ _ _ hcl]
      exact (List.pairwise_iff_getElem.1 hrow.2.1) c2 c hc2 hcl u
     have hks0:0 < ks:=by
      rcases Nat.eq_zero_or_pos ks with z | z
      ·exfalso
       rw [z,loK_zero,hatn] at hcv
       have:=(row_lo hrow).2 c2 hc2
       omega
      ·exact z
     have hb2:brK (ns.getD r.toNat zN).2.1 (g[i].getD c2 0)≤ks - 1:=brK_lt _ _ _ (by omega) (by rw [hcv,loK_cut (by omega) hks0] at hlt2; exact hlt2)
     exact noCell hd hs hg hh (by omega) (by rw [List.length_append,hp]; rfl) (by have:=lvl_kid hd hs hrt (kid_at hs hrt (g[i].getD c2 0)); omega) (kid_ref hs hrt (kid_at hs hrt _)) (k3 _ (by omega)) k4 h4
    ·rw [u,hbr]; exact a3 k4 u2
   ·first | rw [hat c k' a1 hcl,a4,hcv] | rw [hat c k' a1 hcl,a4,hcv,hks]
  ·rw [if_neg hn]
   have hcs:=cnt_step (leaf:=leaf) hd hs (show i < dm.length by omega) hr q
   have hc2:cntE dm ns leaf 9 r (i + 1) ≠ 0:=fun e=>hc (by rw [hcs,e,Int.mul_zero])
   have elo:=(row_lo hrow).1
   have vl:∀ y t,vlF ns 9 r (pre ++ (y :: t))=vlF ns 9 r ((pre ++ [y]) ++ t):=fun y t=>by rw [List.append_assoc]; rfl
   obtain ⟨k',a1,a2,a3,a4⟩:=ih (i + 1) (pre ++ [g[i].getD 0 0]) r (by omega) (by rw [List.length_append,hp]; rfl) q hr hc2
   have e0:∀ k,0 * prodL (g.drop (i + 1)) + k=k:=fun k=>by rw [Nat.zero_mul,Nat.zero_add]
   have hle:prodL (g.drop (i + 1))≤g[i].length * prodL (g.drop (i + 1)):=by
    have:1 * prodL (g.drop (i + 1))≤g[i].length * prodL (g.drop (i + 1)):=Nat.mul_le_mul hrow.pos (Nat.le_refl _)
    omega
   refine ⟨k',by omega,?_,fun k'' hk''=>?_,?_⟩
   ·rw [← e0 k',hat 0 k' a1 hrow.pos,vl]; exact a2
   ·rw [← e0 k'',hat 0 k'' (by omega) hrow.pos,vl]; exact a3 k'' hk''
   ·rw [← e0 k',hat 0 k' a1 hrow.pos,a4,elo]
def lexB:List Int→List Int→Prop
 | a :: xs,b :: zs=>a < b∨(a=b∧lexB xs zs)
 | _,_=>True
theorem lex_at:∀ (xs zs:List Int) (i:Nat),lexB xs zs→i < xs.length→i < zs.length→(∀ j,j < i→xs.getD j 0=zs.getD j 0)→xs.getD i 0 ≠ zs.getD i 0→xs.getD i 0 < zs.getD i 0:=by
 intro xs
 induction xs with
 | nil=>intro zs i _ h; cases h
 | cons a xs ih =>
  intro zs i hl h1 h2 hj hne
  cases zs with
  | nil=>cases h2
  | cons b zs =>
   cases i with
   | zero =>
    rcases hl with q | ⟨q,_⟩
    ·simpa using q
    ·exact absurd (by simpa using q) hne
   | succ i =>
    have h0:=hj 0 (by omega)
    rcases hl with q | ⟨q,ql⟩
    ·simp at h0; omega
    ·have:=ih zs i ql (by simpa using h1) (by simpa using h2) (fun j hj2=>by have:=hj (j + 1) (by omega); simpa using this) (by simpa using hne)
     simpa using this
theorem lex_T (hd:DmOk dm) (hs:AllS dm ns):∀ (n i:Nat) (pre ys:List Int) (r:Int),i + n=dm.length→pre.length=i→ys.length=n→i≤lvl dm ns r→RefOk ns.length r→(∀ j,j < n→(dm.getD (i + j) zS).1≤ys.getD j 0)→vlF ns 9 r (pre ++ ys)=leaf→cntE dm ns leaf 9 r i ≠ 0∧lexB (leastS dm ns leaf n i r) ys:=by
 intro n
 induction n with
 | zero =>
  intro i pre ys r hi hp hy hl hr _ hv
  have hneg:r < 0:=by
   rcases Int.lt_or_le r 0 with q | q
   ·exact q
   ·unfold lvl at hl
    rw [if_neg (by omega)] at hl
    have h1:=(hs r.toNat (by have:=hr.2; omega)).2.1
    have h0:=(hs r.toNat (by have:=hr.2; omega)).1
    omega
  rw [vlF_neg ns 9 hneg] at hv
  rw [cntE_leaf dm ns leaf 8 hneg,if_pos hv]
  refine ⟨by have:=prodW_pos hd i dm.length; omega,?_⟩
  simp [leastS,lexB]
 | succ n ih =>
  intro i pre ys r hi hp hy hl hr hd0 hv
  cases ys with
  | nil=>cases hy
  | cons y ys =>
  have hy0:=hd0 0 (by omega)
  simp only [Nat.add_zero,List.getD_cons_zero] at hy0
  have hd1:∀ j,j < n→(dm.getD (i + 1 + j) zS).1≤ys.getD j 0:=fun j hj=>by
   have:=hd0 (j + 1) (by omega)
   rw [show i + (j + 1)=i + 1 + j by omega] at this
   simpa using this
  have hyl:ys.length=n:=by simpa using hy
  simp only [leastS]
  rcases at_or hd hs (by omega) hr hl with ⟨q,hatt⟩ | ⟨q,hn⟩
  ·rw [if_pos ⟨q,hatt⟩]
   have hrt:r.toNat < ns.length:=by have:=hr.2; omega
   have hsr:=hs r.toNat hrt
   have hkl:(kids ns r.toNat).length=(ns.getD r.toNat zN).2.1.length + 1:=hsr.2.2.2.1
   have hatn:(ns.getD r.toNat zN).1.toNat=i:=by omega
   rw [vl_kid hd hs hr q hatn hp] at hv
   have hb:=kid_at hs hrt y
   obtain ⟨c1,c2⟩:=ih (i + 1) (pre ++ [y]) ys ((kids ns r.toNat).getD (brK (ns.getD r.toNat zN).2.1 y) 0) (by omega) (by rw [List.length_append,hp]; rfl) hyl (by have:=lvl_kid hd hs hrt hb; omega) (kid_ref hs hrt hb) hd1 hv
   have hge:=brK_ge (ns.getD r.toNat zN).2.1 y
   generalize brK (ns.getD r.toNat zN).2.1 y=b at hb c1 c2 hge
   obtain ⟨k1,k2,k3⟩:=kLeast_spec (dm:=dm) (leaf:=leaf) hb (by rw [hatn]; exact c1)
   refine ⟨fun e=>?_,?_⟩
   ·rw [cntE_node _ _ _ _ q,hatn,prodW_same,Int.mul_one] at e
    unfold totE at e
    have h1:=sumS_zero _ (fun k hk=>Int.mul_nonneg (cntE_nn hd hs 8 _ _ (kid_ref hs hrt hk).2) (by have:=hs.wid hrt hk hd; omega)) e b hb
    rw [cntE_kid hd hs hrt hb,hatn] at h1
    have h2:=(hs.wid hrt hb hd).1
    rcases Int.mul_eq_zero.1 h1 with u | u
    ·exact c1 u
    ·omega
   ·rcases Nat.lt_or_ge (kLeast dm ns leaf r.toNat) b with u | u
    ·left
     have hcb:=hge (b - 1) (by omega)
     rcases Nat.eq_zero_or_pos (kLeast dm ns leaf r.toNat) with z | z
     ·rw [z,loK_zero]
      have h1:=(hsr.2.2.2.2.1 (b - 1) (by omega)).1
      omega
     ·rw [loK_cut (by omega) z]
      have hsort:=List.pairwise_iff_getElem.1 (cuts_sorted hsr)
      have:=hsort (kLeast dm ns leaf r.toNat - 1) (b - 1) (by omega) (by omega) (by omega)
      rw [getD_eq _ _ _ (show b - 1 < (ns.getD r.toNat zN).2.1.length by omega)] at hcb
      rw [getD_eq _ _ _ (show kLeast dm ns leaf r.toNat - 1 < (ns.getD r.toNat zN).2.1.length by omega)]
      omega
    ·have e:kLeast dm ns leaf r.toNat=b:=by omega
     rw [e]
     have hle:loK dm (ns.getD r.toNat zN) b≤y:=by
      rcases Nat.eq_zero_or_pos b with z | z
      ·rw [z,loK_zero,hatn]; exact hy0
      ·rw [loK_cut (by omega) z]; exact hge (b - 1) (by omega)
     rcases Int.lt_or_eq_of_le hle with w | w
     ·exact .inl w
     ·exact .inr ⟨w,c2⟩
  ·rw [if_neg hn]
   obtain ⟨c1,c2⟩:=ih (i + 1) (pre ++ [y]) ys r (by omega) (by rw [List.length_append,hp]; rfl) hyl q hr hd1 (by rw [List.append_assoc]; exact hv)
   refine ⟨fun e=>?_,?_⟩
   ·rw [cnt_step hd hs (show i < dm.length by omega) hr q] at e
    have hw:=(wid_bd hd (d:=dm.getD i zS) (by rw [getD_eq _ _ _ (show i < dm.length by omega)]; exact List.getElem_mem _)).1
    rcases Int.mul_eq_zero.1 e with u | u
    ·omega
    ·exact c1 u
   ·rcases Int.lt_or_eq_of_le hy0 with w | w
    ·exact .inl w
    ·exact .inr ⟨w,c2⟩
end
end Abs
end Go.Proofs.YtgfnhpadmifiiaaDoor
end
namespace Go.Proofs.YtgfnhpadmifiiaaDoor
namespace Abs
open Classical in
noncomputable def lsR (dm:List DS3) (ns:List DS1) (root leaf:Int):List Int × Bool × Unit:=if cntE dm ns leaf 9 root 0 ≠ 0 then (leastS dm ns leaf dm.length 0 root,true,()) else ([],false,())
theorem root_rk {dm:List DS3} {ns:List DS1} {root:Int} (hd:DmOk dm) (hV:VD dm ns root):rkI (rkA ns) root≤9:=by
 unfold rkI
 split
 ·omega
 ·have:=(rkA_ok hd hV.alls).2 root.toNat (by have:=hV.2.1.2; omega); omega
theorem least_p (l:List DS0) (hv:valS l=0) (ns:List DS1) (root:Int) (hV:VD (doms l) ns root) (leaf:Int):m21 (l,()) (ns,root,()) leaf=some (lsR (doms l) ns root leaf):=by
 have hd:=doms_ok hv
 have hs:=hV.alls
 obtain ⟨_,hsz⟩:=hV.sz hd
 obtain ⟨y,e1,e2,e3⟩:=least_T l ns root leaf hsz
 rw [e1]
 congr 1
 unfold lsR
 by_cases hc:cntE (doms l) ns leaf 9 root 0 ≠ 0
 ·rw [if_pos hc]
  have hl:0≤leaf∧leaf≤255:=by
   rcases Classical.em (0≤leaf∧leaf≤255) with q | q
   ·exact q
   ·exact absurd (cnt_out hs (by omega) 9 root 0 hV.2.1) hc
  rw [e2 ⟨hl.1,hl.2,hv,hV,hc⟩]
  congr 1
  have:=leastF_S (leaf:=leaf) hd hs (doms l).length 0 9 root 0 ((doms l).map fun d=>d.1) (by omega) (by omega) hV.2.1 (root_rk hd hV) (fun _=>hc) (by simp) rfl
  rw [this]; simp
 ·rw [if_neg hc]
  exact e3 (fun h=>hc h.2.2.2.2)
theorem least_r (l:List DS0) (hv:valS l=0) (ns:List DS1) (root:Int) (hV:VD (doms l) ns root) (g:List (List Int)) (hg:GOk (doms l) g) (hh:Has ns ns.length g) (hc:prodL g≤8192) (he:m49 (l,()) ((doms l).map fun d=>[d.1]) (ns,root,())=some (g,())) (leaf:Int) :
  m22 (l,()) (ns,root,()) leaf=some (lsR (doms l) ns root leaf):=by
 refine T.eq ?_
 unfold m22
 have hd:=doms_ok hv
 have hd2:=hd.2.1
 have hgd:=hg.1
 have hs:=hV.alls
 have hlen:=hg.len hd
 have hcm:=cells_e (by omega) hlen hc
 refine T.callE (starts_m l hv) (T.callE he ?_)
 dsimp only
 refine T.loop (fun q=>∃ k:Nat,k≤prodL g∧(∀ k',k' < k→vlF ns 9 root (atS g k') ≠ leaf)∧q=(leaf,g,(k:Int),ns,root,())) (fun q=>prodL g - q.2.2.1.toNat) ⟨0,by omega,fun k' h=>by omega,rfl⟩ ?_
 rintro _ ⟨k,hk,hno,rfl⟩
 dsimp only
 have fc:cntE (doms l) ns leaf 9 root 0 ≠ 0→∃ k,k < prodL g∧vlF ns 9 root (atS g k)=leaf∧(∀ k',k' < k→vlF ns 9 root (atS g k') ≠ leaf)∧atS g k=leastS (doms l) ns leaf (doms l).length 0 root:=fun h=>by
  have:=first_cell hd hs hg hh (doms l).length 0 [] root (by omega) rfl (by omega) hV.2.1 h
  rw [List.drop_zero] at this
  simpa using this
 have nc:cntE (doms l) ns leaf 9 root 0=0→∀ k,k < prodL g→vlF ns 9 root (atS g k) ≠ leaf:=fun h=>by
  have:=noCell (i:=0) (pre:=[]) hd hs hg hh (by omega) rfl (by omega) hV.2.1 h
  rw [List.drop_zero] at this
  simpa using this
 refine T.callE hcm (T.cnd (fun hc2=>?_) (fun hc2=>?_)) <;> simp only [iLt_T,iLt_F] at hc2
 ·refine T.callE (at_m g (by omega) hlen k (by omega)) (T.callE (val_T hd hs root hV.2.1 hV.1 _ (by rw [atS_len]; exact hgd)) ?_)
  refine T.cnd (fun hc3=>?_) (fun hc3=>?_) <;> simp only [iEq_T,iEq_F] at hc3
  ·refine T.out ?_
   unfold lsR
   have hne:cntE (doms l) ns leaf 9 root 0 ≠ 0:=fun e=>nc e k (by omega) hc3
   rw [if_pos hne]
   obtain ⟨k0,a1,a2,a3,a4⟩:=fc hne
   have:k0=k:=by
    rcases Nat.lt_trichotomy k0 k with q | q | q
    ·exact absurd a2 (hno k0 q)
    ·exact q
    ·exact absurd hc3 (a3 k q)
   rw [← a4,this]
  ·refine T.go ⟨k + 1,by omega,fun k' hk'=>?_,by rw [iAdd64 (by omega) (by omega)]; rfl⟩ (by dsimp only; rw [iAdd64 (by omega) (by omega)]; omega)
   rcases Nat.lt_or_ge k' k with q | q
   ·exact hno k' q
   ·obtain rfl:k'=k:=by omega
    exact hc3
 ·obtain rfl:k=prodL g:=by omega
  refine T.out ?_
  unfold lsR
  have hz:¬ cntE (doms l) ns leaf 9 root 0 ≠ 0:=fun hne=>by
   obtain ⟨k0,a1,a2,_⟩:=fc hne
   exact hno k0 a1 a2
  rw [if_neg hz]
theorem law_least (k:Int) (L:List Int) (leaf:Int) (L2:List Int) (hk:I64 k) (h1:DeckOk L 0) (hlf:I64 leaf) (h2:DeckOk L2 0):m4 k L leaf L2=some (true,()):=by
 refine T.eq ?_
 unfold m4
 obtain ⟨j,hj,e⟩:=sch_m k hk
 have hv:=sch_val j hj
 refine T.callE e ?_
 dsimp only
 generalize sch j=l at hv
 have hd:=doms_ok hv
 have hdl:=doms_len l
 have hd2:=hd.2.1
 refine T.callE (show m19 L=some (L,0,()) from rfl) (T.call (made_T l hv 4 (by omega) (by omega) h1) ?_)
 rintro ⟨ns,root,K,a,⟨⟩⟩ ⟨hV,hlo,hlr,_⟩
 dsimp only at hV hlo hlr ⊢
 have hs:=hV.alls
 obtain ⟨g,g1,g2,g3,g4⟩:=few_T l hv ns root hV
 refine T.call g4 ?_
 rintro ⟨b,⟨⟩⟩ hb
 dsimp only at hb ⊢
 refine T.cnd (fun _=>awake_T rfl) (fun hc=>?_)
 rw [not_F] at hc
 have hpr:=hb hc
 have hp:=least_p l hv ns root hV
 have hr:=least_r l hv ns root hV g g1 g2 hpr g3
 refine T.loop (fun q=>∃ (i:Nat) (lf:Int),i≤2∧I64 lf∧q=(lf,L2,(i:Int),l,ns,root,())) (fun q=>2 - q.2.2.1.toNat) ⟨0,leaf,by omega,hlf,rfl⟩ ?_
 rintro _ ⟨i,lf,hi,hlf,rfl⟩
 dsimp only
 refine T.cnd (fun hc2=>?_) (fun hc2=>?_) <;> simp only [iLt_T,iLt_F] at hc2
 ·refine T.callE (hp lf) (T.callE (hr lf) (T.cf ?_ ?_))
  ·rw [not_F]; cases (lsR (doms l) ns root lf).2.1 <;> rfl
  ·have hll:(lsR (doms l) ns root lf).1.length≤6:=by
    unfold lsR
    split
    ·rw [leastS_len]; exact hd2
    ·simp
   refine T.callE (same_m _ _ (by omega)) (T.cf (by rw [not_F]; exact decide_eq_true rfl) ?_)
   refine T.call (within_T lf 5 hlf (by omega) (by omega)) (fun w hw=>T.go ⟨i + 1,w.1,by omega,⟨by omega,by omega⟩,by rw [iAdd64 (by omega) (by omega)]; rfl⟩ (by dsimp only; rw [iAdd64 (by omega) (by omega)]; omega))
 ·obtain rfl:i=2:=by omega
  refine T.mapL (T.callE (show m19 L2=some (L2,0,()) from rfl) (T.call (facts_T l hv h2) ?_))
  rintro ⟨K2,a2,f,⟨⟩⟩ ⟨_,f2⟩
  dsimp only at f2 ⊢
  have hfl:=valid_len f2
  refine T.callE (val_T hd hs root hV.2.1 hV.1 f (by omega)) ?_
  dsimp only
  generalize hw:vlF ns 9 root f=w
  have hin:∀ j,j < (doms l).length→((doms l).getD (0 + j) zS).1≤f.getD j 0:=fun j hj=>by
   have h3:=f2
   unfold validS at h3
   rw [Bool.and_eq_true] at h3
   have h4:=List.all_eq_true.1 h3.2 j (List.mem_range.2 (by omega))
   unfold inD at h4
   have h5:=(of_decide_eq_true h4).1
   have hjl:j < l.length:=by omega
   rw [getD_eq l j zA hjl] at h5
   rw [Nat.zero_add,doms_get l j hjl]
   exact h5
  obtain ⟨c1,c2⟩:=lex_T (leaf:=w) hd hs (doms l).length 0 [] f root (by omega) rfl (by omega) (by omega) hV.2.1 hin (by simpa using hw)
  have hres:lsR (doms l) ns root w=(leastS (doms l) ns w (doms l).length 0 root,true,()):=by unfold lsR; rw [if_pos c1]
  refine T.callE (hp w) ?_
  rw [hres]
  have hsl:=leastS_len (dm:=doms l) (ns:=ns) (leaf:=w) (doms l).length 0 root
  generalize leastS (doms l) ns w (doms l).length 0 root=S at hsl c2
  have hSI:=lenI_eq S
  have hfI:=lenI_eq f
  dsimp only
  refine T.cf (by rw [corT_F,not_F,iNe_F]; exact ⟨rfl,by omega⟩) ?_
  refine T.loop (fun q=>∃ i:Nat,i≤S.length∧(∀ j,j < i→S.getD j 0=f.getD j 0)∧q=(S,(i:Int),f,())) (fun q=>S.length - q.2.1.toNat) ⟨0,by omega,fun j hj=>by omega,rfl⟩ ?_
  rintro _ ⟨i,hi2,hj2,rfl⟩
  dsimp only
  rw [hSI,hfI,atI_getD,Int.toNat_natCast]
  refine T.cnd (fun hc3=>?_) (fun hc3=>?_) <;> simp only [iLt_T,iLt_F] at hc3
  ·refine T.grd (by rw [bnd_T]; omega) (T.grd (by rw [bnd_T]; omega) (T.grd (by rw [inB_T]; omega) (T.cnd (fun hc4=>?_) (fun hc4=>?_)))) <;> simp only [iNe_T,iNe_F] at hc4
   ·have:=lex_at S f i c2 (by omega) (by omega) hj2 hc4
    refine T.grd (by rw [bnd_T]; omega) (T.grd (by rw [bnd_T]; omega) (T.grd (by rw [inB_T]; omega) (T.ct (by rw [iLt_T]; exact this) (T.callE awake_m (T.out rfl)))))
   ·refine T.go ⟨i + 1,by omega,fun j hj=>?_,by rw [iAdd64 (by omega) (by omega)]; rfl⟩ (by dsimp only; rw [iAdd64 (by omega) (by omega)]; omega)
    rcases Nat.lt_or_ge j i with q | q
    ·exact hj2 j q
    ·obtain rfl:j=i:=by omega
     exact hc4
  ·exact T.mapL (awake_T rfl)
end Abs
end Go.Proofs.YtgfnhpadmifiiaaDoor
