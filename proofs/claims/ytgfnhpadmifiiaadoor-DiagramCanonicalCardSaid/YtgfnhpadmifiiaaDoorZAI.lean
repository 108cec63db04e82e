/- Merged and trimmed by a program: D22 D23 D24 D25 D26 D27 D28 D29 D30 D31. -/
import Derived.Test.YtgfnhpadmifiiaaDoorZAH
set_option linter.unusedVariables false
set_option linter.unusedSimpArgs false
set_option linter.defProp false
namespace Go.Proofs.YtgfnhpadmifiiaaDoor
namespace Abs
def cmpL:Int->List Int->List Int->List Int×List Int
 |x,c::cs,n::ns=>if n=x then cmpL x cs ns else (c::(cmpL n cs ns).1,n::(cmpL n cs ns).2)
 |_,_,_=>([],[])
theorem cmp_eq (x c:Int) (cs ns:List Int):cmpL x (c::cs) (x::ns)=cmpL x cs ns:=by simp[cmpL]
theorem qg {x n:Int} (h:n≠x) (c:Int) (cs ns:List Int):cmpL x (c::cs) (n::ns)=(c::(cmpL n cs ns).1,n::(cmpL n cs ns).2):=by simp only[cmpL];rw[if_neg h]
theorem lY (x:Int) (ns:List Int):cmpL x [] ns=([],[]):=by cases ns<;>rfl
theorem Jb:∀ (cs ns:List Int) (x:Int),(cmpL x cs ns).2.length=(cmpL x cs ns).1.length:=by
 intro cs
 induction cs with
 |nil=>intro ns x;rw[lY]
 |cons c cs ih =>
  intro ns x
  cases ns with
  |nil=>rfl
  |cons n ns =>
   by_cases h:n=x
   ·subst h;rw[cmp_eq];exact ih ns n
   ·rw[qg h];simp[ih ns n]
theorem Cb:∀ (cs ns:List Int) (x:Int),(cmpL x cs ns).1.Sublist cs/\(cmpL x cs ns).2.Sublist ns:=by
 intro cs
 induction cs with
 |nil=>intro ns x;rw[lY];exact⟨List.Sublist.slnil,List.nil_sublist _⟩
 |cons c cs ih =>
  intro ns x
  cases ns with
  |nil=>exact⟨List.nil_sublist _,List.nil_sublist _⟩
  |cons n ns =>
   by_cases h:n=x
   ·subst h;rw[cmp_eq];exact⟨(ih ns n).1.cons _,(ih ns n).2.cons _⟩
   ·rw[qg h];exact⟨(ih ns n).1.cons_cons _,(ih ns n).2.cons_cons _⟩
theorem Jc:∀ (cs ns:List Int) (x:Int) (j:Nat),j<(cmpL x cs ns).2.length->(x::(cmpL x cs ns).2).getD (j+1) 0≠(x::(cmpL x cs ns).2).getD j 0:=by
 intro cs
 induction cs with
 |nil=>intro ns x j h;rw[lY]at h;cases h
 |cons c cs ih =>
  intro ns x j h
  cases ns with
  |nil=>cases h
  |cons n ns =>
   by_cases q:n=x
   ·subst q;rw[cmp_eq]at h ⊢;exact ih ns n j h
   ·rw[qg q]at h ⊢
    cases j with
    |zero=>simpa using q
    |succ j=>exact ih ns n j (by simpa using h)
theorem yE {cs:List Int} {v:Int} (h:∀ c∈cs,v<c):brK cs v=0:=by
 cases cs with
 |nil=>rfl
 |cons c cs=>simp only[brK];rw[if_neg (by have:=h c (by simp);omega)]
theorem VY:∀ (cs ns:List Int) (x v:Int),cs.Pairwise (·<·)->ns.length=cs.length->(x::(cmpL x cs ns).2).getD (brK (cmpL x cs ns).1 v) 0=(x::ns).getD (brK cs v) 0:=by
 intro cs
 induction cs with
 |nil=>intro ns x v _ hl;rw[lY];rfl
 |cons c cs ih =>
  intro ns x v hp hl
  cases ns with
  |nil=>cases hl
  |cons n ns =>
   have hp':=List.pairwise_cons.1 hp
   have hl':ns.length=cs.length:=by simpa using hl
   have i:=ih ns n v hp'.2 hl'
   by_cases hv:c<=v
   ·have e:brK (c::cs) v=brK cs v+1:=by simp only[brK];rw[if_pos hv]
    rw[e]
    by_cases q:n=x
    ·subst q;rw[cmp_eq,i];simp
    ·rw[qg q]
     have e2:brK (c::(cmpL n cs ns).1) v=brK (cmpL n cs ns).1 v+1:=by simp only[brK];rw[if_pos hv]
     show (x::n::(cmpL n cs ns).2).getD (brK (c::(cmpL n cs ns).1) v) 0=_
     rw[e2,List.getD_cons_succ,List.getD_cons_succ];exact i
   ·have all:∀ y ∈ c :: cs,v < y:=fun y hy=>by
     rcases List.mem_cons.1 hy with rfl|hy
     ·omega
     ·have:=hp'.1 y hy;omega
    rw[yE all,yE fun y hy=>all y ((Cb (c::cs) (n::ns) x).1.mem hy)]
    rfl
theorem VZ:∀ (cs ns:List Int) (x:Int),ns.length=cs.length->∀ y∈ns,y∈x::(cmpL x cs ns).2:=by
 intro cs
 induction cs with
 |nil=>intro ns x hl y hy;rw[List.eq_nil_of_length_eq_zero hl]at hy;cases hy
 |cons c cs ih =>
  intro ns x hl y hy
  cases ns with
  |nil=>cases hy
  |cons n ns =>
   have hl':ns.length=cs.length:=by simpa using hl
   by_cases q:n=x
   ·subst q
    rw[cmp_eq]
    rcases List.mem_cons.1 hy with rfl|hy
    ·simp
    ·exact ih ns n hl' y hy
   ·rw[qg q]
    refine List.mem_cons_of_mem _ ?_
    rcases List.mem_cons.1 hy with rfl|hy
    ·simp
    ·exact ih ns n hl' y hy
theorem QG:∀ (cs ns:List Int) (x c n:Int),ns.length=cs.length->cmpL x (cs++[c]) (ns++[n])=if n=(x::(cmpL x cs ns).2).getD (cmpL x cs ns).2.length 0 then cmpL x cs ns else ((cmpL x cs ns).1++[c],(cmpL x cs ns).2++[n]):=by
 intro cs
 induction cs with
 |nil =>
  intro ns x c n hl
  rw[List.eq_nil_of_length_eq_zero hl]
  simp only[lY,List.nil_append,List.length_nil,List.getD_cons_zero]
  by_cases q:n=x
  ·subst q;rw[cmp_eq,if_pos rfl,lY]
  ·rw[qg q,if_neg q,lY]
 |cons c0 cs ih =>
  intro ns x c n hl
  cases ns with
  |nil=>cases hl
  |cons n0 ns =>
   have hl':ns.length=cs.length:=by simpa using hl
   rw[List.cons_append,List.cons_append]
   by_cases q:n0=x
   ·subst q;simp only[cmp_eq];exact ih ns n0 c n hl'
   ·rw[qg q,qg q,ih ns n0 c n hl']
    show _=if n=(n0::(cmpL n0 cs ns).2).getD (cmpL n0 cs ns).2.length 0 then _ else _
    by_cases z:n=(n0::(cmpL n0 cs ns).2).getD (cmpL n0 cs ns).2.length 0
    ·rw[if_pos z,if_pos z]
    ·rw[if_neg z,if_neg z];rfl
def DU (ns:List DS1) (a x:Int) (c n:List Int):Int×List DS1 :=
 if c=[] then (x,ns) else if (a,c,x::n,())∈ns then ((ns.idxOf (a,c,x::n,()):Nat),ns) else ((ns.length:Int),ns++[(a,c,x::n,())])
def jS (ns:List DS1) (a:Int) (cs nx:List Int):Int×List DS1:=DU ns a (nx.headD 0) (cmpL (nx.headD 0) cs nx.tail).1 (cmpL (nx.headD 0) cs nx.tail).2
theorem FU (ns t:List DS1) {x:Nat} (h:x<ns.length):kids (ns++t) x=kids ns x:=by unfold kids;rw[eY _ _ _ h]
def kG (lo hi:Int) (cs:List Int):Prop:=cs.Pairwise (·<·)/\∀ c∈cs,lo<c/\c<=hi
theorem kG.sub {lo hi:Int} {cs ds:List Int} (h:kG lo hi cs) (q:ds.Sublist cs):kG lo hi ds:=⟨h.1.sublist q,fun c hc=>h.2 c (q.mem hc)⟩
theorem kG.at {lo hi:Int} {cs:List Int} (h:kG lo hi cs) (k:Nat) (hk:k<cs.length):lo<cs.getD k 0/\cs.getD k 0<=hi/\(0<k->cs.getD (k-1) 0<cs.getD k 0):=by
 rw[getD_eq _ _ _ hk]
 have:=h.2 _ (List.getElem_mem hk)
 refine⟨this.1,this.2,fun q=>?_⟩
 rw[getD_eq _ _ _ (by omega)]
 exact List.pairwise_iff_getElem.1 h.1 _ _ (by omega) hk (by omega)
theorem MC {dm:List DS3} {lo:Int} (hd:dI dm) (hlo:-256<=lo) {i:Nat} (hi:i < dm.length) {cs nx:List Int} {ns:List DS1} (hc:kG (dm.getD i zS).1 (dm.getD i zS).2.1 cs) (hl:nx.length=cs.length + 1) (hnx:∀ c ∈ nx,Rf ns lo (i + 1) c) (hN:jC dm lo ns) (hlo0:lo<=0) :
  ∃ t,(jS ns (i:Int) cs nx).2=ns++t/\jC dm lo (ns++t)/\Rf (ns++t) lo i (jS ns (i:Int) cs nx).1/\t.length<=1/\(cs=[]->t=[])/\
   (∀ fs,vlF (ns++t) 9 (jS ns (i:Int) cs nx).1 fs=vlF (ns++t) 9 (nx.getD (brK cs (fs.getD i 0)) 0) fs)/\(∀ j,ns.length<=j->j<(ns++t).length->(jS ns (i:Int) cs nx).1=(j:Int))/\(∀ y∈t,∀ c∈y.2.2.1,c<(ns.length:Int)):=by
 obtain⟨x,nx,rfl⟩:∃ x t,nx=x::t:=by
  cases nx with
  |nil=>simp at hl
  |cons x t=>exact⟨x,t,rfl⟩
 have hl':nx.length=cs.length:=by simpa using hl
 have hv:=fun v=>VY cs nx x v hc.1 hl'
 have hm:=VZ cs nx x hl'
 have hln:=Jb cs nx x
 have hsub:=Cb cs nx x
 have Qn:=Jc cs nx x
 unfold jS
 simp only[List.headD_cons,List.tail_cons]
 have hcn:cs=[]->(cmpL x cs nx).1=[]:=fun e=>by rw[e,lY]
 generalize cmpL x cs nx=p at *
 obtain⟨c,n⟩:=p
 dsimp only at *
 unfold DU
 by_cases hcz:c=[]
 ·subst hcz
  rw[if_pos rfl]
  have hn:n=[]:=List.eq_nil_of_length_eq_zero (by simpa using hln)
  subst hn
  have hxr:=hnx x (by simp)
  refine⟨[],by simp,by simpa using hN,by simpa using hxr.weak (by omega),by simp,fun _=>rfl,fun fs=>?_,fun j h1 h2=>(by simp at h2;omega),fun y hy=>(by cases hy)⟩
  rw[<- hv];rfl
 rw[if_neg hcz]
 have hci:¬ cs=[]:=fun e=>hcz (hcn e)
 have hnd:∀ c'∈x::n,Rf ns lo (i+1) c':=fun c' h=>by
  rcases List.mem_cons.1 h with rfl|h
  ·exact hnx _ (by simp)
  ·exact hnx _ (List.mem_cons_of_mem _ (hsub.2.mem h))
 have val:∀ (t:List DS1) (r:Nat),dY dm (ns++t)->r<(ns++t).length->(ns++t).getD r zN=((i:Int),c,x::n,())->∀ fs,vlF (ns++t) 9 (r:Int) fs=vlF (ns++t) 9 ((x::nx).getD (brK cs (fs.getD i 0)) 0) fs:=fun t r hs hr e fs=>by
  rw[ow hd hs (by omega) (by omega),Int.toNat_natCast]
  have ek:kids (ns++t) r=x::n:=by unfold kids;rw[e]
  rw[ek,e]
  show vlF (ns++t) 9 ((x::n).getD (brK c (fs.getD (i:Int).toNat 0)) 0) fs=_
  rw[Int.toNat_natCast,hv]
 by_cases hin:((i:Int),c,x::n,())∈ns
 ·rw[if_pos hin]
  have hid:=List.idxOf_lt_length_of_mem hin
  have eg:ns.getD (ns.idxOf ((i:Int),c,x::n,())) zN=((i:Int),c,x::n,()):=by rw[getD_eq _ _ _ hid,List.getElem_idxOf]
  generalize ns.idxOf ((i:Int),c,x::n,())=k at hid eg
  refine⟨[],by simp,by simpa using hN,?_,by simp,fun _=>rfl,fun fs=>?_,fun j h1 h2=>(by simp at h2;omega),fun y hy=>(by cases hy)⟩
  ·rw[List.append_nil]
   refine⟨by show lo<=(k:Int);omega,by show (k:Int)<_;omega,fun _=>?_⟩
   show (i:Int)<=(ns.getD (k:Int).toNat zN).1
   rw[Int.toNat_natCast,eg];exact Int.le_refl _
  ·exact val [] k (by simpa using hN.1) (by simpa using hid) (by simpa using eg) fs
 ·rw[if_neg hin]
  have hnew:∀ k,k<ns.length->ns.getD k zN≠((i:Int),c,x::n,()):=fun k hk e=>hin (by rw[<- e,getD_eq _ _ _ hk];exact List.getElem_mem hk)
  have hcp:0<c.length:=List.length_pos_iff.2 hcz
  have hso:jo dm (ns++[((i:Int),c,x::n,())]) ((i:Int),c,x::n,()):=by
   refine⟨by show (0:Int)<=i;omega,by show (i:Int)<_;omega,hcp,by show (x::n).length=_;rw[List.length_cons,hln],fun k hk=>?_,fun k hk=>?_⟩
   ·show (dm.getD (i:Int).toNat zS).1<_/\_<=(dm.getD (i:Int).toNat zS).2.1/\_
    rw[Int.toNat_natCast]
    exact (hc.sub hsub.1).at k hk
   ·have hk':k<(x::n).length:=hk
    have hmk:=hnd ((x::n).getD k 0) (by rw[getD_eq _ _ _ hk'];exact List.getElem_mem hk')
    refine⟨⟨by show -256<=(x::n).getD k 0;have:=hmk.1;omega,(hmk.app _).2.1⟩,fun q=>?_,fun q=>?_⟩
    ·obtain⟨j,rfl⟩:∃ j,k=j+1:=⟨k-1,by omega⟩
     exact Qn j (by simpa using hk')
    ·have:=(hmk.app [((i:Int),c,x::n,())]).2.2 q
     show (i:Int)<((ns++[((i:Int),c,x::n,())]).getD ((x::n).getD k 0).toNat zN).1
     omega
  have hN2:=hN.snoc hso (fun y hy=>(hnd y hy).1) hnew
  have eg:=jd ns ((i:Int),c,x::n,()) zN
  have ek:kids (ns++[((i:Int),c,x::n,())]) ns.length=x::n:=by unfold kids;rw[eg]
  have hlt:ns.length<(ns++[((i:Int),c,x::n,())]).length:=by simp
  refine⟨[((i:Int),c,x::n,())],rfl,hN2,?_,by simp,fun e=>absurd e hci,fun fs=>?_,fun j h1 h2=>(by simp at h2;omega),fun y hy c' hc'=>(by obtain rfl:=List.mem_singleton.1 hy;exact (hnd c' hc').2.1)⟩
  ·refine⟨by show lo<=(ns.length:Int);omega,by show (ns.length:Int)<_;omega,fun _=>?_⟩
   show (i:Int)<=((ns++[((i:Int),c,x::n,())]).getD (ns.length:Int).toNat zN).1
   rw[Int.toNat_natCast,eg];exact Int.le_refl _
  ·exact val _ ns.length hN2.1 hlt eg fs
theorem xK {dm:List DS3} {ns:List DS1} (hs:dY dm ns) (t:List DS1) (fs:List Int):∀ (f:Nat) (r:Int),r<(ns.length:Int)->vlF (ns++t) f r fs=vlF ns f r fs:=by
 intro f
 induction f with
 |zero=>intro r _;rfl
 |succ f ih =>
  intro r hr
  rcases Int.lt_or_le r 0 with q|q
  ·rw[fD _ _ q,fD _ _ q]
  have hrt:r.toNat<ns.length:=by omega
  rw[iU _ _ q,iU _ _ q,FU _ _ hrt,eY _ _ _ hrt]
  exact ih _ (iK hs hrt (nZ hs hrt _)).2
end Abs
end Go.Proofs.YtgfnhpadmifiiaaDoor
section
namespace Go.Proofs.YtgfnhpadmifiiaaDoor
namespace Abs
def oD (dm:List DS3) (pre:List Int):Prop:=pre.length<=dm.length/\∀ i,i<pre.length->(dm.getD i zS).1<=pre.getD i 0/\pre.getD i 0<=(dm.getD i zS).2.1
theorem oD.nil (dm:List DS3):oD dm []:=⟨by simp,fun i hi=>by cases hi⟩
theorem oD.snoc {dm:List DS3} {pre:List Int} (h:oD dm pre) (hl:pre.length<dm.length) {v:Int} (h1:(dm.getD pre.length zS).1<=v) (h2:v<=(dm.getD pre.length zS).2.1):oD dm (pre++[v]):=by
 refine⟨by simp;omega,fun i hi=>?_⟩
 rw[List.length_append,List.length_singleton]at hi
 rcases Nat.lt_or_ge i pre.length with q|q
 ·rw[eY _ _ _ q];exact h.2 i q
 ·obtain rfl:i=pre.length:=by omega
  rw[jd];exact⟨h1,h2⟩
theorem Dh (fs:List Int) (i j:Nat):(fs.drop i).getD j 0=fs.getD (i+j) 0:=by
 rw[List.getD_eq_getElem?_getD,List.getElem?_drop,<- List.getD_eq_getElem?_getD]
theorem zk {pre fs:List Int} {j:Nat}:(pre++fs.drop pre.length).getD j 0=if j<pre.length then pre.getD j 0 else fs.getD j 0:=by
 split
 ·rename_i h;rw[eY _ _ _ h]
 ·rename_i h
  rw[List.getD_eq_getElem?_getD,List.getElem?_append_right (by omega),List.getElem?_drop,<- List.getD_eq_getElem?_getD,show pre.length+(j-pre.length)=j by omega]
theorem oD.fill {dm:List DS3} {pre:List Int} (h:oD dm pre) {fs:List Int} (hf:FOk dm fs):FOk dm (pre++fs.drop pre.length):=by
 refine⟨by rw[List.length_append,List.length_drop,hf.1];have:=h.1;omega,fun i hi=>?_⟩
 rw[zk]
 split
 ·rename_i q;exact h.2 i q
 ·exact hf.2 i hi
section
variable {dm:List DS3}
theorem Jo {ns:List DS1} (hd:dI dm) (hs:dY dm ns) {fs fs':List Int}:∀ (f:Nat) (r:Int),r<(ns.length:Int)->(∀ j,lvl dm ns r<=j->fs.getD j 0=fs'.getD j 0)->vlF ns f r fs=vlF ns f r fs':=by
 intro f
 induction f with
 |zero=>intro r _ _;rfl
 |succ f ih =>
  intro r hr h
  rcases Int.lt_or_le r 0 with q|q
  ·rw[fD _ _ q,fD _ _ q]
  have hrt:r.toNat<ns.length:=by omega
  have e:lvl dm ns r=(ns.getD r.toNat zN).1.toNat:=by unfold lvl;rw[if_neg (by omega)]
  rw[iU _ _ q,iU _ _ q,h (ns.getD r.toNat zN).1.toNat (by omega)]
  have hk:=nZ hs hrt (fs'.getD (ns.getD r.toNat zN).1.toNat 0)
  have:=jQ hd hs hrt hk
  exact ih _ (iK hs hrt hk).2 fun j hj=>h j (by omega)
theorem follow {ns:List DS1} (hd:dI dm) (hs:dY dm ns) {pre:List Int} (hp:oD dm pre):∀ (m:Nat) (r:Int),fJ ns.length r->rkI (rkA ns) r<=m->∃ r',fJ ns.length r'/\pre.length<=lvl dm ns r'/\∀ fs,vlF ns 9 r' fs=vlF ns 9 r (pre++fs.drop pre.length):=by
 intro m
 induction m with
 |zero =>
  intro r hr hm
  have q:r<0:=by unfold rkI at hm;split at hm;assumption;omega
  refine⟨r,hr,by unfold lvl;rw[if_pos q];exact hp.1,fun fs=>by rw[fD _ _ q,fD _ _ q]⟩
 |succ m ih =>
  intro r hr hm
  by_cases hl:pre.length<=lvl dm ns r
  ·refine⟨r,hr,hl,fun fs=>Jo hd hs _ _ hr.2 fun j hj=>?_⟩
   rw[zk,if_neg (by omega)]
  ·have q:0<=r:=by
    rcases Int.lt_or_le r 0 with q|q
    ·exfalso;apply hl;unfold lvl;rw[if_pos q];exact hp.1
    ·exact q
   have hrt:r.toNat<ns.length:=by have:=hr.2;omega
   have e:lvl dm ns r=(ns.getD r.toNat zN).1.toNat:=by unfold lvl;rw[if_neg (by omega)]
   have hk:=nZ hs hrt (pre.getD (ns.getD r.toNat zN).1.toNat 0)
   have hrk:=wV hd hs hrt hk
   unfold rkI at hm
   rw[if_neg (by omega)]at hm
   obtain⟨r',h1,h2,h3⟩:=ih _ (iK hs hrt hk) (by omega)
   refine⟨r',h1,h2,fun fs=>?_⟩
   rw[h3,ow hd hs q hr.2 (pre++fs.drop pre.length),zk,if_pos (by omega)]
def zT (dm:List DS3) (F:List Int->Int) (ns:List DS1) (r:Int):Prop:=∃ pre,oD dm pre/\∀ fs,FOk dm fs->vlF ns 9 r fs=F (pre++fs.drop pre.length)
theorem zT.app {F:List Int->Int} {ns:List DS1} (hs:dY dm ns) {r:Int} (hr:r<(ns.length:Int)) (h:zT dm F ns r) (t:List DS1):zT dm F (ns++t) r:=by
 obtain⟨pre,h1,h2⟩:=h
 exact⟨pre,h1,fun fs hf=>by rw[xK hs t fs 9 r hr];exact h2 fs hf⟩
theorem oO {ns:List DS1} (hd:dI dm) (hs:dY dm ns) {root:Int} (hr:root<(ns.length:Int)):rkI (rkA ns) root<=8:=by
 unfold rkI
 split
 ·omega
 ·exact (iR hd hs).2 _ (by omega)
theorem size_le {F:List Int->Int} {ts ns:List DS1} (hd:dI dm) (hT:Red dm ts) (hN:Red dm ns) {root:Int} (hroot:fJ ns.length root) (hv:∀ fs,FOk dm fs->vlF ns 9 root fs=F fs) (hS:∀ j,j<ts.length->zT dm F ts (j:Int)):ts.length<=ns.length:=by
 have key:∀ j:Nat,∃ k:Nat,j<ts.length->k<ns.length/\iO dm ts ns (j:Int) (k:Int):=fun j=>by
  rcases Nat.lt_or_ge j ts.length with q|q
  ·obtain⟨pre,p1,p2⟩:=hS j q
   obtain⟨r',a1,a2,a3⟩:=follow hd hN.1 p1 8 root hroot (oO hd hN.1 hroot.2)
   have hE:iO dm ts ns (j:Int) r':=⟨by omega,a1.2,fun fs hf=>by rw[p2 fs hf,a3 fs,hv _ (p1.fill hf)]⟩
   rcases hT.step hd hN hE with ⟨z,_⟩|⟨_,z,_⟩
   ·omega
   ·have h2:=a1.2
    exact⟨r'.toNat,fun _=>⟨by omega,by rw[show ((r'.toNat:Nat):Int)=r' by omega];exact hE⟩⟩
  ·exact⟨0,fun z=>by omega⟩
 obtain⟨φ,hφ⟩:=Classical.axiomOfChoice key
 have hnd:((List.range ts.length).map φ).Nodup:=by
  refine List.pairwise_map.2 ?_
  refine List.Pairwise.imp_of_mem ?_ (List.nodup_range (n:=ts.length))
  intro a b ha hb hne e
  have ha:=List.mem_range.1 ha
  have hb:=List.mem_range.1 hb
  have h1:=(hφ a ha).2
  have h2:=(hφ b hb).2
  have e:φ a=φ b:=e
  rw[e]at h1
  have:=hT.inj hd (h1.trans h2.symm)
  exact hne (by omega)
 have:=CV ns.length _ hnd fun x hx=>by
  obtain⟨j,hj,rfl⟩:=List.mem_map.1 hx
  exact (hφ j (List.mem_range.1 hj)).1
 rwa [List.length_map,List.length_range]at this
end
end Abs
end Go.Proofs.YtgfnhpadmifiiaaDoor
end
namespace Go.Proofs.YtgfnhpadmifiiaaDoor
namespace Abs
theorem Nf {x:DS1}:∀ (ns:List DS1) (j:Nat),j<ns.length->ns.getD j zN=x->(∀ j',j'<j->ns.getD j' zN≠x)->ns.idxOf x=j/\x∈ns:=by
 intro ns
 induction ns with
 |nil=>intro j h;cases h
 |cons y ns ih =>
  intro j hj he hf
  cases j with
  |zero =>
   have he:y=x:=he
   subst he
   exact⟨by simp,by simp⟩
  |succ j =>
   have h0:y≠x:=hf 0 (by omega)
   obtain⟨a,b⟩:=ih j (by simpa using hj) (by simpa using he) (fun j' hj'=>by have:=hf (j'+1) (by omega);simpa using this)
   refine⟨?_,List.mem_cons_of_mem _ b⟩
   rw[List.idxOf_cons,a]
   have:(y==x)=false:=by simpa using h0
   rw[this];rfl
theorem Qc {x:DS1} {ns:List DS1} (h:∀ j,j<ns.length->ns.getD j zN≠x):x∉ns:=fun hm=>by
 obtain⟨j,hj,e⟩:=List.getElem_of_mem hm
 exact h j hj (by rw[getD_eq _ _ _ hj];exact e)
def ixS (ns:List DS1):List DS7:=(List.range ns.length).map fun j=>(nD (ns.getD j zN),(j:Int),())
theorem Q9 (ns:List DS1) (x:DS1):ixS (ns++[x])=ixS ns++[(nD x,(ns.length:Int),())]:=by
 unfold ixS
 rw[List.length_append,List.length_singleton,List.range_succ,List.map_append,List.map_singleton,jd]
 congr 1
 refine List.map_congr_left fun j hj=>?_
 rw[eY _ _ _ (List.mem_range.1 hj)]
theorem PY (k:DS1) (ns:List DS1):∀ (m j:Nat),j+m=ns.length->(∀ j',j'<j->ns.getD j' zN≠k)->iM sEq (nD k) ((List.range' j m).map fun j=>(nD (ns.getD j zN),(j:Int),()))=if k∈ns then some (ns.idxOf k:Int) else none:=by
 intro m
 induction m with
 |zero =>
  intro j hj hf
  rw[if_neg (Qc fun i hi=>hf i (by omega))];rfl
 |succ m ih =>
  intro j hj hf
  rw[List.range'_succ,List.map_cons]
  simp only[iM]
  cases q:sEq (nD k) (nD (ns.getD j zN)) with
  |true =>
   rw[Ag]at q
   obtain⟨a,b⟩:=Nf ns j (by omega) (zx q).symm hf
   rw[if_pos b,a];rfl
  |false =>
   rw[Ah]at q
   exact ih (j+1) (by omega) fun j' hj'=>by
    rcases Nat.lt_or_ge j' j with r|r
    ·exact hf j' r
    ·obtain rfl:j'=j:=by omega
     exact fun e=>q (by rw[e])
theorem Vo (k:DS1) (ns:List DS1):iM sEq (nD k) (ixS ns)=if k∈ns then some (ns.idxOf k:Int) else none:=by
 unfold ixS
 rw[List.range_eq_range']
 exact PY k ns ns.length 0 (by omega) fun j hj=>by omega
theorem Vm (k:DS1) (ns:List DS1) (h:k∉ns):jJ sEq (nD k) (ns.length:Int) (ixS ns)=ixS (ns++[k]):=by
 rw[Q9]
 refine FC _ _ _ fun e he=>?_
 unfold ixS at he
 obtain⟨j,hj,rfl⟩:=List.mem_map.1 he
 rw[Ah]
 intro q
 refine h ?_
 rw[zx q,getD_eq _ _ _ (List.mem_range.1 hj)]
 exact List.getElem_mem _
theorem ME {dm:List DS3} {lo:Int} (hd:dI dm) (hlo:-256<=lo) (hlo0:lo<=0) {i:Nat} (hi:i < dm.length) {x:Int} {cs nx:List Int} {ns:List DS1} (hc:kG (dm.getD i zS).1 (dm.getD i zS).2.1 cs) (hl:nx.length=cs.length) (hnx:∀ c ∈ x :: nx,Rf ns lo (i + 1) c) (hN:jC dm lo ns) (hn:ns.length<=1000) (hcl:cs.length<=2000000001) (a b:List DS1) (op:Int) (me:List DS6) :
  xX (i:Int) a b op cs (x::nx) me ns (ixS ns)=some ((jS ns (i:Int) cs (x::nx)).1,a,b,op,cs,x::nx,me,(jS ns (i:Int) cs (x::nx)).2,ixS (jS ns (i:Int) cs (x::nx)).2,()):=by
 obtain⟨t,s1,s2,s3,s4,s5,s6,s7,_⟩:=MC hd hlo hi hc (by simpa using hl) hnx hN hlo0
 refine T.eq ?_
 unfold xX
 have hX:=aB (x::nx)
 have hC:=aB cs
 have hXl:(x::nx).length=nx.length+1:=rfl
 have e0:(List.replicate (Int.toNat 1) 0:List Int)=[0]:=rfl
 have e2:List.take (Int.toNat (((List.length (x::nx):Nat):Int)-1)) (List.drop (Int.toNat 1) (x::nx))=nx:=by
  show List.take _ nx=nx
  rw[List.take_of_length_le (by omega)]
 have e3:Int.toNat (((List.length (x::nx):Nat):Int)-1)=nx.length:=by omega
 rw[e2,e3,hX,hC,e0]
 refine T.grd (by rw[eF,eF,dL,dL,dM];omega) (T.grd (by rw[eF,eF,dL,dL,dM];omega) (T.grd (by rw[aH];omega) (T.grd (by rw[cu];simp) (T.grd (by rw[aH,aB];simp) (T.grd (by rw[cu];simp) (T.grd (by rw[dU];omega) ?_))))))
 refine T.loop (fun q=>∃ k:Nat,k<=nx.length/\q=((i:Int),nx,(nx.length:Int),(k:Int),a,b,op,cs,x::nx,me,ns,ixS ns,(cmpL x (cs.take k) (nx.take k)).1,x::(cmpL x (cs.take k) (nx.take k)).2,())) (fun q=>nx.length-q.2.2.2.1.toNat) ⟨0,by omega,by rw[List.take_zero,List.take_zero,lY];rfl⟩ ?_
 rintro _ ⟨k,hk,rfl⟩
 dsimp only
 have hln:=Jb (cs.take k) (nx.take k) x
 have hsb:=Cb (cs.take k) (nx.take k) x
 have hle:=hsb.1.length_le
 rw[List.length_take]at hle
 have hsn:∀ h:k<nx.length,cmpL x (cs.take (k+1)) (nx.take (k+1))=if nx[k]=(x::(cmpL x (cs.take k) (nx.take k)).2).getD (cmpL x (cs.take k) (nx.take k)).2.length 0 then cmpL x (cs.take k) (nx.take k) else ((cmpL x (cs.take k) (nx.take k)).1++[cs[k]'(by omega)],(cmpL x (cs.take k) (nx.take k)).2++[nx[k]]):=fun h=>by
  rw[List.take_succ_eq_append_getElem h,List.take_succ_eq_append_getElem (show k<cs.length by omega),QG _ _ _ _ _ (by simp;omega)]
 have hfin:k=nx.length->cmpL x (cs.take k) (nx.take k)=cmpL x cs nx:=fun h=>by rw[h,List.take_length,hl,List.take_length]
 have Qn:=Jc (cs.take k) (nx.take k) x
 generalize cmpL x (cs.take k) (nx.take k)=p at *
 obtain⟨c,n⟩:=p
 dsimp only at *
 have hNn:=aB (x::n)
 have hNl:(x::n).length=n.length+1:=rfl
 have hNx:=aB nx
 rw[hNx]
 refine T.cnd (fun hc1=>?_) (fun hc1=>?_)<;>simp only[aG,aD]at hc1
 ·have hkl:k<nx.length:=by omega
  have en1:dS .i64 (aj (x::n)) 1=(n.length:Int):=by rw[hNn,bS (by omega) (by omega)];omega
  have h1:=hsn hkl
  rw[en1,hNn,hC,bT]
  simp only[Int.toNat_natCast]
  rw[getD_eq nx k 0 hkl,getD_eq cs k 0 (by omega)]
  refine T.grd (by rw[aH];omega) (T.grd (by rw[aH];omega) (T.grd (by rw[cu];omega) (T.cnd (fun hc2=>?_) (fun hc2=>?_))))<;>simp only[dx,dK]at hc2
  ·rw[if_neg hc2]at h1
   refine T.grd (by rw[aH];omega) (T.grd (by rw[cu];omega) (T.grd (by rw[bG,List.length_singleton];omega) (T.grd (by rw[bG,List.length_singleton];omega) ?_)))
   refine T.go ⟨k+1,by omega,?_⟩ (by dsimp only;rw[aF (by omega) (by omega)];omega)
   rw[h1,aF (by omega) (by omega)];rfl
  ·rw[if_pos hc2]at h1
   refine T.go ⟨k+1,by omega,?_⟩ (by dsimp only;rw[aF (by omega) (by omega)];omega)
   rw[h1,aF (by omega) (by omega)];rfl
 ·obtain rfl:k=nx.length:=by omega
  have hf:=hfin rfl
  have hS:jS ns (i:Int) cs (x::nx)=DU ns (i:Int) x c n:=by unfold jS;rw[List.headD_cons,List.tail_cons,<- hf]
  rw[hS]at s1 s3 ⊢
  unfold DU at s1 s3 ⊢
  rw[hNn]
  have hCc:=aB c
  rw[hCc]
  refine T.kX (T.cnd (fun hc2=>?_) (fun hc2=>?_))<;>simp only[bf,bn]at hc2
  ·have hcz:c=[]:=List.eq_nil_of_length_eq_zero (by omega)
   rw[if_pos hcz]
   exact T.grd (by rw[aH];omega) (T.grd (by rw[cu];simp) (T.ret rfl))
  have hcz:c≠[]:=fun e=>by subst e;simp at hc2
  rw[if_neg hcz]
  have hNs:=aB ns
  rw[List.take_length]at hsb
  rw[show List.take nx.length cs=cs by rw[hl,List.take_length]]at hsb
  have hmem:∀ y∈x::n,Rf ns lo (i+1) y:=fun y hy=>by
   rcases List.mem_cons.1 hy with rfl|hy
   ·exact hnx _ (by simp)
   ·exact hnx _ (List.mem_cons_of_mem _ (hsb.2.mem hy))
  have hso:jo dm ns ((i:Int),c,x::n,()):=by
   refine⟨by show (0:Int)<=i;omega,by show (i:Int)<_;omega,by show 0<c.length;omega,by show (x::n).length=_;rw[List.length_cons,hln],fun k hk=>?_,fun k hk=>?_⟩
   ·show (dm.getD (i:Int).toNat zS).1<_/\_<=(dm.getD (i:Int).toNat zS).2.1/\_
    rw[Int.toNat_natCast]
    exact (hc.sub hsb.1).at k hk
   ·have hk':k<(x::n).length:=hk
    have hmk:=hmem ((x::n).getD k 0) (by rw[getD_eq _ _ _ hk'];exact List.getElem_mem hk')
    refine⟨⟨by show -256<=(x::n).getD k 0;have:=hmk.1;omega,hmk.2.1⟩,fun q=>?_,fun q=>?_⟩
    ·obtain⟨j,rfl⟩:∃ j,k=j+1:=⟨k-1,by omega⟩
     exact Qn j (by simpa using hk')
    ·have:=hmk.2.2 q
     show (i:Int)<(ns.getD ((x::n).getD k 0).toNat zN).1
     omega
  have hkey:=RU hd hn hso
  refine T.aX hkey ?_
  dsimp only
  have hmF:=Vo ((i:Int),c,x::n,()) ns
  unfold qA jw
  rw[hmF]
  by_cases hin:((i:Int),c,x::n,())∈ns
  ·rw[if_pos hin,if_pos hin]
   exact T.cf rfl (T.ret rfl)
  ·rw[if_neg hin,if_neg hin]
   refine T.ct rfl (T.grd (by rw[bG,List.length_singleton];omega) (T.ret ?_))
   rw[hNs,Vm _ _ hin]
def Ra (dm:List DS3) (F:List Int->Int) (ns:List DS1) (pre:List Int) (r:Int):Prop:=∀ fs,FOk dm fs->vlF ns 9 r fs=F (pre++fs.drop pre.length)
theorem Ra.app {dm:List DS3} {F:List Int->Int} {ns:List DS1} {pre:List Int} {r:Int} (h:Ra dm F ns pre r) (hs:dY dm ns) (hr:r<(ns.length:Int)) (t:List DS1):Ra dm F (ns++t) pre r:=fun fs hf=>by rw[xK hs t fs 9 r hr];exact h fs hf
end Abs
end Go.Proofs.YtgfnhpadmifiiaaDoor
section
namespace Go.Proofs.YtgfnhpadmifiiaaDoor
namespace Abs
def opS (op x y:Int):Int:=if op=1 then min x y else if op=2 then max x y else if op=3 then (if x=y then 0 else 1) else if x=0 then y else x
theorem XE (x y op:Int):m84 x y op=some (opS op x y,()):=by
 refine T.eq ?_
 unfold m84 opS
 refine T.cnd (fun h=>?_) (fun h=>?_)<;>simp only[bf,bn]at h
 ·rw[if_pos h];exact T.ret rfl
 rw[if_neg h]
 refine T.cnd (fun h=>?_) (fun h=>?_)<;>simp only[bf,bn]at h
 ·rw[if_pos h];exact T.ret rfl
 rw[if_neg h]
 refine T.cnd (fun h=>?_) (fun h=>?_)<;>simp only[bf,bn]at h
 ·rw[if_pos h]
  refine T.cnd (fun h=>?_) (fun h=>?_)<;>simp only[dx,dK]at h
  ·rw[if_neg h];exact T.ret rfl
  ·rw[if_pos h];exact T.ret rfl
 rw[if_neg h]
 refine T.cnd (fun h=>?_) (fun h=>?_)<;>simp only[bf,bn]at h
 ·rw[if_pos h];exact T.ret rfl
 ·rw[if_neg h];exact T.ret rfl
theorem Mh {op x y:Int} (h1:0<=x/\x<=255) (h2:0<=y/\y<=255):0<=opS op x y/\opS op x y<=255:=by
 unfold opS
 split
 ·omega
 ·split
  ·omega
  ·split
   ·split<;>omega
   ·split<;>omega
theorem rW:∀ (cs:List Int) (v:Int),brK cs v<cs.length->v<cs.getD (brK cs v) 0:=by
 intro cs
 induction cs with
 |nil=>intro v h;cases h
 |cons c cs ih =>
  intro v h
  simp only[brK]at h ⊢
  split at h
  ·rename_i q
   rw[if_pos q,List.getD_cons_succ]
   exact ih v (by simpa using h)
  ·rename_i q
   rw[if_neg q,List.getD_cons_zero];omega
section
variable {dm:List DS3}
theorem Fe (pre rest:List Int) (w:Int) (j:Nat):(pre++w::rest).getD j 0=if j<pre.length then pre.getD j 0 else if j=pre.length then w else rest.getD (j-pre.length-1) 0:=by
 split
 ·rename_i h;rw[eY _ _ _ h]
 ·rename_i h
  rw[List.getD_eq_getElem?_getD,List.getElem?_append_right (by omega)]
  split
  ·rename_i e;subst e;simp
  ·rename_i e
   obtain⟨k,hk⟩:∃ k,j-pre.length=k+1:=⟨j-pre.length-1,by omega⟩
   rw[hk,List.getElem?_cons_succ,<- List.getD_eq_getElem?_getD,Nat.add_sub_cancel]
def opF (op:Int) (na nb:List DS1) (ra rb:Int) (fs:List Int):Int:=opS op (vlF na 9 ra fs) (vlF nb 9 rb fs)
end
end Abs
end Go.Proofs.YtgfnhpadmifiiaaDoor
end
section
namespace Go.Proofs.YtgfnhpadmifiiaaDoor
namespace Abs
theorem Dl {cs:List Int} (h:cs.Pairwise (·<·)) {v:Int} {k:Nat} (hk:k<cs.length) (hv:cs.getD k 0<=v):k+1<=brK cs v:=by
 rcases Nat.lt_or_ge (brK cs v) (k+1) with q|q
 ·exfalso
  have h1:=rW cs v (by omega)
  have hp:=List.pairwise_iff_getElem.1 h
  rw[getD_eq _ _ _ (by omega)]at h1
  rw[getD_eq _ _ _ hk]at hv
  rcases Nat.lt_or_ge (brK cs v) k with r|r
  ·have:=hp _ _ (by omega) hk r;omega
  ·have e:brK cs v=k:=by omega
   simp only[e]at h1;omega
 ·exact q
theorem La {cs:List Int} {c v:Int} (h:brK cs v<cs.length):brK (cs++[c]) v=brK cs v:=by
 induction cs with
 |nil=>cases h
 |cons x cs ih =>
  simp only[List.cons_append,brK]at h ⊢
  split
  ·rename_i q
   rw[if_pos q]at h
   rw[ih (by simpa using h)]
  ·rfl
theorem xA {cs:List Int} {c v:Int} (h:brK cs v=cs.length):brK (cs++[c]) v=if c<=v then cs.length+1 else cs.length:=by
 induction cs with
 |nil=>simp only[List.nil_append,brK];split<;>rfl
 |cons x cs ih =>
  simp only[List.cons_append,brK]at h ⊢
  by_cases q:x<=v
  ·rw[if_pos q]at h ⊢
   rw[ih (by simpa using h)]
   split<;>simp
  ·rw[if_neg q]at h;simp at h
structure Mrg (lo hi:Int) (aC bC cuts:List Int) (i j:Nat) (X:Nat->Nat->Nat->Prop):Prop where
 ij:i<=aC.length/\j<=bC.length
 cut:kG lo hi cuts
 up:∀ c∈cuts,(i<aC.length->c<aC.getD i 0)/\(j<bC.length->c<bC.getD j 0)
 wit:∃ v,lo<=v/\v<=hi/\brK aC v=i/\brK bC v=j
 hit:∀ v,i<=brK aC v->j<=brK bC v->brK cuts v=cuts.length
 sem:∀ v,¬ (i<=brK aC v/\j<=brK bC v)->brK cuts v<cuts.length/\X (brK cuts v) (brK aC v) (brK bC v)
theorem Mrg.init {lo hi:Int} {aC bC:List Int} {X:Nat->Nat->Nat->Prop} (hb:lo<=hi) (ha:kG lo hi aC) (hb':kG lo hi bC):Mrg lo hi aC bC [] 0 0 X :=
 ⟨⟨Nat.zero_le _,Nat.zero_le _⟩,⟨List.Pairwise.nil,fun c hc=>by cases hc⟩,fun c hc=>(by cases hc),⟨lo,Int.le_refl _,hb,yE fun c hc=>(ha.2 c hc).1,yE fun c hc=>(hb'.2 c hc).1⟩,fun v _ _=>rfl,fun v h=>absurd ⟨Nat.zero_le _,Nat.zero_le _⟩ h⟩
theorem GJ {lo hi:Int} {cs:List Int} (hc:kG lo hi cs) {v0 c:Int} {i:Nat} (h0:brK cs v0=i) (hlt:v0<c) (hle:i<cs.length->c<=cs.getD i 0):brK cs c=if i<cs.length/\cs.getD i 0=c then i+1 else i:=by
 have hp:=List.pairwise_iff_getElem.1 hc.1
 have low:∀ k,k<i->cs.getD k 0<=c:=fun k hk=>by
  have:=GK cs v0 k (by omega)
  omega
 have hil:i<=cs.length:=by rw[<- h0];exact oq cs v0
 split
 ·rename_i h
  refine xw _ _ _ (by omega) (fun k hk=>?_) ?_
  ·rcases Nat.lt_or_ge k i with q|q
   ·exact low k q
   ·obtain rfl:k=i:=by omega
    omega
  ·rcases Nat.lt_or_ge (i+1) cs.length with q|q
   ·right
    have:=hp i (i+1) h.1 q (by omega)
    rw[getD_eq _ _ _ q]
    have h2:=h.2
    rw[getD_eq _ _ _ h.1]at h2
    omega
   ·left;omega
 ·rename_i h
  refine xw _ _ _ hil low ?_
  rcases Nat.lt_or_ge i cs.length with q|q
  ·right
   have:=hle q
   have:¬ cs.getD i 0=c:=fun e=>h ⟨q,e⟩
   omega
  ·left;omega
theorem Mrg.step {lo hi:Int} {aC bC cuts:List Int} {i j:Nat} {X X':Nat->Nat->Nat->Prop} (h:Mrg lo hi aC bC cuts i j X) (ha:kG lo hi aC) (hb:kG lo hi bC) {c:Int} (h1:i < aC.length->c<=aC.getD i 0) (h2:j < bC.length->c<=bC.getD j 0) (h3:(i < aC.length/\aC.getD i 0=c)\/(j < bC.length/\bC.getD j 0=c)) {i' j':Nat} (hI:i'=if i < aC.length/\aC.getD i 0=c then i + 1 else i) (hJ:j'=if j < bC.length/\bC.getD j 0=c then j + 1 else j)
  (hX:∀ k a b,k<cuts.length->X k a b->X' k a b) (hX2:X' cuts.length i j):Mrg lo hi aC bC (cuts++[c]) i' j' X':=by
 obtain⟨⟨q1,q2⟩,hcut,hup,⟨v0,w1,w2,w3,w4⟩,hhit,FZ⟩:=h
 have hcr:lo<c/\c<=hi:=by
  rcases h3 with ⟨r1,r2⟩|⟨r1,r2⟩
  ·have:=ha.2 _ (List.getElem_mem r1);rw[<- getD_eq _ _ 0 r1]at this;omega
  ·have:=hb.2 _ (List.getElem_mem r1);rw[<- getD_eq _ _ 0 r1]at this;omega
 have hv0:v0<c:=by
  rcases h3 with ⟨r1,r2⟩|⟨r1,r2⟩
  ·have:=rW aC v0 (by omega);rw[w3]at this;omega
  ·have:=rW bC v0 (by omega);rw[w4]at this;omega
 have ea:=GJ ha w3 hv0 h1
 have eb:=GJ hb w4 hv0 h2
 rw[<- hI]at ea
 rw[<- hJ]at eb
 have hi1:i<=i'/\i'<=i+1:=by rw[hI];split<;>omega
 have hj1:j<=j'/\j'<=j+1:=by rw[hJ];split<;>omega
 have hlt:∀ x∈cuts,x<c:=fun x hx=>by
  rcases h3 with ⟨r1,r2⟩|⟨r1,r2⟩
  ·have:=(hup x hx).1 r1;omega
  ·have:=(hup x hx).2 r1;omega
 have pass:∀ v,i<=brK aC v->j<=brK bC v->((i'<=brK aC v/\j'<=brK bC v)↔c<=v):=fun v r1 r2=>by
  constructor
  ·rintro⟨s1,s2⟩
   rcases h3 with ⟨t1,t2⟩|⟨t1,t2⟩
   ·rw[hI,if_pos ⟨t1,t2⟩]at s1
    have:=GK aC v i (by omega);omega
   ·rw[hJ,if_pos ⟨t1,t2⟩]at s2
    have:=GK bC v j (by omega);omega
  ·intro hc
   refine⟨?_,?_⟩
   ·rw[hI];split
    ·rename_i t
     exact Dl ha.1 t.1 (by omega)
    ·exact r1
   ·rw[hJ];split
    ·rename_i t
     exact Dl hb.1 t.1 (by omega)
    ·exact r2
 refine⟨⟨by rw[<- ea];exact oq _ _,by rw[<- eb];exact oq _ _⟩,⟨?_,fun x hx=>?_⟩,fun x hx=>?_,⟨c,by omega,hcr.2,ea,eb⟩,fun v r1 r2=>?_,fun v hn=>?_⟩
 ·rw[List.pairwise_append]
  exact⟨hcut.1,by simp,fun x hx y hy=>by obtain rfl:=List.mem_singleton.1 hy;exact hlt x hx⟩
 ·rcases List.mem_append.1 hx with r|r
  ·exact hcut.2 x r
  ·obtain rfl:=List.mem_singleton.1 r;exact hcr
 ·have hxc:x<=c:=by
   rcases List.mem_append.1 hx with r|r
   ·exact Int.le_of_lt (hlt x r)
   ·obtain rfl:=List.mem_singleton.1 r;exact Int.le_refl _
  refine⟨fun r=>?_,fun r=>?_⟩
  ·have:=rW aC c (by omega);rw[ea]at this;omega
  ·have:=rW bC c (by omega);rw[eb]at this;omega
 ·have hc:c<=v:=(pass v (by omega) (by omega)).1 ⟨r1,r2⟩
  rw[xA (hhit v (by omega) (by omega)),if_pos hc];simp
 ·by_cases ho:i<=brK aC v/\j<=brK bC v
  ·have hvc:¬ c<=v:=fun r=>hn ((pass v ho.1 ho.2).2 r)
   have ha2:brK aC v=i:=by
    have:brK aC v<=i:=by
     rcases Nat.lt_or_ge i aC.length with r|r
     ·exact NP aC v i r (by have:=h1 r;omega)
     ·have:=oq aC v;omega
    omega
   have hb2:brK bC v=j:=by
    have:brK bC v<=j:=by
     rcases Nat.lt_or_ge j bC.length with r|r
     ·exact NP bC v j r (by have:=h2 r;omega)
     ·have:=oq bC v;omega
    omega
   rw[xA (hhit v ho.1 ho.2),if_neg hvc,ha2,hb2]
   exact⟨by simp,hX2⟩
  ·obtain⟨s1,s2⟩:=FZ v ho
   rw[La s1]
   exact⟨by simp;omega,hX _ _ _ s1 s2⟩
theorem Mrg.last {lo hi:Int} {aC bC cuts:List Int} {X:Nat->Nat->Nat->Prop} (h:Mrg lo hi aC bC cuts aC.length bC.length X) (hX:X cuts.length aC.length bC.length) (v:Int):brK cuts v<=cuts.length/\X (brK cuts v) (brK aC v) (brK bC v):=by
 by_cases ho:aC.length<=brK aC v/\bC.length<=brK bC v
 ·have e1:brK aC v=aC.length:=by have:=oq aC v;omega
  have e2:brK bC v=bC.length:=by have:=oq bC v;omega
  rw[h.hit v ho.1 ho.2,e1,e2];exact⟨Nat.le_refl _,hX⟩
 ·obtain⟨s1,s2⟩:=h.sem v ho
  exact⟨Nat.le_of_lt s1,s2⟩
theorem kG.len {lo hi:Int} {cs:List Int} (h:kG lo hi cs) (h1:-1000000000<=lo) (h2:hi<=1000000000):cs.length<=2000000000:=by
 rcases Nat.eq_zero_or_pos cs.length with q|q
 ·omega
 ·have:=EU (cs:=cs) (lo:=lo) (hi:=hi) (fun k hk=>h.at k hk) (cs.length-1) (by omega)
  have h3:=(h.at (cs.length-1) (by omega)).2.1
  omega
section
variable {dm:List DS3}
def Br (dm:List DS3) (ns:List DS1) (p:Int) (m:Nat) (C N:List Int):Prop :=
 kG (dm.getD m zS).1 (dm.getD m zS).2.1 C/\N.length=C.length+1/\(∀ k,k<N.length->fJ ns.length (N.getD k 0)/\m+1<=lvl dm ns (N.getD k 0))/\∀ fs,vlF ns 9 p fs=vlF ns 9 (N.getD (brK C (fs.getD m 0)) 0) fs
theorem Br.node {ns:List DS1} (hd:dI dm) (hs:dY dm ns) {p:Int} (h0:0<=p) (hp:p<(ns.length:Int)):Br dm ns p (ns.getD p.toNat zN).1.toNat (ns.getD p.toNat zN).2.1 (kids ns p.toNat):=by
 have hpt:p.toNat<ns.length:=by omega
 have hsr:=hs _ hpt
 refine⟨⟨mR hsr,fun c hc=>?_⟩,hsr.2.2.2.1,fun k hk=>⟨iK hs hpt hk,jQ hd hs hpt hk⟩,fun fs=>ow hd hs h0 hp fs⟩
 obtain⟨k,hk,rfl⟩:=List.getElem_of_mem hc
 have:=hsr.2.2.2.2.1 k hk
 rw[getD_eq _ _ _ hk]at this
 exact⟨this.1,this.2.1⟩
theorem Br.none {ns:List DS1} {p:Int} (hp:fJ ns.length p) {m:Nat} (hm:m+1<=lvl dm ns p):Br dm ns p m [] [p] :=
 ⟨⟨List.Pairwise.nil,fun c hc=>by cases hc⟩,rfl,fun k hk=>by
  have:k=0:=by simp at hk;omega
  subst this;exact⟨hp,hm⟩,fun fs=>rfl⟩
def nk (dm:List DS3) (na nb:List DS1) (ra rb p q:Int) (m:Nat):Prop:=∃ pre,oD dm pre/\pre.length<=m/\∀ fs,FOk dm fs->vlF na 9 p fs=vlF na 9 ra (pre++fs.drop pre.length)/\vlF nb 9 q fs=vlF nb 9 rb (pre++fs.drop pre.length)
theorem nk.step {na nb:List DS1} (hd:dI dm) (hs:dY dm na) (hs':dY dm nb) {ra rb p q:Int} {m:Nat} (hm:m<dm.length) (h:nk dm na nb ra rb p q m) {aC aN bC bN:List Int} (ha:Br dm na p m aC aN) (hb:Br dm nb q m bC bN) {v:Int} (h1:(dm.getD m zS).1<=v) (h2:v<=(dm.getD m zS).2.1):nk dm na nb ra rb (aN.getD (brK aC v) 0) (bN.getD (brK bC v) 0) (m+1):=by
 obtain⟨pre,p1,p2,p3⟩:=h
 have hlo:=FOk.low hd
 have hll:((dm.map fun d=>d.1).take m).length=m:=by rw[List.length_take,hlo.1];omega
 have hpl:(pre++((dm.map fun d=>d.1).take m).drop pre.length++[v]).length=m+1:=by
  rw[List.length_append,List.length_append,List.length_drop,hll,List.length_singleton];omega
 have hat:∀ j,j<m->(pre++((dm.map fun d=>d.1).take m).drop pre.length).getD j 0=if j<pre.length then pre.getD j 0 else (dm.map fun d=>d.1).getD j 0:=fun j hj=>by
  split
  ·rename_i r;rw[eY _ _ _ r]
  ·rename_i r
   rw[List.getD_eq_getElem?_getD,List.getElem?_append_right (by omega),List.getElem?_drop,List.getElem?_take,if_pos (by omega),<- List.getD_eq_getElem?_getD,show pre.length+(j-pre.length)=j by omega]
 have hml:(pre++((dm.map fun d=>d.1).take m).drop pre.length).length=m:=by rw[List.length_append,List.length_drop,hll];omega
 refine⟨pre++((dm.map fun d=>d.1).take m).drop pre.length++[v],⟨by omega,fun j hj=>?_⟩,by omega,fun fs hf=>?_⟩
 ·rw[hpl]at hj
  rcases Nat.lt_or_ge j m with r|r
  ·rw[eY _ _ _ (by omega),hat j r]
   split
   ·rename_i z;exact p1.2 j z
   ·exact hlo.2 j (by omega)
  ·obtain rfl:j=m:=by omega
   have:(pre++((dm.map fun d=>d.1).take j).drop pre.length++[v]).getD j 0=v:=by
    have:=jd (pre++((dm.map fun d=>d.1).take j).drop pre.length) v 0
    rwa [hml]at this
   rw[this];exact⟨h1,h2⟩
 ·have hf':FOk dm ((dm.map fun d=>d.1).take m ++ v :: fs.drop (m + 1)):=by
   refine⟨by rw[List.length_append,hll,List.length_cons,List.length_drop,hf.1];omega,fun j hj=>?_⟩
   rw[Fe,hll]
   split
   ·rename_i r
    have:((dm.map fun d=>d.1).take m).getD j 0=(dm.map fun d=>d.1).getD j 0:=by
     rw[List.getD_eq_getElem?_getD,List.getElem?_take,if_pos r,<- List.getD_eq_getElem?_getD]
    rw[this];exact hlo.2 j hj
   ·split
    ·rename_i r;subst r;exact⟨h1,h2⟩
    ·rename_i r1 r2
     rw[Dh,show m+1+(j-m-1)=j by omega];exact hf.2 j hj
  have e1:((dm.map fun d=>d.1).take m++v::fs.drop (m+1)).getD m 0=v:=by rw[Fe,hll,if_neg (by omega),if_pos rfl]
  have e2:pre++((dm.map fun d=>d.1).take m++v::fs.drop (m+1)).drop pre.length=pre++((dm.map fun d=>d.1).take m).drop pre.length++[v]++fs.drop (m+1):=by
   rw[List.drop_append_of_le_length (by omega)]
   simp
  have ag:∀ j,m+1<=j->((dm.map fun d=>d.1).take m++v::fs.drop (m+1)).getD j 0=fs.getD j 0:=fun j hj=>by
   rw[Fe,hll,if_neg (by omega),if_neg (by omega),Dh,show m+1+(j-m-1)=j by omega]
  have side:∀ {ns:List DS1} {p:Int} {C N:List Int},dY dm ns->Br dm ns p m C N->vlF ns 9 (N.getD (brK C v) 0) fs=vlF ns 9 p ((dm.map fun d=>d.1).take m++v::fs.drop (m+1)):=fun {ns p C N} hs hB=>by
   obtain⟨b1,b2,b3,b4⟩:=hB
   have hk:brK C v<N.length:=by have:=oq C v;omega
   obtain⟨c1,c2⟩:=b3 _ hk
   rw[b4,e1]
   exact (Jo hd hs 9 _ c1.2 fun j hj=>ag j (by omega)).symm
  rw[hpl,side hs ha,side hs' hb,<- e2]
  exact p3 _ hf'
end
theorem Zc {a b:DS3}:eqT tS3 a b=true↔a=b:=by
 obtain⟨x,y,⟨⟩⟩:=a
 obtain⟨z,w,⟨⟩⟩:=b
 show (iEq x z&&(iEq y w&&true))=true↔_
 rw[Bool.and_true,Bool.and_eq_true,bf,bf]
 constructor
 ·rintro⟨rfl,rfl⟩;rfl
 ·intro h;injection h with h1 h2;injection h2 with h2 _;exact⟨h1,h2⟩
theorem MP {β:Type} (k k':DS3) (v:β):∀ es:List (DS3×β×Unit),iM (eqT tS3) k (jJ (eqT tS3) k' v es)=if k=k' then some v else iM (eqT tS3) k es:=by
 have dec:∀ a b:DS3,eqT tS3 a b=decide (a=b):=fun a b=>by
  rw[Bool.eq_iff_iff,Zc,decide_eq_true_eq]
 intro es
 induction es with
 |nil =>
  simp only[jJ,iM,dec]
  by_cases h:k=k'
  ·subst h;simp
  ·simp[h]
 |cons e es ih =>
  simp only[jJ,dec]
  by_cases h:k'=e.1
  ·subst h
   simp only[decide_true,cond_true,iM,dec]
   by_cases h2:k=e.1
   ·simp[h2]
   ·simp[h2]
  ·simp only[h,decide_false,cond_false,iM,dec,ih]
   by_cases h2:k=e.1
   ·have h3:k≠k':=fun z=>h (z▸h2)
    simp[h2]
    intro z;exact absurd z (fun z=>h z.symm)
   ·simp[h2]
end Abs
end Go.Proofs.YtgfnhpadmifiiaaDoor
end
section
namespace Go.Proofs.YtgfnhpadmifiiaaDoor
namespace Abs
def iZ (dm:List DS3) (na nb:List DS1) (op:Int) (ns:List DS1) (r p q:Int):Prop:=∀ fs,FOk dm fs->vlF ns 9 r fs=opS op (vlF na 9 p fs) (vlF nb 9 q fs)
def R8 (ns:List DS1):Prop:=∀ i,i<ns.length->∀ c∈kids ns i,c<(i:Int)
def oz (dm:List DS3) (na nb:List DS1) (ra rb op:Int) (me:List DS6) (ns:List DS1):Prop :=
 jC dm (-256) ns/\(∀ p q r,iM (eqT tS3) (p,q,()) me=some r->Rf ns (-256) (min (lvl dm na p) (lvl dm nb q)) r/\iZ dm na nb op ns r p q)/\(∀ j:Nat,j<ns.length->zT dm (opF op na nb ra rb) ns (j:Int))/\R8 ns
section
variable {dm:List DS3} {na nb:List DS1} {ra rb op:Int}
theorem iZ.app {ns:List DS1} {r p q:Int} (h:iZ dm na nb op ns r p q) (hs:dY dm ns) (hr:r<(ns.length:Int)) (t:List DS1):iZ dm na nb op (ns++t) r p q:=fun fs hf=>by rw[xK hs t fs 9 r hr];exact h fs hf
theorem oz.node (hd:dI dm) (hA:dY dm na) (hB:dY dm nb) {me:List DS6} {ns:List DS1} (h:oz dm na nb ra rb op me ns) (hn:ns.length<=1000) {p q:Int} {m:Nat} (hm:m < dm.length) (hml:min (lvl dm na p) (lvl dm nb q)=m) (hP:nk dm na nb ra rb p q m) {aC aN bC bN cuts nx:List Int} (ha:Br dm na p m aC aN) (hb:Br dm nb q m bC bN)
  (hl:nx.length=cuts.length+1) (hnx:∀ c∈nx,Rf ns (-256) (m+1) c) (hM:Mrg (dm.getD m zS).1 (dm.getD m zS).2.1 aC bC cuts aC.length bC.length (fun k a b=>iZ dm na nb op ns (nx.getD k 0) (aN.getD a 0) (bN.getD b 0))) (hL:iZ dm na nb op ns (nx.getD cuts.length 0) (aN.getD aC.length 0) (bN.getD bC.length 0)) :
  ∃ t,(jS ns (m:Int) cuts nx).2=ns++t/\oz dm na nb ra rb op (jJ (eqT tS3) (p,q,()) (jS ns (m:Int) cuts nx).1 me) (ns++t)/\(ns++t).length<=1001/\Rf (ns++t) (-256) m (jS ns (m:Int) cuts nx).1/\iZ dm na nb op (ns++t) (jS ns (m:Int) cuts nx).1 p q:=by
 obtain⟨hN,hme,hsb,htp⟩:=h
 obtain⟨t,s1,s2,s3,s4,s5,s6,s7,s8⟩:=MC hd (by omega) hm hM.cut hl hnx hN (by omega)
 have FZ:iZ dm na nb op (ns++t) (jS ns (m:Int) cuts nx).1 p q:=fun fs hf=>by
  obtain⟨k1,k2⟩:=hM.last hL (fs.getD m 0)
  rw[s6 fs]
  have hmem:nx.getD (brK cuts (fs.getD m 0)) 0∈nx:=by rw[getD_eq _ _ _ (by omega)];exact List.getElem_mem _
  rw[xK hN.1 t fs 9 _ (hnx _ hmem).2.1,k2 fs hf,<- ha.2.2.2 fs,<- hb.2.2.2 fs]
 obtain⟨pre,p1,p2,p3⟩:=hP
 have hsub:zT dm (opF op na nb ra rb) (ns++t) (jS ns (m:Int) cuts nx).1:=⟨pre,p1,fun fs hf=>by
  rw[FZ fs hf,(p3 fs hf).1,(p3 fs hf).2];rfl⟩
 refine⟨t,s1,⟨s2,fun p' q' r' he=>?_,fun j hj=>?_,fun j hj c hc=>?_⟩,by rw[List.length_append];omega,s3,FZ⟩
 ·have he2:=(MP (p',q',()) (p,q,()) (jS ns (m:Int) cuts nx).1 me).symm.trans he
  by_cases e:((p',q',()):DS3)=(p,q,())
  ·rw[if_pos e]at he2
   injection e with e1 e2
   injection e2 with e2 _
   subst e1 e2
   rw[<- Option.some.inj he2,hml]
   exact⟨s3,FZ⟩
  ·rw[if_neg e]at he2
   obtain⟨z1,z2⟩:=hme p' q' r' he2
   exact⟨z1.app t,z2.app hN.1 z1.2.1 t⟩
 ·rcases Nat.lt_or_ge j ns.length with r|r
  ·exact (hsb j r).app hN.1 (by omega) t
  ·rw[<- s7 j r hj];exact hsub
 ·rcases Nat.lt_or_ge j ns.length with r|r
  ·rw[FU _ _ r]at hc;exact htp j r c hc
  ·have hm:(ns ++ t).getD j zN ∈ t:=by
    rw[List.getD_eq_getElem?_getD,List.getElem?_append_right r,List.getElem?_eq_getElem (by rw[List.length_append]at hj;omega)]
    exact List.getElem_mem _
   have:=s8 _ hm c hc
   omega
end
theorem Vg (x:DS3×(List DS1)×(List DS1)×Int×(List DS6)×(List DS1)×(List DS7)×Unit):Mo fun s=>BM s x.1 x.2.1 x.2.2.1 x.2.2.2.1 x.2.2.2.2.1 x.2.2.2.2.2.1 x.2.2.2.2.2.2.1:=by
 unfold BM;(repeat' (first|exact Mo.const _|exact Mo.self _|apply Mo.bind|apply Mo.cond|apply Mo.map|apply Mo.join|apply Mo.loop|(intro _)))
theorem Bc (l:List DS1) {r:Int} (h:r<0):m85 l r=some ((6,[],[r],()),()):=T.eq (by unfold m85;exact T.ct (by rw[aG];exact h) (T.ret rfl))
theorem Bb (l:List DS1) {r:Int} (h:0<=r) (hr:r<(l.length:Int)):m85 l r=some (((l.getD r.toNat zN).1,(l.getD r.toNat zN).2.1,kids l r.toNat,()),()):=T.eq (by unfold m85;exact T.cf (by rw[aD];exact h) (T.grd (by rw[aH,aB];exact⟨h,hr⟩) (T.ret rfl)))
theorem yB {xs:List Int} {n:Nat} (h:xs.length=n+1):xs.headD 0::xs.tail=xs:=by
 cases xs with
 |nil=>cases h
 |cons x xs=>rfl
section
variable {dm:List DS3} {na nb:List DS1} {ra rb op:Int}
set_option maxHeartbeats 2000000 in
theorem XA (hd:dI dm) (hA:dY dm na) (hB:dY dm nb) (p q:Int) (me:List DS6) (ns:List DS1) (hp:fJ na.length p) (hq:fJ nb.length q) (hP:nk dm na nb ra rb p q (min (lvl dm na p) (lvl dm nb q))) (hS:oz dm na nb ra rb op me ns) (hn:ns.length<=1000) :
  T (m66 (p,q,()) na nb op me ns (ixS ns)) (fun y=>∃ r me' t,y=(r,na,nb,op,me',ns++t,ixS (ns++t),())/\oz dm na nb ra rb op me' (ns++t)/\(ns++t).length<=1001/\((ns++t).length<=1000->Rf (ns++t) (-256) (min (lvl dm na p) (lvl dm nb q)) r/\iZ dm na nb op (ns++t) r p q)):=by
 unfold m66
 refine AP (ι:=Int×Int×List DS6×List DS1) Vg (fun g=>((g.1,g.2.1,()),na,nb,op,g.2.2.1,g.2.2.2,ixS g.2.2.2,())) (fun g=>fJ na.length g.1/\fJ nb.length g.2.1/\nk dm na nb ra rb g.1 g.2.1 (min (lvl dm na g.1) (lvl dm nb g.2.1))/\oz dm na nb ra rb op g.2.2.1 g.2.2.2/\g.2.2.2.length<=1000)
  (fun g y=>∃ r me' t,y=(r,na,nb,op,me',g.2.2.2++t,ixS (g.2.2.2++t),())/\oz dm na nb ra rb op me' (g.2.2.2++t)/\(g.2.2.2++t).length<=1001/\((g.2.2.2++t).length<=1000->Rf (g.2.2.2++t) (-256) (min (lvl dm na g.1) (lvl dm nb g.2.1)) r/\iZ dm na nb op (g.2.2.2++t) r g.1 g.2.1)) (fun g=>dm.length-min (lvl dm na g.1) (lvl dm nb g.2.1)) ?_ (p,q,me,ns) ⟨hp,hq,hP,hS,hn⟩
 clear hp hq hP hS hn
 rintro⟨p,q,me,ns⟩ ⟨hp,hq,hP,hS,hn⟩ s ih
 dsimp only at hp hq hP hS hn ih ⊢
 unfold BM
 dsimp only
 obtain⟨hN,hme,hsb,htp⟩:=id hS
 have p1:=hp.1
 have p2:=hp.2
 have q1:=hq.1
 have q2:=hq.2
 refine T.cnd (fun hc=>?_) (fun hc=>?_)<;>simp only[bg,bq,aG,aD]at hc
 ·have EF:∀ r:Int,-256<=r->r < 0->m72 r=some (-1 - r,()):=fun r h1 h2=>by
   show some (dS .i64 (-1) r,())=_
   rw[bS (by omega) (by omega)]
  have hbd:=Mh (op:=op) (x:=-1-p) (y:=-1-q) (by omega) (by omega)
  refine T.aX (EF p p1 hc.1) (T.aX (EF q q1 hc.2) ?_)
  dsimp only
  refine T.aX (XE _ _ _) ?_
  dsimp only
  refine T.aX (v:=(-1-opS op (-1-p) (-1-q),())) (by show some (dS .i64 (-1) _,())=_;rw[bS (by omega) (by omega)]) ?_
  dsimp only
  refine T.ret ⟨-1-opS op (-1-p) (-1-q),me,[],?_,by simpa using hS,by simp;omega,fun _=>⟨⟨by omega,by omega,fun z=>by omega⟩,fun fs hf=>by rw[fD _ _ (by omega),fD _ _ hc.1,fD _ _ hc.2];omega⟩⟩
  rw[List.append_nil]
 refine T.cnd (fun hc1=>?_) (fun hc1=>?_)
 ·obtain ⟨r,hr⟩:∃ r,iM (eqT tS3) (p,q,()) me=some r:=by
   unfold qA at hc1
   exact Option.isSome_iff_exists.1 hc1
  obtain⟨z1,z2⟩:=hme p q r hr
  have eG:jw (eqT tS3) (p,q,()) me 0=r:=by unfold jw;rw[hr];rfl
  have z1':Rf ns (-256) (min (lvl dm na p) (lvl dm nb q)) (jw (eqT tS3) (p,q,()) me 0):=by rw[eG];exact z1
  have z2':iZ dm na nb op ns (jw (eqT tS3) (p,q,()) me 0) p q:=by rw[eG];exact z2
  exact T.ret ⟨_,me,[],by rw[List.append_nil],by simpa using hS,by simp;omega,fun _=>⟨by rw[List.append_nil];exact z1',by rw[List.append_nil];exact z2'⟩⟩
 have hmd:min (lvl dm na p) (lvl dm nb q)<dm.length:=by
  have side:∀ {ns:List DS1} {r:Int},dY dm ns->0<=r->r<(ns.length:Int)->lvl dm ns r<dm.length:=fun {ns r} hs h0 hr=>by
   unfold lvl
   rw[if_neg (by omega)]
   have:=(hs r.toNat (by omega)).1
   have:=(hs r.toNat (by omega)).2.1
   omega
  rcases hc with z|z
  ·have:=side hA z p2;omega
  ·have:=side hB z q2;omega
 generalize hmv:min (lvl dm na p) (lvl dm nb q)=m at *
 have hd2:=hd.2.1
 have hbr:∀ {ns:List DS1} {r:Int},dY dm ns->fJ ns.length r->∃ A C N,m85 ns r=some ((A,C,N,()),())/\((r<0/\A=6/\lvl dm ns r=dm.length)\/(0<=r/\A=(lvl dm ns r:Int)/\lvl dm ns r<dm.length/\Br dm ns r (lvl dm ns r) C N)):=fun {ns r} hs hr=>by
  rcases Int.lt_or_le r 0 with z|z
  ·exact⟨_,_,_,Bc ns z,.inl ⟨z,rfl,by unfold lvl;rw[if_pos z]⟩⟩
  ·have hrt:r.toNat<ns.length:=by have:=hr.2;omega
   have h1:=(hs _ hrt).1
   have h2:=(hs _ hrt).2.1
   have e:lvl dm ns r=(ns.getD r.toNat zN).1.toNat:=by unfold lvl;rw[if_neg (by omega)]
   have hB:=Br.node hd hs z hr.2
   rw[<- e]at hB
   exact⟨_,_,_,Bb ns z hr.2,.inr ⟨z,by omega,by omega,hB⟩⟩
 obtain⟨A1,C1,N1,e1,h1⟩:=hbr hA hp
 obtain⟨A2,C2,N2,e2,h2⟩:=hbr hB hq
 refine T.aX e1 (T.aX e2 ?_)
 dsimp only
 refine T.join (fun s=>∃ (aA bA:Int) (aC aN bC bN:List Int),aA=(m:Int)/\Br dm na p m aC aN/\Br dm nb q m bC bN/\s=(na,nb,op,me,ns,ixS (ns),[(p,q,())],aA,aC,aN,bA,bC,bN,())) ?_ ?_
 ·refine T.cnd (fun hc2=>?_) (fun hc2=>?_)<;>simp only[aG,aD]at hc2
  ·rcases h1 with ⟨z1,z2,z3⟩|⟨z1,z2,z3,z4⟩
   ·exfalso
    rcases h2 with ⟨y1,y2,y3⟩|⟨y1,y2,y3,y4⟩<;>omega
   ·have hm1:lvl dm na p=m:=by
     rcases h2 with ⟨y1,y2,y3⟩|⟨y1,y2,y3,y4⟩<;>omega
    have hm2:m+1<=lvl dm nb q:=by
     rcases h2 with ⟨y1,y2,y3⟩|⟨y1,y2,y3,y4⟩<;>omega
    rw[hm1]at z4
    exact T.jgo ⟨_,_,_,_,_,_,by omega,z4,Br.none hq hm2,rfl⟩
  refine T.cnd (fun hc3=>?_) (fun hc3=>?_)<;>simp only[aG,aD]at hc3
  ·rcases h2 with ⟨z1,z2,z3⟩|⟨z1,z2,z3,z4⟩
   ·exfalso
    rcases h1 with ⟨y1,y2,y3⟩|⟨y1,y2,y3,y4⟩<;>omega
   ·have hm1:lvl dm nb q=m:=by
     rcases h1 with ⟨y1,y2,y3⟩|⟨y1,y2,y3,y4⟩<;>omega
    have hm2:m+1<=lvl dm na p:=by
     rcases h1 with ⟨y1,y2,y3⟩|⟨y1,y2,y3,y4⟩<;>omega
    rw[hm1]at z4
    exact T.jgo ⟨_,_,_,_,_,_,by omega,Br.none hp hm2,z4,rfl⟩
  ·rcases h1 with ⟨z1,z2,z3⟩|⟨z1,z2,z3,z4⟩
   ·exfalso
    rcases h2 with ⟨y1,y2,y3⟩|⟨y1,y2,y3,y4⟩<;>omega
   ·rcases h2 with ⟨y1,y2,y3⟩|⟨y1,y2,y3,y4⟩
    ·exfalso;omega
    ·have hm1:lvl dm na p=m:=by omega
     have hm2:lvl dm nb q=m:=by omega
     rw[hm1]at z4
     rw[hm2]at y4
     exact T.jgo ⟨_,_,_,_,_,_,by omega,z4,y4,rfl⟩
 rintro _ ⟨aA,bA,aC,aN,bC,bN,rfl,ha,hb,rfl⟩
 clear h1 h2 e1 e2 hbr
 dsimp only
 have hdm:=hd.at hmd
 have hAl:=aB aC
 have hBl:=aB bC
 have Qq:=aB aN
 have Qp:=aB bN
 have hac:=ha.1.len hdm.2.1 hdm.2.2
 have hbc:=hb.1.len hdm.2.1 hdm.2.2
 have ha2:=ha.2.1
 have hb2:=hb.2.1
 refine T.loop (fun s=>∃ (i j:Nat) (me:List DS6) (t:List DS1) (cuts nx:List Int),oz dm na nb ra rb op me (ns++t)/\(ns++t).length<=1000/\nx.length=cuts.length/\(∀ c∈nx,Rf (ns++t) (-256) (m+1) c)/\Mrg (dm.getD m zS).1 (dm.getD m zS).2.1 aC bC cuts i j (fun k a b=>iZ dm na nb op (ns++t) (nx.getD k 0) (aN.getD a 0) (bN.getD b 0))/\s=((i:Int),(j:Int),na,nb,op,me,ns++t,ixS (ns++t),[(p,q,())],(m:Int),aC,aN,bA,bC,bN,cuts,nx,())) (fun s=>(aC.length-s.1.toNat)+(bC.length-s.2.1.toNat)) ⟨0,0,me,[],[],[],by rw[List.append_nil];exact hS,by rw[List.append_nil];exact hn,rfl,fun c hc=>(by cases hc),Mrg.init hdm.1 ha.1 hb.1,by rw[List.append_nil];rfl⟩ ?_
 rintro _ ⟨i,j,me,t,cuts,nx,hS,hn,hnl,hnx,hM,rfl⟩
 dsimp only
 have hi:=hM.ij.1
 have hj:=hM.ij.2
 have hcl:=hM.cut.len hdm.2.1 hdm.2.2
 rw[hAl,hBl,Qq,Qp,bT,bT,bT,bT]
 obtain⟨v,v1,v2,v3,v4⟩:=hM.wit
 have hPP:=nk.step hd hA hB hmd hP ha hb v1 v2
 rw[v3,v4]at hPP
 obtain⟨c1,c2⟩:=ha.2.2.1 i (by omega)
 obtain⟨d1,d2⟩:=hb.2.2.1 j (by omega)
 have hll:=FL hd hA c1.2
 have Qo:nk dm na nb ra rb (aN.getD i 0) (bN.getD j 0) (min (lvl dm na (aN.getD i 0)) (lvl dm nb (bN.getD j 0))):=by
  obtain⟨pre,w1,w2,w3⟩:=hPP
  exact⟨pre,w1,by omega,w3⟩
 refine T.grd (by rw[aH];omega) (T.grd (by rw[aH];omega) (T.call (ih (aN.getD i 0,bN.getD j 0,me,ns++t) ⟨c1,d1,Qo,hS,hn⟩ (by dsimp only;omega)) ?_))
 rintro _ ⟨r,me',t2,rfl,hS2,hl2,hr2⟩
 dsimp only at hS2 hl2 hr2 ⊢
 rw[List.append_assoc]at hS2 hl2 hr2 ⊢
 have hNl:=aB (ns++(t++t2))
 refine T.grd (by rw[bG,List.length_singleton];omega) (T.aX (show sP _ _ _ _ _ _=some _ from rfl) ?_)
 dsimp only
 rw[hNl]
 refine T.cnd (fun hc3=>?_) (fun hc3=>?_)<;>simp only[aG,aD]at hc3
 ·refine T.aX (show m40 0=some _ from rfl) (T.out ⟨_,me',t++t2,rfl,hS2,hl2,fun z=>by omega⟩)
 obtain⟨hrf,hrs⟩:=hr2 (by omega)
 have hrf:Rf (ns++(t++t2)) (-256) (m+1) r:=hrf.weak (by omega)
 have hnx2:∀ c∈nx++[r],Rf (ns++(t++t2)) (-256) (m+1) c:=fun c hc=>by
  rcases List.mem_append.1 hc with z|z
  ·have:=(hnx c z).app t2
   rwa [List.append_assoc]at this
  ·obtain rfl:=List.mem_singleton.1 z;exact hrf
 have hX:∀ k a b,k<cuts.length->iZ dm na nb op (ns++t) (nx.getD k 0) (aN.getD a 0) (bN.getD b 0)->iZ dm na nb op (ns++(t++t2)) ((nx++[r]).getD k 0) (aN.getD a 0) (bN.getD b 0):=fun k a b hk h=>by
  rw[eY _ _ _ (by omega)]
  have hmem:nx.getD k 0∈nx:=by rw[getD_eq _ _ _ (by omega)];exact List.getElem_mem _
  have:=h.app hS.1.1 (hnx _ hmem).2.1 t2
  rwa [List.append_assoc]at this
 have hX2:iZ dm na nb op (ns++(t++t2)) ((nx++[r]).getD cuts.length 0) (aN.getD i 0) (bN.getD j 0):=by
  rw[<- hnl,jd];exact hrs
 have rQ:(nx++[r]).length=cuts.length+1:=by simp;omega
 refine T.cnd (fun hc4=>?_) (fun hc4=>?_)<;>simp only[bg,bq,bf,bn]at hc4
 ·obtain rfl:i=aC.length:=by omega
  obtain rfl:j=bC.length:=by omega
  have hM2:Mrg (dm.getD m zS).1 (dm.getD m zS).2.1 aC bC cuts aC.length bC.length (fun k a b=>iZ dm na nb op (ns++(t++t2)) ((nx++[r]).getD k 0) (aN.getD a 0) (bN.getD b 0)):=⟨hM.ij,hM.cut,hM.up,hM.wit,hM.hit,fun w hw=>⟨(hM.sem w hw).1,hX _ _ _ (hM.sem w hw).1 (hM.sem w hw).2⟩⟩
  obtain⟨t3,s1,s2,s3,s4,s5⟩:=hS2.node hd hA hB (by omega) hmd hmv hP ha hb rQ hnx2 hM2 hX2
  have vL:=ME (lo:=-256) hd (by omega) (by omega) hmd (x:=(nx++[r]).headD 0) (cs:=cuts) (nx:=(nx++[r]).tail) (ns:=ns++(t++t2)) hM.cut (by rw[List.length_tail,rQ];omega) (by rw[yB rQ];exact hnx2) hS2.1 (by omega) (by omega) na nb op me'
  rw[yB rQ]at vL
  refine T.kX (T.aX vL ?_)
  dsimp only
  refine T.grd (by rw[eF,eF];exact⟨Nat.beq_refl _,Nat.beq_refl _,rfl⟩) (T.grd (by rw[cu];simp) (T.ret ?_))
  rw[s1]at *
  rw[List.append_assoc]at s2 s3 s4 s5 ⊢
  exact⟨_,_,t++t2++t3,rfl,s2,s3,fun _=>⟨s4,s5⟩⟩
 have ei:aM .i64 (i:Int) 1=((i+1:Nat):Int):=by rw[aF (by omega) (by omega)];omega
 have ej:aM .i64 (j:Int) 1=((j+1:Nat):Int):=by rw[aF (by omega) (by omega)];omega
 rw[ei,ej]
 have go:∀ (c:Int) (i' j':Nat),(i < aC.length->c<=aC.getD i 0)->(j < bC.length->c<=bC.getD j 0)->((i < aC.length/\aC.getD i 0=c)\/(j < bC.length/\bC.getD j 0=c))->(i'=if i < aC.length/\aC.getD i 0=c then i + 1 else i)->(j'=if j < bC.length/\bC.getD j 0=c then j + 1 else j) ->
   ∀ Q,T (some (Sum.inl (β:=Int×(List DS1)×(List DS1)×Int×(List DS6)×(List DS1)×(List DS7)×Unit) ((i':Int),(j':Int),na,nb,op,me',ns++(t++t2),ixS (ns++(t++t2)),[(p,q,())],(m:Int),aC,aN,bA,bC,bN,cuts++[c],nx++[r],()))) (LQ (fun s=>∃ (i j:Nat) (me:List DS6) (t:List DS1) (cuts nx:List Int),oz dm na nb ra rb op me (ns++t)/\(ns++t).length<=1000/\nx.length=cuts.length/\(∀ c∈nx,Rf (ns++t) (-256) (m+1) c)/\Mrg (dm.getD m zS).1 (dm.getD m zS).2.1 aC bC cuts i j (fun k a b=>iZ dm na nb op (ns++t) (nx.getD k 0) (aN.getD a 0) (bN.getD b 0))/\s=((i:Int),(j:Int),na,nb,op,me,ns++t,ixS (ns++t),[(p,q,())],(m:Int),aC,aN,bA,bC,bN,cuts,nx,())) (fun s=>(aC.length-s.1.toNat)+(bC.length-s.2.1.toNat)) ((aC.length-(i:Int).toNat)+(bC.length-(j:Int).toNat)) Q):=fun c i' j' h1 h2 h3 hI hJ Q=>by
  have hst:=hM.step ha.1 hb.1 h1 h2 h3 hI hJ (X':=fun k a b=>iZ dm na nb op (ns++(t++t2)) ((nx++[r]).getD k 0) (aN.getD a 0) (bN.getD b 0)) hX hX2
  have hij:=hst.ij
  refine T.go ⟨i',j',me',t++t2,cuts++[c],nx++[r],hS2,by omega,by rw[rQ];simp,hnx2,hst,rfl⟩ ?_
  dsimp only
  rw[Int.toNat_natCast,Int.toNat_natCast,Int.toNat_natCast,Int.toNat_natCast]
  clear hst hX hX2
  split at hI<;>split at hJ<;>omega
 refine T.cnd (fun hc5=>?_) (fun hc5=>?_)<;>simp only[bf,bn]at hc5
 ·refine T.grd (by rw[aH];omega) (T.grd (by rw[bG,List.length_singleton];omega) (T.grd (by rw[bY,aH,bF,bP,aD];omega) ?_))
  refine T.cnd (fun w1=>?_) (fun w1=>?_)<;>simp only[bg,bq,aG,aD,bf,bn,not_true_eq_false,or_false,and_true]at w1
  ·refine T.grd (by rw[bY,aH,bF,bP,aD];omega) (T.cnd (fun w2=>?_) (fun w2=>?_))<;>simp only[bg,bq,aG,aD,bf,bn,not_true_eq_false,or_false,and_true]at w2
   ·exact go (aC.getD i 0) (i+1) (j+1) (fun _=>by omega) (fun _=>by omega) (by omega) (by split<;>omega) (by split<;>omega) _
   ·exact go (aC.getD i 0) (i+1) (j) (fun _=>by omega) (fun _=>by omega) (by omega) (by split<;>omega) (by split<;>omega) _
  ·refine T.grd (by rw[bY,aH,bF,bP,aD];omega) (T.cnd (fun w2=>?_) (fun w2=>?_))<;>simp only[bg,bq,aG,aD,bf,bn,not_true_eq_false,or_false,and_true]at w2
   ·exact go (aC.getD i 0) (i) (j+1) (fun _=>by omega) (fun _=>by omega) (by omega) (by split<;>omega) (by split<;>omega) _
   ·exfalso;omega
 refine T.grd (by rw[bY,aH,bF,bP,aD];omega) (T.grd (by rw[bY,aH,bF,bP,aD];omega) (T.cnd (fun hc6=>?_) (fun hc6=>?_)))<;>simp only[bg,bq,aG,aD,dL,dN]at hc6
 ·refine T.grd (by rw[aH];omega) (T.grd (by rw[bG,List.length_singleton];omega) (T.grd (by rw[bY,aH,bF,bP,aD];omega) ?_))
  refine T.cnd (fun w1=>?_) (fun w1=>?_)<;>simp only[bg,bq,aG,aD,bf,bn,not_true_eq_false,or_false,and_true]at w1
  ·refine T.grd (by rw[bY,aH,bF,bP,aD];omega) (T.cnd (fun w2=>?_) (fun w2=>?_))<;>simp only[bg,bq,aG,aD,bf,bn,not_true_eq_false,or_false,and_true]at w2
   ·exact go (aC.getD i 0) (i+1) (j+1) (fun _=>by omega) (fun _=>by omega) (by omega) (by split<;>omega) (by split<;>omega) _
   ·exact go (aC.getD i 0) (i+1) (j) (fun _=>by omega) (fun _=>by omega) (by omega) (by split<;>omega) (by split<;>omega) _
  ·refine T.grd (by rw[bY,aH,bF,bP,aD];omega) (T.cnd (fun w2=>?_) (fun w2=>?_))<;>simp only[bg,bq,aG,aD,bf,bn,not_true_eq_false,or_false,and_true]at w2
   ·exact go (aC.getD i 0) (i) (j+1) (fun _=>by omega) (fun _=>by omega) (by omega) (by split<;>omega) (by split<;>omega) _
   ·exfalso;omega
 ·refine T.grd (by rw[aH];omega) (T.grd (by rw[bG,List.length_singleton];omega) (T.grd (by rw[bY,aH,bF,bP,aD];omega) ?_))
  refine T.cnd (fun w1=>?_) (fun w1=>?_)<;>simp only[bg,bq,aG,aD,bf,bn,not_true_eq_false,or_false,and_true]at w1
  ·refine T.grd (by rw[bY,aH,bF,bP,aD];omega) (T.cnd (fun w2=>?_) (fun w2=>?_))<;>simp only[bg,bq,aG,aD,bf,bn,not_true_eq_false,or_false,and_true]at w2
   ·exact go (bC.getD j 0) (i+1) (j+1) (fun _=>by omega) (fun _=>by omega) (by omega) (by split<;>omega) (by split<;>omega) _
   ·exact go (bC.getD j 0) (i+1) (j) (fun _=>by omega) (fun _=>by omega) (by omega) (by split<;>omega) (by split<;>omega) _
  ·refine T.grd (by rw[bY,aH,bF,bP,aD];omega) (T.cnd (fun w2=>?_) (fun w2=>?_))<;>simp only[bg,bq,aG,aD,bf,bn,not_true_eq_false,or_false,and_true]at w2
   ·exact go (bC.getD j 0) (i) (j+1) (fun _=>by omega) (fun _=>by omega) (by omega) (by split<;>omega) (by split<;>omega) _
   ·exfalso;omega
set_option maxHeartbeats 2000000 in
theorem XB (hd:dI dm) (hA:dY dm na) (hB:dY dm nb) (p q:Int) (hp:fJ na.length p) (hq:fJ nb.length q) (hP:nk dm na nb ra rb p q (min (lvl dm na p) (lvl dm nb q))) (me:List DS6) (ns:List DS1) (h0:ns=[]) (hS:oz dm na nb ra rb op me ns) :
  T (xY (p,q,()) na nb op me (ixS ns)) (fun y=>∃ r me' t,y=(r,na,nb,op,me',ixS (ns++t),ns++t,())/\oz dm na nb ra rb op me' (ns++t)/\(ns++t).length<=1001/\((ns++t).length<=1000->Rf (ns++t) (-256) (min (lvl dm na p) (lvl dm nb q)) r/\iZ dm na nb op (ns++t) r p q)):=by
 have hn:ns.length<=1000:=by rw[h0];simp
 unfold xY
 dsimp only
 obtain⟨hN,hme,hsb,htp⟩:=id hS
 have p1:=hp.1
 have p2:=hp.2
 have q1:=hq.1
 have q2:=hq.2
 refine T.cnd (fun hc=>?_) (fun hc=>?_)<;>simp only[bg,bq,aG,aD]at hc
 ·have EF:∀ r:Int,-256<=r->r < 0->m72 r=some (-1 - r,()):=fun r h1 h2=>by
   show some (dS .i64 (-1) r,())=_
   rw[bS (by omega) (by omega)]
  have hbd:=Mh (op:=op) (x:=-1-p) (y:=-1-q) (by omega) (by omega)
  refine T.aX (EF p p1 hc.1) (T.aX (EF q q1 hc.2) ?_)
  dsimp only
  refine T.aX (XE _ _ _) ?_
  dsimp only
  refine T.aX (v:=(-1-opS op (-1-p) (-1-q),())) (by show some (dS .i64 (-1) _,())=_;rw[bS (by omega) (by omega)]) ?_
  dsimp only
  refine T.ret ⟨-1-opS op (-1-p) (-1-q),me,[],?_,by simpa using hS,by simp;omega,fun _=>⟨⟨by omega,by omega,fun z=>by omega⟩,fun fs hf=>by rw[fD _ _ (by omega),fD _ _ hc.1,fD _ _ hc.2];omega⟩⟩
  rw[List.append_nil,h0]
 refine T.cnd (fun hc1=>?_) (fun hc1=>?_)
 ·obtain ⟨r,hr⟩:∃ r,iM (eqT tS3) (p,q,()) me=some r:=by
   unfold qA at hc1
   exact Option.isSome_iff_exists.1 hc1
  obtain⟨z1,z2⟩:=hme p q r hr
  have eG:jw (eqT tS3) (p,q,()) me 0=r:=by unfold jw;rw[hr];rfl
  have z1':Rf ns (-256) (min (lvl dm na p) (lvl dm nb q)) (jw (eqT tS3) (p,q,()) me 0):=by rw[eG];exact z1
  have z2':iZ dm na nb op ns (jw (eqT tS3) (p,q,()) me 0) p q:=by rw[eG];exact z2
  exact T.ret ⟨_,me,[],by rw[List.append_nil,h0],by simpa using hS,by simp;omega,fun _=>⟨by rw[List.append_nil];exact z1',by rw[List.append_nil];exact z2'⟩⟩
 have hmd:min (lvl dm na p) (lvl dm nb q)<dm.length:=by
  have side:∀ {ns:List DS1} {r:Int},dY dm ns->0<=r->r<(ns.length:Int)->lvl dm ns r<dm.length:=fun {ns r} hs h0 hr=>by
   unfold lvl
   rw[if_neg (by omega)]
   have:=(hs r.toNat (by omega)).1
   have:=(hs r.toNat (by omega)).2.1
   omega
  rcases hc with z|z
  ·have:=side hA z p2;omega
  ·have:=side hB z q2;omega
 generalize hmv:min (lvl dm na p) (lvl dm nb q)=m at *
 have hd2:=hd.2.1
 have hbr:∀ {ns:List DS1} {r:Int},dY dm ns->fJ ns.length r->∃ A C N,m85 ns r=some ((A,C,N,()),())/\((r<0/\A=6/\lvl dm ns r=dm.length)\/(0<=r/\A=(lvl dm ns r:Int)/\lvl dm ns r<dm.length/\Br dm ns r (lvl dm ns r) C N)):=fun {ns r} hs hr=>by
  rcases Int.lt_or_le r 0 with z|z
  ·exact⟨_,_,_,Bc ns z,.inl ⟨z,rfl,by unfold lvl;rw[if_pos z]⟩⟩
  ·have hrt:r.toNat<ns.length:=by have:=hr.2;omega
   have h1:=(hs _ hrt).1
   have h2:=(hs _ hrt).2.1
   have e:lvl dm ns r=(ns.getD r.toNat zN).1.toNat:=by unfold lvl;rw[if_neg (by omega)]
   have hB:=Br.node hd hs z hr.2
   rw[<- e]at hB
   exact⟨_,_,_,Bb ns z hr.2,.inr ⟨z,by omega,by omega,hB⟩⟩
 obtain⟨A1,C1,N1,e1,h1⟩:=hbr hA hp
 obtain⟨A2,C2,N2,e2,h2⟩:=hbr hB hq
 refine T.aX e1 (T.aX e2 ?_)
 dsimp only
 refine T.join (fun s=>∃ (aA bA:Int) (aC aN bC bN:List Int),aA=(m:Int)/\Br dm na p m aC aN/\Br dm nb q m bC bN/\s=(na,nb,op,me,ixS (ns),[(p,q,())],aA,aC,aN,bA,bC,bN,())) ?_ ?_
 ·refine T.cnd (fun hc2=>?_) (fun hc2=>?_)<;>simp only[aG,aD]at hc2
  ·rcases h1 with ⟨z1,z2,z3⟩|⟨z1,z2,z3,z4⟩
   ·exfalso
    rcases h2 with ⟨y1,y2,y3⟩|⟨y1,y2,y3,y4⟩<;>omega
   ·have hm1:lvl dm na p=m:=by
     rcases h2 with ⟨y1,y2,y3⟩|⟨y1,y2,y3,y4⟩<;>omega
    have hm2:m+1<=lvl dm nb q:=by
     rcases h2 with ⟨y1,y2,y3⟩|⟨y1,y2,y3,y4⟩<;>omega
    rw[hm1]at z4
    exact T.jgo ⟨_,_,_,_,_,_,by omega,z4,Br.none hq hm2,rfl⟩
  refine T.cnd (fun hc3=>?_) (fun hc3=>?_)<;>simp only[aG,aD]at hc3
  ·rcases h2 with ⟨z1,z2,z3⟩|⟨z1,z2,z3,z4⟩
   ·exfalso
    rcases h1 with ⟨y1,y2,y3⟩|⟨y1,y2,y3,y4⟩<;>omega
   ·have hm1:lvl dm nb q=m:=by
     rcases h1 with ⟨y1,y2,y3⟩|⟨y1,y2,y3,y4⟩<;>omega
    have hm2:m+1<=lvl dm na p:=by
     rcases h1 with ⟨y1,y2,y3⟩|⟨y1,y2,y3,y4⟩<;>omega
    rw[hm1]at z4
    exact T.jgo ⟨_,_,_,_,_,_,by omega,Br.none hp hm2,z4,rfl⟩
  ·rcases h1 with ⟨z1,z2,z3⟩|⟨z1,z2,z3,z4⟩
   ·exfalso
    rcases h2 with ⟨y1,y2,y3⟩|⟨y1,y2,y3,y4⟩<;>omega
   ·rcases h2 with ⟨y1,y2,y3⟩|⟨y1,y2,y3,y4⟩
    ·exfalso;omega
    ·have hm1:lvl dm na p=m:=by omega
     have hm2:lvl dm nb q=m:=by omega
     rw[hm1]at z4
     rw[hm2]at y4
     exact T.jgo ⟨_,_,_,_,_,_,by omega,z4,y4,rfl⟩
 rintro _ ⟨aA,bA,aC,aN,bC,bN,rfl,ha,hb,rfl⟩
 clear h1 h2 e1 e2 hbr
 dsimp only
 have hdm:=hd.at hmd
 have hAl:=aB aC
 have hBl:=aB bC
 have Qq:=aB aN
 have Qp:=aB bN
 have hac:=ha.1.len hdm.2.1 hdm.2.2
 have hbc:=hb.1.len hdm.2.1 hdm.2.2
 have ha2:=ha.2.1
 have hb2:=hb.2.1
 refine T.loop (fun s=>∃ (i j:Nat) (me:List DS6) (t:List DS1) (cuts nx:List Int),oz dm na nb ra rb op me (ns++t)/\(ns++t).length<=1000/\nx.length=cuts.length/\(∀ c∈nx,Rf (ns++t) (-256) (m+1) c)/\Mrg (dm.getD m zS).1 (dm.getD m zS).2.1 aC bC cuts i j (fun k a b=>iZ dm na nb op (ns++t) (nx.getD k 0) (aN.getD a 0) (bN.getD b 0))/\s=((i:Int),(j:Int),na,nb,op,me,ixS (ns++t),[(p,q,())],(m:Int),aC,aN,bA,bC,bN,cuts,nx,ns++t,())) (fun s=>(aC.length-s.1.toNat)+(bC.length-s.2.1.toNat)) ⟨0,0,me,[],[],[],by rw[List.append_nil];exact hS,by rw[List.append_nil];exact hn,rfl,fun c hc=>(by cases hc),Mrg.init hdm.1 ha.1 hb.1,by rw[List.append_nil,h0];rfl⟩ ?_
 rintro _ ⟨i,j,me,t,cuts,nx,hS,hn,hnl,hnx,hM,rfl⟩
 dsimp only
 have hi:=hM.ij.1
 have hj:=hM.ij.2
 have hcl:=hM.cut.len hdm.2.1 hdm.2.2
 rw[hAl,hBl,Qq,Qp,bT,bT,bT,bT]
 obtain⟨v,v1,v2,v3,v4⟩:=hM.wit
 have hPP:=nk.step hd hA hB hmd hP ha hb v1 v2
 rw[v3,v4]at hPP
 obtain⟨c1,c2⟩:=ha.2.2.1 i (by omega)
 obtain⟨d1,d2⟩:=hb.2.2.1 j (by omega)
 have hll:=FL hd hA c1.2
 have Qo:nk dm na nb ra rb (aN.getD i 0) (bN.getD j 0) (min (lvl dm na (aN.getD i 0)) (lvl dm nb (bN.getD j 0))):=by
  obtain⟨pre,w1,w2,w3⟩:=hPP
  exact⟨pre,w1,by omega,w3⟩
 refine T.grd (by rw[aH];omega) (T.grd (by rw[aH];omega) (T.call (XA hd hA hB (aN.getD i 0) (bN.getD j 0) me (ns++t) c1 d1 Qo hS hn) ?_))
 rintro _ ⟨r,me',t2,rfl,hS2,hl2,hr2⟩
 dsimp only
 rw[List.append_assoc]at hS2 hl2 hr2 ⊢
 have hNl:=aB (ns++(t++t2))
 refine T.grd (by rw[bG,List.length_singleton];omega) (T.aX (show sP _ _ _ _ _ _=some _ from rfl) ?_)
 dsimp only
 rw[hNl]
 refine T.cnd (fun hc3=>?_) (fun hc3=>?_)<;>simp only[aG,aD]at hc3
 ·refine T.aX (show m40 0=some _ from rfl) (T.out ⟨_,me',t++t2,rfl,hS2,hl2,fun z=>by omega⟩)
 obtain⟨hrf,hrs⟩:=hr2 (by omega)
 have hrf:Rf (ns++(t++t2)) (-256) (m+1) r:=hrf.weak (by omega)
 have hnx2:∀ c∈nx++[r],Rf (ns++(t++t2)) (-256) (m+1) c:=fun c hc=>by
  rcases List.mem_append.1 hc with z|z
  ·have:=(hnx c z).app t2
   rwa [List.append_assoc]at this
  ·obtain rfl:=List.mem_singleton.1 z;exact hrf
 have hX:∀ k a b,k<cuts.length->iZ dm na nb op (ns++t) (nx.getD k 0) (aN.getD a 0) (bN.getD b 0)->iZ dm na nb op (ns++(t++t2)) ((nx++[r]).getD k 0) (aN.getD a 0) (bN.getD b 0):=fun k a b hk h=>by
  rw[eY _ _ _ (by omega)]
  have hmem:nx.getD k 0∈nx:=by rw[getD_eq _ _ _ (by omega)];exact List.getElem_mem _
  have:=h.app hS.1.1 (hnx _ hmem).2.1 t2
  rwa [List.append_assoc]at this
 have hX2:iZ dm na nb op (ns++(t++t2)) ((nx++[r]).getD cuts.length 0) (aN.getD i 0) (bN.getD j 0):=by
  rw[<- hnl,jd];exact hrs
 have rQ:(nx++[r]).length=cuts.length+1:=by simp;omega
 refine T.cnd (fun hc4=>?_) (fun hc4=>?_)<;>simp only[bg,bq,bf,bn]at hc4
 ·obtain rfl:i=aC.length:=by omega
  obtain rfl:j=bC.length:=by omega
  have hM2:Mrg (dm.getD m zS).1 (dm.getD m zS).2.1 aC bC cuts aC.length bC.length (fun k a b=>iZ dm na nb op (ns++(t++t2)) ((nx++[r]).getD k 0) (aN.getD a 0) (bN.getD b 0)):=⟨hM.ij,hM.cut,hM.up,hM.wit,hM.hit,fun w hw=>⟨(hM.sem w hw).1,hX _ _ _ (hM.sem w hw).1 (hM.sem w hw).2⟩⟩
  obtain⟨t3,s1,s2,s3,s4,s5⟩:=hS2.node hd hA hB (by omega) hmd hmv hP ha hb rQ hnx2 hM2 hX2
  have vL:=ME (lo:=-256) hd (by omega) (by omega) hmd (x:=(nx++[r]).headD 0) (cs:=cuts) (nx:=(nx++[r]).tail) (ns:=ns++(t++t2)) hM.cut (by rw[List.length_tail,rQ];omega) (by rw[yB rQ];exact hnx2) hS2.1 (by omega) (by omega) na nb op me'
  rw[yB rQ]at vL
  refine T.kX (T.aX vL ?_)
  dsimp only
  refine T.grd (by rw[eF,eF];exact⟨Nat.beq_refl _,Nat.beq_refl _,rfl⟩) (T.grd (by rw[cu];simp) (T.ret ?_))
  rw[s1]at *
  rw[List.append_assoc]at s2 s3 s4 s5 ⊢
  exact⟨_,_,t++t2++t3,rfl,s2,s3,fun _=>⟨s4,s5⟩⟩
 have ei:aM .i64 (i:Int) 1=((i+1:Nat):Int):=by rw[aF (by omega) (by omega)];omega
 have ej:aM .i64 (j:Int) 1=((j+1:Nat):Int):=by rw[aF (by omega) (by omega)];omega
 rw[ei,ej]
 have go:∀ (c:Int) (i' j':Nat),(i < aC.length->c<=aC.getD i 0)->(j < bC.length->c<=bC.getD j 0)->((i < aC.length/\aC.getD i 0=c)\/(j < bC.length/\bC.getD j 0=c))->(i'=if i < aC.length/\aC.getD i 0=c then i + 1 else i)->(j'=if j < bC.length/\bC.getD j 0=c then j + 1 else j) ->
   ∀ Q,T (some (Sum.inl (β:=Int×(List DS1)×(List DS1)×Int×(List DS6)×(List DS7)×(List DS1)×Unit) ((i':Int),(j':Int),na,nb,op,me',ixS (ns++(t++t2)),[(p,q,())],(m:Int),aC,aN,bA,bC,bN,cuts++[c],nx++[r],ns++(t++t2),()))) (LQ (fun s=>∃ (i j:Nat) (me:List DS6) (t:List DS1) (cuts nx:List Int),oz dm na nb ra rb op me (ns++t)/\(ns++t).length<=1000/\nx.length=cuts.length/\(∀ c∈nx,Rf (ns++t) (-256) (m+1) c)/\Mrg (dm.getD m zS).1 (dm.getD m zS).2.1 aC bC cuts i j (fun k a b=>iZ dm na nb op (ns++t) (nx.getD k 0) (aN.getD a 0) (bN.getD b 0))/\s=((i:Int),(j:Int),na,nb,op,me,ixS (ns++t),[(p,q,())],(m:Int),aC,aN,bA,bC,bN,cuts,nx,ns++t,())) (fun s=>(aC.length-s.1.toNat)+(bC.length-s.2.1.toNat)) ((aC.length-(i:Int).toNat)+(bC.length-(j:Int).toNat)) Q):=fun c i' j' h1 h2 h3 hI hJ Q=>by
  have hst:=hM.step ha.1 hb.1 h1 h2 h3 hI hJ (X':=fun k a b=>iZ dm na nb op (ns++(t++t2)) ((nx++[r]).getD k 0) (aN.getD a 0) (bN.getD b 0)) hX hX2
  have hij:=hst.ij
  refine T.go ⟨i',j',me',t++t2,cuts++[c],nx++[r],hS2,by omega,by rw[rQ];simp,hnx2,hst,rfl⟩ ?_
  dsimp only
  rw[Int.toNat_natCast,Int.toNat_natCast,Int.toNat_natCast,Int.toNat_natCast]
  clear hst hX hX2
  split at hI<;>split at hJ<;>omega
 refine T.cnd (fun hc5=>?_) (fun hc5=>?_)<;>simp only[bf,bn]at hc5
 ·refine T.grd (by rw[aH];omega) (T.grd (by rw[bG,List.length_singleton];omega) (T.grd (by rw[bY,aH,bF,bP,aD];omega) ?_))
  refine T.cnd (fun w1=>?_) (fun w1=>?_)<;>simp only[bg,bq,aG,aD,bf,bn,not_true_eq_false,or_false,and_true]at w1
  ·refine T.grd (by rw[bY,aH,bF,bP,aD];omega) (T.cnd (fun w2=>?_) (fun w2=>?_))<;>simp only[bg,bq,aG,aD,bf,bn,not_true_eq_false,or_false,and_true]at w2
   ·exact go (aC.getD i 0) (i+1) (j+1) (fun _=>by omega) (fun _=>by omega) (by omega) (by split<;>omega) (by split<;>omega) _
   ·exact go (aC.getD i 0) (i+1) (j) (fun _=>by omega) (fun _=>by omega) (by omega) (by split<;>omega) (by split<;>omega) _
  ·refine T.grd (by rw[bY,aH,bF,bP,aD];omega) (T.cnd (fun w2=>?_) (fun w2=>?_))<;>simp only[bg,bq,aG,aD,bf,bn,not_true_eq_false,or_false,and_true]at w2
   ·exact go (aC.getD i 0) (i) (j+1) (fun _=>by omega) (fun _=>by omega) (by omega) (by split<;>omega) (by split<;>omega) _
   ·exfalso;omega
 refine T.grd (by rw[bY,aH,bF,bP,aD];omega) (T.grd (by rw[bY,aH,bF,bP,aD];omega) (T.cnd (fun hc6=>?_) (fun hc6=>?_)))<;>simp only[bg,bq,aG,aD,dL,dN]at hc6
 ·refine T.grd (by rw[aH];omega) (T.grd (by rw[bG,List.length_singleton];omega) (T.grd (by rw[bY,aH,bF,bP,aD];omega) ?_))
  refine T.cnd (fun w1=>?_) (fun w1=>?_)<;>simp only[bg,bq,aG,aD,bf,bn,not_true_eq_false,or_false,and_true]at w1
  ·refine T.grd (by rw[bY,aH,bF,bP,aD];omega) (T.cnd (fun w2=>?_) (fun w2=>?_))<;>simp only[bg,bq,aG,aD,bf,bn,not_true_eq_false,or_false,and_true]at w2
   ·exact go (aC.getD i 0) (i+1) (j+1) (fun _=>by omega) (fun _=>by omega) (by omega) (by split<;>omega) (by split<;>omega) _
   ·exact go (aC.getD i 0) (i+1) (j) (fun _=>by omega) (fun _=>by omega) (by omega) (by split<;>omega) (by split<;>omega) _
  ·refine T.grd (by rw[bY,aH,bF,bP,aD];omega) (T.cnd (fun w2=>?_) (fun w2=>?_))<;>simp only[bg,bq,aG,aD,bf,bn,not_true_eq_false,or_false,and_true]at w2
   ·exact go (aC.getD i 0) (i) (j+1) (fun _=>by omega) (fun _=>by omega) (by omega) (by split<;>omega) (by split<;>omega) _
   ·exfalso;omega
 ·refine T.grd (by rw[aH];omega) (T.grd (by rw[bG,List.length_singleton];omega) (T.grd (by rw[bY,aH,bF,bP,aD];omega) ?_))
  refine T.cnd (fun w1=>?_) (fun w1=>?_)<;>simp only[bg,bq,aG,aD,bf,bn,not_true_eq_false,or_false,and_true]at w1
  ·refine T.grd (by rw[bY,aH,bF,bP,aD];omega) (T.cnd (fun w2=>?_) (fun w2=>?_))<;>simp only[bg,bq,aG,aD,bf,bn,not_true_eq_false,or_false,and_true]at w2
   ·exact go (bC.getD j 0) (i+1) (j+1) (fun _=>by omega) (fun _=>by omega) (by omega) (by split<;>omega) (by split<;>omega) _
   ·exact go (bC.getD j 0) (i+1) (j) (fun _=>by omega) (fun _=>by omega) (by omega) (by split<;>omega) (by split<;>omega) _
  ·refine T.grd (by rw[bY,aH,bF,bP,aD];omega) (T.cnd (fun w2=>?_) (fun w2=>?_))<;>simp only[bg,bq,aG,aD,bf,bn,not_true_eq_false,or_false,and_true]at w2
   ·exact go (bC.getD j 0) (i) (j+1) (fun _=>by omega) (fun _=>by omega) (by omega) (by split<;>omega) (by split<;>omega) _
   ·exfalso;omega
end
end Abs
end Go.Proofs.YtgfnhpadmifiiaaDoor
end
namespace Go.Proofs.YtgfnhpadmifiiaaDoor
namespace Abs
theorem PL {dm:List DS3} {ns:List DS1} (hd:dI dm) (hs:dY dm ns) (ht:R8 ns) {r:Int} (hr:r<(ns.length:Int)):aL ns ns.length [] r=aL ns 8 [] r:=by
 obtain⟨hR8,_⟩:=iR hd hs
 have hRi:lT ns id:=fun i hi=>⟨(hR8 i hi).1,fun c hc=>⟨((hR8 i hi).2 c hc).1,fun h0=>by
  have:=ht i hi c hc
  show c.toNat<i
  omega⟩⟩
 have h1:=tQ hRi ns.length ns.length (ns.length+8) r [] (by unfold rkI;split;omega;show r.toNat+1<=_;omega) (by omega) (by omega) hr
 have h2:=tQ hR8 8 8 (ns.length+8) r [] (oO hd hs hr) (by omega) (by omega) hr
 rw[h1,h2]
theorem Zf {dm:List DS3} {ns:List DS1} (hd:dI dm) (hN:jC dm (-256) ns) (ht:R8 ns) (hn:ns.length<=1000) {r:Int} (hr:Rf ns (-256) 0 r):TR ns r:=by
 have h1:=hr.1
 refine⟨by omega,by omega,hr.2.1,fun i hi c hc=>⟨?_,ht i hi c hc⟩,fun x hx=>?_⟩
 ·have:=hN.2.2 (ns.getD i zN) (by rw[getD_eq _ _ _ hi];exact List.getElem_mem hi) c hc
  omega
 ·obtain⟨i,hi,rfl⟩:=List.getElem_of_mem hx
  have hs:=hN.1 i hi
  have hl:=hs.len hd
  rw[getD_eq _ _ _ hi]at hs hl
  have h3:=hs.2.2.1
  have h4:=hs.2.2.2.1
  exact⟨⟨fun e=>(by rw[e]at h3;cases h3),by omega⟩,fun e=>(by rw[e]at h4;simp at h4),by omega⟩
theorem Nz (l:List DS0) (hv:gy l=0) (na nb:List DS1) (ra rb op:Int) (hzA:SzN na) (hzB:SzN nb) :
  T (m33 (l,()) (na,ra,()) (nb,rb,()) op) (fun y=>(¬ (VD (doms l) na ra/\VD (doms l) nb rb)->y=(([],0,()),21,()))/\(VD (doms l) na ra->VD (doms l) nb rb->(¬ (1<=op/\op<=4)->y=(([],0,()),11,()))/\
   (1<=op/\op<=4->∃ ts,Red (doms l) ts/\(∀ j:Nat,j<ts.length->zT (doms l) (opF op na nb ra rb) ts (j:Int))/\((1000<ts.length/\y=(([],0,()),4,()))\/(ts.length<=1000/\∃ rt,jC (doms l) (-256) ts/\Rf ts (-256) 0 rt/\(∀ fs,FOk (doms l) fs->vlF ts 9 rt fs=opF op na nb ra rb fs)/\y=((gX ts (aL ts 8 [] rt),aY (aL ts 8 [] rt) rt,()),0,())))))):=by
 have hd:=nM hv
 unfold m33
 refine T.aX (Dz _) ?_
 dsimp only
 rw[hv]
 refine T.cf (by rfl) (T.call (xg l na ra hzA) ?_)
 rintro⟨b1,⟨⟩⟩ h1
 dsimp only at h1 ⊢
 refine T.cnd (fun hc=>?_) (fun hc=>?_)
 ·rw[bF]at hc
  have hn:¬ VD (doms l) na ra:=fun z=>by rw[h1.2 ⟨hv,z⟩]at hc;cases hc
  exact T.ret ⟨fun _=>rfl,fun z=>absurd z hn⟩
 rw[dJ]at hc
 have hA:=(h1.1 hc).2
 refine T.call (xg l nb rb hzB) ?_
 rintro⟨b2,⟨⟩⟩ h2
 dsimp only at h2 ⊢
 refine T.cnd (fun hc=>?_) (fun hc=>?_)
 ·rw[bF]at hc
  have hn:¬ VD (doms l) nb rb:=fun z=>by rw[h2.2 ⟨hv,z⟩]at hc;cases hc
  exact T.ret ⟨fun _=>rfl,fun _ z=>absurd z hn⟩
 rw[dJ]at hc
 have hB:=(h2.1 hc).2
 refine T.cnd (fun hc=>?_) (fun hc=>?_)<;>simp only[bV,bW,aG,aD]at hc
 ·exact T.ret ⟨fun z=>absurd ⟨hA,hB⟩ z,fun _ _=>⟨fun _=>rfl,fun z=>by omega⟩⟩
 have hS0:oz (doms l) na nb ra rb op [] []:=⟨jC.nil _ _,fun p q r h=>(by cases h),fun j hj=>(by cases hj),fun i hi=>(by cases hi)⟩
 have hP0:nk (doms l) na nb ra rb ra rb (min (lvl (doms l) na ra) (lvl (doms l) nb rb)):=⟨[],oD.nil _,Nat.zero_le _,fun fs hf=>⟨by simp,by simp⟩⟩
 refine T.call (show T (xY (ra,rb,()) na nb op [] []) _ from XB hd hA.ug hB.ug ra rb hA.2.1 hB.2.1 hP0 [] [] rfl hS0) ?_
 rintro _ ⟨r,me',t,rfl,hS,hl,hr⟩
 simp only[List.nil_append]at hS hl hr ⊢
 refine T.aX (show sP _ _ _ _ _ _=some _ from rfl) ?_
 dsimp only
 have hT:=aB t
 rw[hT]
 have YE:Red (doms l) t:=⟨hS.1.1,hS.1.2.1⟩
 refine T.cnd (fun hc2=>?_) (fun hc2=>?_)<;>simp only[aG,aD]at hc2
 ·exact T.ret ⟨fun z=>absurd ⟨hA,hB⟩ z,fun _ _=>⟨fun z=>by omega,fun _=>⟨t,YE,hS.2.2.1,.inl ⟨by omega,rfl⟩⟩⟩⟩
 obtain⟨hr1,hr2⟩:=hr (by omega)
 have hr0:Rf t (-256) 0 r:=hr1.weak (Nat.zero_le _)
 have hDO:=Zf hd hS.1 hS.2.2.2 (by omega) hr0
 refine T.aX (v:=((gX t (aL t t.length [] r),aY (aL t t.length [] r) r,()),na,nb,op,me',t,ixS t,())) (by unfold FD;rw[if_pos hDO]) (T.ret ?_)
 dsimp only
 rw[PL hd hS.1.1 hS.2.2.2 hr0.2.1]
 exact⟨fun z=>absurd ⟨hA,hB⟩ z,fun _ _=>⟨fun z=>by omega,fun _=>⟨t,YE,hS.2.2.1,.inr ⟨by omega,r,hS.1,hr0,hr2,rfl⟩⟩⟩⟩
theorem uq:SzN ([]:List DS1):=⟨by simp,fun x hx=>(by cases hx)⟩
theorem a0b {dm:List DS3} {ns:List DS1} (hd:dI dm) (hs:dY dm ns) {root:Int} (hr:root<(ns.length:Int)) (fs:List Int):vlF (gX ns (aL ns 8 [] root)) 9 (aY (aL ns 8 [] root) root) fs=vlF ns 9 root fs:=by
 obtain⟨hR,_⟩:=iR hd hs
 have h0:gU ns.length []:=⟨List.nodup_nil,fun x hx=>by cases hx⟩
 have h8:=oO hd hs hr
 obtain⟨hc,hl⟩:=mJ hR 8 8 root [] h8 (Nat.le_refl _) hr h0
 exact Ux hs (l9 hR 8 root [] hr h0).1.2 (fun r q=>hl r q (fun z=>by cases z)) hd fs 9 root (by omega) hc
def Lr (dm:List DS3) (F:List Int->Int) (y:DS2×Int×Unit):Prop :=
 (y=(([],0,()),4,())/\∀ ns r,Red dm ns->fJ ns.length r->(∀ fs,FOk dm fs->vlF ns 9 r fs=F fs)->1000<ns.length)\/∃ ns r,y=((ns,r,()),0,())/\VD dm ns r/\∀ fs,FOk dm fs->vlF ns 9 r fs=F fs
theorem Zi (l:List DS0) (hv:gy l=0) {na nb:List DS1} {ra rb op:Int} (hA:VD (doms l) na ra) (hB:VD (doms l) nb rb) (hop:1<=op/\op<=4):T (m33 (l,()) (na,ra,()) (nb,rb,()) op) (Lr (doms l) (opF op na nb ra rb)):=by
 have hd:=nM hv
 refine (Nz l hv na nb ra rb op (hA.sz hd).2 (hB.sz hd).2).mono fun y hy=>?_
 obtain⟨ts,t1,t2,t3⟩:=(hy.2 hA hB).2 hop
 rcases t3 with ⟨c1,rfl⟩|⟨c1,r,c2,c3,c4,rfl⟩
 ·refine .inl ⟨rfl,fun ns r hN hr hv=>?_⟩
  have:=size_le hd t1 hN hr hv t2
  omega
 ·exact .inr ⟨_,_,rfl,(Md hd c2 (by omega) (by omega) c3.2.1 c3.1 c1).1,fun fs hf=>by rw[a0b hd c2.1 c3.2.1];exact c4 fs hf⟩
theorem VX (l:List DS0) (hv:gy l=0) {na nb:List DS1} {ra rb op:Int} (hA:SzN na) (hB:SzN nb) (h:¬ (VD (doms l) na ra/\VD (doms l) nb rb)):T (m33 (l,()) (na,ra,()) (nb,rb,()) op) (fun y=>y=(([],0,()),21,())) :=
 (Nz l hv na nb ra rb op hA hB).mono fun y hy=>hy.1 h
end Abs
end Go.Proofs.YtgfnhpadmifiiaaDoor
section
namespace Go.Proofs.YtgfnhpadmifiiaaDoor
namespace Abs
theorem rU (l:List DS0) (hv:gy l=0) {na nb:List DS1} {ra rb op:Int} (hA:SzN na) (hB:SzN nb) (hop:1<=op/\op<=4):T (m33 (l,()) (na,ra,()) (nb,rb,()) op) (fun y=>SzN y.1.1/\(VD (doms l) na ra->VD (doms l) nb rb->Lr (doms l) (opF op na nb ra rb) y)):=by
 by_cases h:VD (doms l) na ra/\VD (doms l) nb rb
 ·refine (Zi l hv h.1 h.2 hop).mono fun y hy=>⟨?_,fun _ _=>hy⟩
  rcases hy with ⟨rfl,_⟩|⟨_,_,rfl,q,_⟩
  ·exact uq
  ·exact (q.sz (nM hv)).2
 ·refine (VX l hv hA hB h).mono fun y hy=>?_
  subst hy
  exact⟨uq,fun a b=>absurd ⟨a,b⟩ h⟩
def fV (c:Int):Int:=if c<0 then -3-c else c
def mZ (x:DS1):DS1:=(x.1,x.2.1,x.2.2.1.map fV,())
theorem flip_flip {c:Int} (h:-2<=c):fV (fV c)=c:=by
 unfold fV
 by_cases q:c<0
 ·rw[if_pos q,if_pos (by omega)];omega
 ·rw[if_neg q,if_neg q]
theorem rz (ns:List DS1) {i:Nat} (h:i<ns.length):(ns.map mZ).getD i zN=mZ (ns.getD i zN):=by
 rw[getD_eq _ _ _ (by simpa using h),List.getElem_map,getD_eq _ _ _ h]
theorem zF {cs:List Int} {k:Nat} (h:k<cs.length):(cs.map fV).getD k 0=fV (cs.getD k 0):=by
 rw[getD_eq _ _ _ (by simpa using h),List.getElem_map,getD_eq _ _ _ h]
section
variable {dm:List DS3} {ns:List DS1}
theorem zq {i k:Nat} (hl:∀ x∈ns,∀ c∈x.2.2.1,-2<=c) (hi:i<ns.length) (hk:k<(ns.getD i zN).2.2.1.length):-2<=(ns.getD i zN).2.2.1.getD k 0 :=
 hl (ns.getD i zN) (by rw[getD_eq _ _ _ hi];exact List.getElem_mem hi) _ (by rw[getD_eq _ _ _ hk];exact List.getElem_mem hk)
theorem Qu (hR:Red dm ns) (hl:∀ x∈ns,∀ c∈x.2.2.1,-2<=c):Red dm (ns.map mZ):=by
 refine⟨fun i hi=>?_,fun i hi k hk=>?_⟩
 ·have hi:i<ns.length:=by simpa using hi
  rw[rz ns hi]
  obtain⟨s1,s2,s3,s4,s5,s6⟩:=hR.1 i hi
  refine⟨s1,s2,s3,by show ((ns.getD i zN).2.2.1.map fV).length=_;rw[List.length_map];exact s4,s5,fun k hk=>?_⟩
  have hk:k<(ns.getD i zN).2.2.1.length:=by
   have:k<((ns.getD i zN).2.2.1.map fV).length:=hk
   simpa using this
  show fJ (ns.map mZ).length (((ns.getD i zN).2.2.1.map fV).getD k 0)/\(0<k->((ns.getD i zN).2.2.1.map fV).getD k 0≠((ns.getD i zN).2.2.1.map fV).getD (k-1) 0)/\(0<=((ns.getD i zN).2.2.1.map fV).getD k 0->(ns.getD i zN).1<((ns.map mZ).getD (((ns.getD i zN).2.2.1.map fV).getD k 0).toNat zN).1)
  rw[zF hk,List.length_map]
  obtain⟨⟨a1,a2⟩,a3,a4⟩:=s6 k hk
  have b:=zq hl hi hk
  have e:0<=fV ((ns.getD i zN).2.2.1.getD k 0)->0<=(ns.getD i zN).2.2.1.getD k 0/\fV ((ns.getD i zN).2.2.1.getD k 0)=(ns.getD i zN).2.2.1.getD k 0:=by unfold fV;split<;>omega
  refine⟨by unfold fJ fV;split<;>omega,fun h0=>?_,fun h0=>?_⟩
  ·have hk1:k-1<(ns.getD i zN).2.2.1.length:=by omega
   rw[zF hk1]
   have b1:=zq hl hi hk1
   intro q
   exact a3 h0 (by rw[<- flip_flip b,q,flip_flip b1])
  ·obtain⟨e1,e2⟩:=e h0
   rw[e2,rz ns (by omega)]
   exact a4 e1
 ·have hi:i<ns.length:=by simpa using hi
  rw[rz ns hi,rz ns (by omega)]
  intro q
  have back:∀ j,j<ns.length->mZ (mZ (ns.getD j zN))=ns.getD j zN:=fun j hj=>by
   unfold mZ
   simp only[List.map_map]
   have:(ns.getD j zN).2.2.1.map (fV ∘ fV)=(ns.getD j zN).2.2.1:=by
    conv=>rhs;rw[<- List.map_id (ns.getD j zN).2.2.1]
    exact List.map_congr_left fun c hc=>flip_flip (hl (ns.getD j zN) (by rw[getD_eq _ _ _ hj];exact List.getElem_mem hj) c hc)
   rw[this]
  exact hR.2 i hi k hk (by rw[<- back k (by omega),q,back i hi])
theorem Gh (hd:dI dm) (hs:dY dm ns) (hl:∀ x∈ns,∀ c∈x.2.2.1,-2<=c) (fs:List Int):∀ (f:Nat) (r:Int),-2<=r->r<(ns.length:Int)->rkI (rkA ns) r<=f->vlF (ns.map mZ) f (fV r) fs=1-vlF ns f r fs/\0<=vlF ns f r fs/\vlF ns f r fs<=1:=by
 have leaf:∀ (f:Nat) (r:Int),-2<=r->r<0->vlF (ns.map mZ) f (fV r) fs=1-vlF ns f r fs/\0<=vlF ns f r fs/\vlF ns f r fs<=1:=fun f r h1 h2=>by
  rw[fD _ _ (by unfold fV;split<;>omega),fD _ _ h2]
  unfold fV
  split<;>omega
 intro f
 induction f with
 |zero =>
  intro r h1 h2 h3
  exact leaf 0 r h1 (by unfold rkI at h3;split at h3;assumption;omega)
 |succ f ih =>
  intro r h1 h2 h3
  rcases Int.lt_or_le r 0 with q|q
  ·exact leaf _ r h1 q
  have e:fV r=r:=by unfold fV;split<;>omega
  have hi:r.toNat<ns.length:=by omega
  unfold rkI at h3
  rw[if_neg (by omega)]at h3
  rw[e,iU _ _ q,iU _ _ q]
  have ek:kids (ns.map mZ) r.toNat=(kids ns r.toNat).map fV:=by unfold kids;rw[rz ns hi];rfl
  rw[ek,rz ns hi]
  have hkl:=nZ hs hi (fs.getD (ns.getD r.toNat zN).1.toNat 0)
  show vlF _ f (((kids ns r.toNat).map fV).getD (brK (ns.getD r.toNat zN).2.1 (fs.getD (ns.getD r.toNat zN).1.toNat 0)) 0) fs=_/\_
  rw[zF hkl]
  exact ih _ (zq hl hi hkl) (iK hs hi hkl).2 (by have:=wV hd hs hi hkl;omega)
theorem Da {na:List DS1} {ra:Int} (hV:VD dm na ra) (hd:dI dm) (hl:∀ x ∈ na,∀ c ∈ x.2.2.1,-2<=c) (hr:-2<=ra) {y:DS2 × Int × Unit} (h:Lr dm (opF 3 na [] ra (-2)) y) :
  ∃ ns r,y=((ns,r,()),0,())/\VD dm ns r/\∀ fs,FOk dm fs->vlF ns 9 r fs=1-vlF na 9 ra fs:=by
 have v:=fun fs=>Gh hd hV.ug hl fs 9 ra hr hV.2.1.2 (by have:=oO hd hV.ug hV.2.1.2;omega)
 have f:∀ fs,opF 3 na [] ra (-2) fs=1-vlF na 9 ra fs:=fun fs=>by
  have e:vlF [] 9 (-2) fs=1:=rfl
  unfold opF opS
  rw[e,if_neg (by omega),if_neg (by omega),if_pos rfl]
  have:=v fs
  split<;>omega
 rcases h with ⟨_,h⟩|⟨ns,r,h1,h2,h3⟩
 ·have hr2:=hV.2.1.2
  have:=h (na.map mZ) (fV ra) (Qu hV.red hl) ⟨by unfold fV;split<;>omega,by rw[List.length_map];unfold fV;split<;>omega⟩ fun fs _=>by rw[(v fs).1,f]
  have h2:=hV.1
  rw[List.length_map]at this
  omega
 ·exact⟨ns,r,h1,h2,fun fs hf=>by rw[h3 fs hf,f]⟩
end
theorem XF {dm:List DS3}:VD dm [] (-2):=⟨by simp,⟨by omega,by simp⟩,fun i hi=>(by cases hi),fun i hi=>(by cases hi),rfl⟩
theorem MX (k:Int) (L:List Int) (hk:I64 k) (h1:jq L 0):m9 k L=some (true,()):=by
 refine T.eq ?_
 unfold m9
 obtain⟨j,hj,e⟩:=ZX k hk
 have hv:=Uq j hj
 refine T.aX e ?_
 dsimp only
 generalize sch j=l at hv
 have hd:=nM hv
 refine T.aX (show m19 L=some (L,0,()) from rfl) (T.call (MS l hv 2 (by omega) (by omega) h1) ?_)
 rintro⟨na,ra,K,a,⟨⟩⟩ ⟨hA,lA,rA,hK⟩
 dsimp only at hA hK lA rA ⊢
 refine T.call (MS l hv 2 (by omega) (by omega) hK) ?_
 rintro⟨nb,rb,K',a',⟨⟩⟩ ⟨hB,lB,rB,_⟩
 dsimp only at hB lB rB ⊢
 refine T.aX (show m17 1=some (([],-2,()),()) from FR 1) ?_
 have zA:=(hA.sz hd).2
 have zB:=(hB.sz hd).2
 have hO:VD (doms l) [] (-2):=XF
 refine T.call (rU l hv zA zB (by omega)) ?_
 rintro⟨⟨n1,r1,⟨⟩⟩,e1,⟨⟩⟩ ⟨z1,c1⟩
 refine T.call (rU l hv zB zA (by omega)) ?_
 rintro⟨⟨n2,r2,⟨⟩⟩,e2,⟨⟩⟩ ⟨z2,c2⟩
 refine T.call (rU l hv z1 zA (by omega)) ?_
 rintro⟨⟨n3,r3,⟨⟩⟩,e3,⟨⟩⟩ ⟨z3,c3⟩
 refine T.call (rU l hv zA uq (by omega)) ?_
 rintro⟨⟨n4,r4,⟨⟩⟩,e4,⟨⟩⟩ ⟨z4,c4⟩
 refine T.call (rU l hv zB uq (by omega)) ?_
 rintro⟨⟨n5,r5,⟨⟩⟩,e5,⟨⟩⟩ ⟨z5,c5⟩
 refine T.call (rU l hv z4 z5 (by omega)) ?_
 rintro⟨⟨n6,r6,⟨⟩⟩,e6,⟨⟩⟩ ⟨z6,c6⟩
 refine T.call (rU l hv z6 uq (by omega)) ?_
 rintro⟨⟨n7,r7,⟨⟩⟩,e7,⟨⟩⟩ ⟨z7,c7⟩
 obtain⟨n,r,w4,V4,F4⟩:=Da hA hd lA rA (c4 hA hO)
 cases w4
 obtain⟨n,r,w5,V5,F5⟩:=Da hB hd lB rB (c5 hB hO)
 cases w5
 have bA:=fun fs=>(Gh hd hA.ug lA fs 9 ra rA hA.2.1.2 (by have:=oO hd hA.ug hA.2.1.2;omega)).2
 have bB:=fun fs=>(Gh hd hB.ug lB fs 9 rb rB hB.2.1.2 (by have:=oO hd hB.ug hB.2.1.2;omega)).2
 dsimp only at *
 rcases c1 hA hB with ⟨w,_⟩|⟨n,r,w,V1,F1⟩<;>cases w
 ·exact uM rfl
 rcases c2 hB hA with ⟨w,_⟩|⟨n,r,w,V2,F2⟩<;>cases w
 ·exact uM rfl
 rcases c3 V1 hA with ⟨w,_⟩|⟨n,r,w,V3,F3⟩<;>cases w
 ·exact uM rfl
 rcases c6 V4 V5 with ⟨w,_⟩|⟨n,r,w,V6,F6⟩<;>cases w
 ·exact uM rfl
 have f1:∀ fs,FOk (doms l) fs->vlF n1 9 r1 fs=min (vlF na 9 ra fs) (vlF nb 9 rb fs):=fun fs hf=>by rw[F1 fs hf];rfl
 have f7:∀ fs,FOk (doms l) fs->opF 3 n6 [] r6 (-2) fs=vlF n1 9 r1 fs:=fun fs hf=>by
  have e:vlF [] 9 (-2) fs=1:=rfl
  have f6:vlF n6 9 r6 fs=max (vlF n4 9 r4 fs) (vlF n5 9 r5 fs):=(F6 fs hf).trans rfl
  unfold opF opS
  rw[e,if_neg (by omega),if_neg (by omega),if_pos rfl,f1 fs hf,f6,F4 fs hf,F5 fs hf]
  have:=bA fs
  have:=bB fs
  split<;>omega
 rcases c7 V6 hO with ⟨w,q⟩|⟨n,r,w,V7,F7⟩<;>cases w
 ·have:=q n1 r1 V1.red V1.2.1 fun fs hf=>(f7 fs hf).symm
  have:=V1.1
  omega
 obtain⟨rfl,rfl⟩:=zM hd V1 V2 fun fs hf=>by rw[f1 fs hf,F2 fs hf];unfold opF opS;rw[if_pos rfl];omega
 obtain⟨rfl,rfl⟩:=zM hd V1 V3 fun fs hf=>by rw[f1 fs hf,F3 fs hf];unfold opF opS;rw[if_pos rfl,f1 fs hf];omega
 obtain⟨rfl,rfl⟩:=zM hd V1 V7 fun fs hf=>by rw[F7 fs hf,f7 fs hf]
 refine T.cf (by rfl) (T.aX (EO z1 rfl) (T.aX (EO z1 rfl) (T.aX (EO z1 rfl) (T.call (xg l n1 r1 z1) fun b hb=>T.ct (hb.2 ⟨hv,V1⟩) (uM rfl)))))
end Abs
end Go.Proofs.YtgfnhpadmifiiaaDoor
end
