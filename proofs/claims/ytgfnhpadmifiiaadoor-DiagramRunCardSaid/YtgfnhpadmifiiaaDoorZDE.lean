/- Merged and trimmed by a program: XK XL XP XQ XR XS. -/
import Derived.Test.YtgfnhpadmifiiaaDoorZDD
set_option linter.unusedVariables false
set_option linter.unusedSimpArgs false
set_option linter.defProp false
namespace Go.Proofs.YtgfnhpadmifiiaaDoor
namespace Abs
noncomputable section
section
open Go.RowKit
mutual
def OkT:(T:Ty)->T.den->Prop
 |.int k,n=>(Lit.int k n).wf=true
 |.bool,_=>True
 |.str,s=>ByteArray.size s<=maxLen
 |.list e,xs=>List.length (α:=e.den) xs<=maxLen/\∀x,x∈(show List e.den from xs)->OkT e x
 |.tup fs,x=>OkL fs x
 |.fnc _,_=>True
 |.kg _,_=>True
def OkL:(fs:List Ty)->Ty.dD fs->Prop
 |[],_=>True
 |t::ts,x=>OkT t x.1/\OkL ts x.2
end
theorem LA{T:Ty}(x:T.den):pack T (Ty.enc T x).cells=Ty.enc T x:=by
 rcases oF (x:=x) with⟨ht,cs,he⟩|⟨ht,hp⟩
 .unfold pack;rw[ak ht,he];rfl
 .unfold pack;rw[ht,hp.cells];rfl
theorem a3Y(T:Ty):∀l:List AV,Is T l->∃x:T.den,OkT T x/\l=(Ty.enc T x).cells:=by
 refine Ty.rec (motive_1:=λT=>∀l:List AV,Is T l->∃x:T.den,OkT T x/\l=(Ty.enc T x).cells) (motive_2:=λfs=>∀l:List AV,IsL fs l->∃x:Ty.dD fs,OkL fs x/\l=Ty.iP fs x) ?_ ?_ ?_ ?_ ?_ ?_ ?_ ?_ ?_ T
 .intro k l h;simp only[Is]at h;obtain⟨n,rfl,hw⟩:=h;exact⟨n,hw,rfl⟩
 .intro l h;simp only[Is]at h;obtain⟨b,rfl⟩:=h;exact⟨b,trivial,rfl⟩
 .intro l h;simp only[Is]at h;obtain⟨s,rfl,hs⟩:=h;exact⟨s,hs,rfl⟩
 .intro e ih l h
  simp only[Is]at h
  obtain⟨xss,rfl,hl,hx⟩:=h
  have key:∀xss:List (List AV),(∀xs∈xss,Is e xs)->∃ys:List e.den,(∀y∈ys,OkT e y)/\xss.map (pack e)=ys.map (Ty.enc e):=by
   intro xss
   induction xss with
   |nil=>intro _;exact⟨[],by simp,rfl⟩
   |cons a xss ihx =>
    intro h
    obtain⟨ys,h1,h2⟩:=ihx λxs hxs=>h xs (by simp[hxs])
    obtain⟨y,hy,rfl⟩:=ih a (h a (by simp))
    refine⟨y::ys,λz hz=>?_,by rw[dw,dw,LA,h2]⟩
    rcases bU.1 hz with rfl|hz
    .exact hy
    .exact h1 z hz
  obtain⟨ys,h1,h2⟩:=key xss hx
  refine⟨ys,⟨?_,h1⟩,by show _=[AV.list e.size (List.map (Ty.enc e) ys)];rw[h2]⟩
  have:=kM List.length h2
  simp only[bR]at this
  show List.length ys<=maxLen
  omega
 .intro fs ih l h;simp only[Is]at h;exact ih l h
 .intro f l h;simp only[Is]at h;exact⟨(),trivial,h⟩
 .intro e _ l h;simp only[Is]at h;exact⟨none,trivial,h⟩
 .intro l h;simp only[IsL]at h;exact⟨(),trivial,h⟩
 .intro t ts h1 h2 l h
  simp only[IsL]at h
  obtain⟨a,b,rfl,ha,hb⟩:=h
  obtain⟨x,ox,rfl⟩:=h1 a ha
  obtain⟨y,oy,rfl⟩:=h2 b hb
  exact⟨(x,y),⟨ox,oy⟩,rfl⟩
theorem zF{T:Ty}{a:AV}(h:IsV T a):∃x:T.den,OkT T x/\a=Ty.enc T x:=by
 obtain⟨l,hl,rfl⟩:=h
 obtain⟨x,ox,rfl⟩:=a3Y T l hl
 exact⟨x,ox,LA x⟩
theorem LM{n:Int}(h:OkT (.int .i64) n):-9223372036854775808<=n/\n<=9223372036854775807:=by
 have h:(Lit.int .i64 n).wf=true:=h
 simp only[Lit.wf,IntKind.min,IntKind.max,IntKind.signed,IntKind.bits,ay,dI,bY,aT,gq]at h;omega
theorem zD{e:Ty}{xs:List e.den}(h:OkT (.list e) xs):xs.length<=maxLen/\∀x∈xs,OkT e x:=h
end
section
variable{S R A α:Type}{step:S->Option (S⊕R)}
theorem a1u(J:S->Prop)(μ:S->Nat)(Q:R->Prop)(h:∀s,J s->(∃s',step s=some (.inl s')/\J s'/\μ s'<μ s)\/∃r,step s=some (.inr r)/\Q r):∀s,J s->∃r,eZ step s=some r/\Q r:=by
 have key:∀n s,μ s<=n->J s->∃r,eZ step s=some r/\Q r:=by
  intro n
  induction n with
  |zero =>
   intro s hm hJ
   rcases h s hJ with⟨s',h1,h2,h3⟩|⟨r,h1,h2⟩
   .omega
   .exact⟨r,Fv h1,h2⟩
  |succ n ih =>
   intro s hm hJ
   rcases h s hJ with⟨s',h1,h2,h3⟩|⟨r,h1,h2⟩
   .rw[Ol h1];exact ih s' (by omega) h2
   .exact⟨r,Fv h1,h2⟩
 intro s hJ
 exact key _ s (bM _) hJ
end
theorem a2j{α:Type}{xs:List α}{k:Nat}(z:α)(h:k<xs.length):atI xs (k:Int) z=xs[k]:=by
 show xs.getD k z=_
 simp[List.getD,ah h]
theorem WE{a b:Int}(h:0<=a):xJ a b=a%b:=by
 show a.tmod b=_
 rw[Int.tmod_eq_emod_of_nonneg h]
def T{α:Type}(o:Option α)(Q:α->Prop):Prop:=∃v,o=some v/\Q v
def LQ{S R:Type}(J:S->Prop)(μ:S->Nat)(m:Nat)(Q:R->Prop):S⊕R->Prop
 |.inl s=>J s/\μ s<m
 |.inr r=>Q r
def JQ{S R:Type}(M:S->Prop)(Q:R->Prop):S⊕R->Prop
 |.inl s=>M s
 |.inr r=>Q r
section
variable{α β S R:Type}
theorem T.ret{v:α}{Q:α->Prop}(h:Q v):T (some v) Q:=⟨v,rfl,h⟩
theorem T.eq{o:Option α}{v:α}(h:T o λx=>x=v):o=some v:=by obtain⟨x,h1,h2⟩:=h;rw[h1,h2]
theorem T.of{o:Option α}{v:α}{Q:α->Prop}(h:o=some v)(q:Q v):T o Q:=⟨v,h,q⟩
theorem T.mono{o:Option α}{Q Q':α->Prop}(h:T o Q)(q:∀v,Q v->Q' v):T o Q':=by obtain⟨v,h1,h2⟩:=h;exact⟨v,h1,q v h2⟩
theorem T.bind{o:Option α}{f:α->Option β}{Q:β->Prop}(h:T o λv=>T (f v) Q):T (o.bind f) Q:=by obtain⟨v,h1,h2⟩:=h;rw[h1];exact h2
theorem T.call{o:Option α}{f:α->Option β}{P:α->Prop}{Q:β->Prop}(h:T o P)(q:∀v,P v->T (f v) Q):T (o.bind f) Q:=T.bind (h.mono q)
theorem T.dz{o:Option α}{v:α}{f:α->Option β}{Q:β->Prop}(h:o=some v)(q:T (f v) Q):T (o.bind f) Q:=by rw[h];exact q
theorem T.grd{c:Bool}{x:Option α}{Q:α->Prop}(h:c=true)(q:T x Q):T (cond c x none) Q:=by rw[h];exact q
theorem T.cnd{c:Bool}{x y:Option α}{Q:α->Prop}(h:c=true->T x Q)(q:c=false->T y Q):T (cond c x y) Q:=by cases c;exact q rfl;exact h rfl
theorem T.ct{c:Bool}{x y:Option α}{Q:α->Prop}(h:c=true)(q:T x Q):T (cond c x y) Q:=by rw[h];exact q
theorem T.cf{c:Bool}{x y:Option α}{Q:α->Prop}(h:c=false)(q:T y Q):T (cond c x y) Q:=by rw[h];exact q
theorem T.map{o:Option α}{f:α->β}{Q:β->Prop}(h:T o λv=>Q (f v)):T (o.map f) Q:=by obtain⟨v,h1,h2⟩:=h;rw[h1];exact⟨_,rfl,h2⟩
theorem T.pX{J:S->Prop}{μ:S->Nat}{m:Nat}{o:Option R}{Q:R->Prop}(h:T o Q):T (o.map (Sum.inr (α:=S))) (LQ J μ m Q):=T.map h
theorem T.loop{step:S->Option (S⊕R)}{s0:S}{Q:R->Prop}(J:S->Prop)(μ:S->Nat)(h0:J s0)(h:∀s,J s->T (step s) (LQ J μ (μ s) Q)):T (eZ step s0) Q:=by
 refine a1u J μ Q (λs hs=>?_) s0 h0
 obtain⟨r,h1,h2⟩:=h s hs
 cases r with
 |inl s'=>exact .inl ⟨s',h1,h2.1,h2.2⟩
 |inr r=>exact .inr ⟨r,h1,h2⟩
theorem T.go{J:S->Prop}{μ:S->Nat}{m:Nat}{Q:R->Prop}{s:S}(h:J s)(h2:μ s<m):T (some (Sum.inl (β:=R) s)) (LQ J μ m Q):=⟨_,rfl,h,h2⟩
theorem T.out{J:S->Prop}{μ:S->Nat}{m:Nat}{Q:R->Prop}{r:R}(h:Q r):T (some (Sum.inr (α:=S) r)) (LQ J μ m Q):=⟨_,rfl,h⟩
theorem T.jgo{M:S->Prop}{Q:R->Prop}{s:S}(h:M s):T (some (Sum.inl (β:=R) s)) (JQ M Q):=⟨_,rfl,h⟩
theorem T.join{o:Option (S⊕R)}{f:S->Option R}{Q:R->Prop}(M:S->Prop)(h:T o (JQ M Q))(h2:∀s,M s->T (f s) Q):T (AA o f) Q:=by
 obtain⟨r,h1,h3⟩:=h
 rw[h1]
 cases r with
 |inl s=>exact h2 s h3
 |inr r=>exact⟨r,rfl,h3⟩
end
theorem bD{a b:Int}:(iLt a b=true)=(a<b):=by simp[iLt]
theorem bg{a b:Int}:(iLt a b=false)=(b<=a):=by simp[iLt]
theorem gD{a b:Int}:(iLe a b=true)=(a<=b):=by simp[iLe]
theorem gF{a b:Int}:(iLe a b=false)=(b<a):=by simp[iLe]
theorem dF{a b:Int}:(iEq a b=true)=(a=b):=by simp[iEq]
theorem dP{a b:Int}:(iEq a b=false)=(¬a=b):=by simp[iEq]
theorem gJ{a b:Int}:(iNe a b=true)=(¬a=b):=by simp[iNe]
theorem gX{a b:Int}:(iNe a b=false)=(a=b):=by simp[iNe]
theorem bE{a b:Int}:(bnd a b=true)=(0<=a/\a<b):=by simp[bnd]
theorem l9{a b:Int}:(bnd a b=false)=(a<0\/b<=a):=by simp[bnd];constructor<;>intro h<;>omega
theorem fM{α:Type}{i:Nat}{xs:List α}:(inB i xs=true)=(i<xs.length):=by simp[inB]
theorem l7{α:Type}{i:Nat}{xs:List α}:(inB i xs=false)=(xs.length<=i):=by simp[inB]
theorem eO{n b:Nat}:(fits n b=true)=(n*b<=140737488355328/\n<=4611686018427387904):=by
 rw[eq_iff_iff];constructor
 .intro h;unfold fits lN at h;rw[ay]at h;exact⟨bW h.1,bW h.2⟩
 .rintro⟨h1,h2⟩;unfold fits lN;rw[fH h1,fH h2];rfl
theorem iD{n:Int}{b:Nat}:(tu n b=true)=(0<=n/\n*b<=140737488355328/\n<=4611686018427387904):=by
 rw[eq_iff_iff];constructor
 .intro h;unfold tu lN at h;rw[ay,ay]at h;exact⟨bW h.1.1,bW h.1.2,bW h.2⟩
 .rintro⟨h1,h2,h3⟩;unfold tu lN;rw[fH h1,fH h3];simp only[sN,j3];exact fH h2
theorem iO{l u:Int}{n:Nat}:(vw l u n=true)=(0<=l/\l<=u/\u<=(n:Int)):=by simp[vw,and_assoc]
theorem jh{α:Type}{xs:List α}:(someE xs=true)=(0<xs.length):=by cases xs<;>simp[someE]
theorem ji{α:Type}{xs:List α}:(someE xs=false)=(xs.length=0):=by cases xs<;>simp[someE]
theorem l6{α:Type}{n:Nat}{xs:List α}:(leN n xs=true)=(n<=xs.length):=by simp[leN]
theorem dO{b:Bool}:(Bool.not b=true)=(b=false):=by cases b<;>simp
theorem gW{b:Bool}:(Bool.not b=false)=(b=true):=by cases b<;>simp
theorem iM{a b:Bool}:(and a b=true)=(a=true/\b=true):=by cases a<;>simp
theorem lq{a b:Bool}:(and a b=false)=(a=false\/b=false):=by cases a<;>simp
theorem fG{a b:Bool}:(or a b=true)=(a=true\/b=true):=by cases a<;>simp
theorem nR{a b:Bool}:(or a b=false)=(a=false/\b=false):=by cases a<;>simp
theorem dN{a b:Bool}:(cond a b false=true)=(a=true/\b=true):=by cases a<;>simp
theorem dQ{a b:Bool}:(cond a b false=false)=(a=false\/b=false):=by cases a<;>simp
theorem eX{a b:Bool}:(cond a true b=true)=(a=true\/b=true):=by cases a<;>simp
theorem fq{a b:Bool}:(cond a true b=false)=(a=false/\b=false):=by cases a<;>simp
theorem jQ{a:Bool}:(bEq a true=true)=(a=true):=by cases a<;>simp[bEq]
theorem fC{a:Bool}:(bEq a true=false)=(a=false):=by cases a<;>simp[bEq]
theorem jR{a:Bool}:(bEq a false=true)=(a=false):=by cases a<;>simp[bEq]
theorem iR{a:Bool}:(bEq a false=false)=(a=true):=by cases a<;>simp[bEq]
theorem Gb{a b:ByteArray}:(sEq a b=true)=(a=b):=by
 simp only[sEq,nX,eq_iff_iff]
 constructor
 .intro h
  exact(show ∀x y:ByteArray,x.toList=y.toList->x=y from λx y q=>by
   have hx:∀z:ByteArray,z.toList=z.data.toList:=λz=>ByteArray.toList_eq z
   rw[hx,hx]at q
   cases x;cases y
   simp at q;rw[q]) a b h
 .intro h;rw[h]
theorem Gc{a b:ByteArray}:(sEq a b=false)=(¬a=b):=by
 rw[<- sJ,Gb]
section
open Go.RowKit
theorem TG{F:Addr->Option Value}{g:Nat}{k:IntKind}{zs:List Int}(h:∀i,i<zs.length->F ⟨g,i,none⟩=some (.int k (zs.getD i 0))):RP F (.pointer (some ⟨g,0,none⟩)) (.kD (zs.map λz=>.v (.int k z))):=by
 refine RP.kD _ _ (λj=>.int k (zs.getD j 0)) (λj a hj=>?_) (λj a hj=>?_)
 ·have hl:j < zs.length:=by
   rcases aS j zs.length with q|q
   .exact q
   .rw[aZ (by simpa using q)]at hj;cases hj
  refine⟨?_,rfl⟩
  have:(Addr.add ⟨g,0,none⟩ j:Addr)=⟨g,j,none⟩:=by simp[Addr.add];intro h;exact h.symm
  rw[this];exact h j hl
 .rw[aQ]at hj
  rcases q:zs[j]? with _|z
  .rw[q]at hj;cases hj
  .rw[q]at hj
   simp only[bn,iL]at hj
   subst hj
   have:zs.getD j 0=z:=by rw[aM,q];rfl
   rw[this];exact .v _
theorem Nz{P:Program}{Gl:Nat->Option (List AV)}{w:World}{f:Nat}{xs:Array Value}{l:List AV}(hP:Pure P Gl f l (.v (.bool true)))(hg:Nl Gl (snap w))(hw:GlW Gl w.heap.size w)(hxs:RPL (snap w) xs l):Calls P f xs w λe w'=>e=.returned (.bool true)/\Below w.heap.size w w':=by
 refine(hP w (snap w) xs (λ_ _ h=>h) hg hw hxs).mono ?_
 rintro e w' ⟨v,F',rfl,_,_,_,hR,hb⟩
 cases hR
 exact⟨rfl,hb⟩
end
def vg{α β:Type}(F:(α->Option β)->α->Option β):Nat->α->Option β
 |0,_=>none
 |n+1,x=>F (vg F n) x
open Classical in
def xL{α β:Type}(F:(α->Option β)->α->Option β)(x:α):Option β:=if h:∃v,∃N,∀n,N<=n->vg F n x=some v then some h.choose else none
section
variable{α β:Type}{F:(α->Option β)->α->Option β}
theorem Jv{x:α}{v:β}(h:xL F x=some v):∃n,vg F n x=some v:=by
 unfold xL at h
 split at h
 .rename_i hx
  have he:=aI h
  obtain⟨N,hN⟩:=hx.choose_spec
  exact⟨N,by rw[hN N (bM _),he]⟩
 .cases h
theorem a1E{x:α}{v:β}(N:Nat)(h:∀n,N<=n->vg F n x=some v):xL F x=some v:=by
 have hx:∃v,∃N,∀n,N<=n->vg F n x=some v:=⟨v,N,h⟩
 unfold xL
 rw[zH hx]
 obtain⟨M,hM⟩:=hx.choose_spec
 have h1:=hM (max M N) (wQ _ _)
 rw[h _ (Af _ _)]at h1
 exact h1.symm
variable{P:Program}{Gl:Nat->Option (List AV)}
theorem a0Z{f:Nat}{ps rs:List Ty}{G:(Ty.dD ps->Option (Ty.dD rs))->Ty.dD ps->Option (Ty.dD rs)}(hc:callable P f=true)(h:∀run,POk P Gl ⟨f,ps,rs,run⟩->POk P Gl ⟨f,ps,rs,G run⟩):POk P Gl ⟨f,ps,rs,xL G⟩:=by
 have key:∀n,POk P Gl ⟨f,ps,rs,vg G n⟩:=by
  intro n
  induction n with
  |zero=>exact⟨hc,λx y q=>by cases q⟩
  |succ n ih=>exact h _ ih
 refine⟨hc,λx y q=>?_⟩
 obtain⟨n,hn⟩:=Jv q
 exact(key n).2 x y hn
theorem BR{f:Nat}{ish osh:Sh}{kp:List Nat}{G:(Ty.dD ish.tys->Option (Ty.dD osh.tys))->Ty.dD ish.tys->Option (Ty.dD osh.tys)}(hc:callable P f=true)(h:∀run,HOk P Gl ⟨f,ish,osh,run,kp⟩->HOk P Gl ⟨f,ish,osh,G run,kp⟩):HOk P Gl ⟨f,ish,osh,xL G,kp⟩:=by
 have key:∀n,HOk P Gl ⟨f,ish,osh,vg G n,kp⟩:=by
  intro n
  induction n with
  |zero=>exact⟨hc,λx y q=>by cases q⟩
  |succ n ih=>exact h _ ih
 refine⟨hc,λx y q=>?_⟩
 obtain⟨n,hn⟩:=Jv q
 exact(key n).2 x y hn
end
inductive AT where
 |o
 |u (l:List Nat)
 |s (a b:AT)
 |d (n:Nat) (a:AT)
 |j (pre:List Pre) (sh:Sh) (a b:AT)
 |c (a b:AT)
 |b (a:AT)
 |l (pre:List Pre) (sh:Sh) (a:AT)
 |n (k:Nat) (a:AT)
 |p (s:Nat) (k:IntKind) (ns:List Int) (a:AT)
def tC:C->XC
 |.skip=>.skip
 |.ops d l=>.ops d l
 |.wu l=>.wu [] l
 |.seq a b=>.seq (tC a) (tC b)
 |.cond c a b=>.cond c (tC a) (tC b)
 |.block i b=>.block i (tC b)
 |.loop b=>.Gx 0 (tC b)
 |.exit i=>.exit i
 |.ret=>.ret
def Kl(f:C->XC):Nat->C->XC
 |0,c=>f c
 |n+1,.seq a b=>.seq (tC a) (Kl f n b)
 |_,c=>tC c
def toX:AT->C->XC
 |.u l,.wu r=>.wu l r
 |.s a b,.seq x y=>.seq (toX a x) (toX b y)
 |.d n a,c=>Kl (toX a) n c
 |.j pre sh a b,.seq x y=>.Qa pre sh (toX a x) (toX b y)
 |.c a b,.cond o x y=>.cond o (toX a x) (toX b y)
 |.b a,.block i x=>.block i (toX a x)
 |.l pre sh a,.loop x=>.loop pre sh (toX a x)
 |.n k a,.loop x=>.Gx k (toX a x)
 |.p s k ns a,c=>.HZ s k ns (toX a c)
 |_,c=>tC c
theorem rA:∀c,(tC c).er=c:=by
 intro c
 induction c with
 |seq a b h1 h2=>simp only[tC,XC.er,h1,h2]
 |cond c a b h1 h2=>simp only[tC,XC.er,h1,h2]
 |block i b h=>simp only[tC,XC.er,h]
 |loop b h=>simp only[tC,XC.er,h]
 |_=>rfl
theorem X9{f:C->XC}(h:∀c,(f c).er=c):∀(n:Nat) (c:C),(Kl f n c).er=c:=by
 intro n
 induction n with
 |zero=>intro c;exact h c
 |succ n ih =>
  intro c
  cases c with
  |seq a b=>simp only[Kl,XC.er,rA,ih]
  |_=>exact rA _
theorem a2L:∀(a:AT) (c:C),(toX a c).er=c:=by
 intro a
 induction a with
 |d n a ih=>intro c;cases c<;>exact X9 ih n _
 |s a b h1 h2=>intro c;cases c<;>first|(simp only[toX,XC.er,h1,h2];done)|exact rA _
 |j pre sh a b h1 h2=>intro c;cases c<;>first|(simp only[toX,XC.er,h1,h2];done)|exact rA _
 |c a b h1 h2=>intro c;cases c<;>first|(simp only[toX,XC.er,h1,h2];done)|exact rA _
 |b a ih=>intro c;cases c<;>first|(simp only[toX,XC.er,ih];done)|exact rA _
 |l pre sh a ih=>intro c;cases c<;>first|(simp only[toX,XC.er,ih];done)|exact rA _
 |n k a ih=>intro c;cases c<;>first|(simp only[toX,XC.er,ih];done)|exact rA _
 |p s k ns a ih=>intro c;cases c<;>exact ih _
 |u l=>intro c;cases c<;>first|rfl|exact rA _
 |o=>intro c;cases c<;>exact rA _
def xo(P:Program)(hc:List Nat)(f:Func)(a:AT):XC:=match f.body.bind (cC P hc) with
 |some c=>toX a c
 |none=>.skip
theorem a5y{P:Program}{hc:List Nat}{f:Func}{a:AT}(h:(f.body.bind (cC P hc)).isSome=true):f.body.bind (cC P hc)=some (xo P hc f a).er:=by
 unfold xo
 cases e:f.body.bind (cC P hc) with
 |none=>rw[e]at h;cases h
 |some c=>rw[a2L]
def Mo{α β γ:Type}(F:(α->Option β)->Option γ):Prop:=∀s s':α->Option β,(∀y v,s y=some v->s' y=some v)->∀v,F s=some v->F s'=some v
section
variable{α β γ δ S R:Type}
theorem Mo.const(o:Option γ):Mo (λ_:α->Option β=>o):=λ_ _ _ _ h=>h
theorem Mo.self(y:α):Mo (λs:α->Option β=>s y):=λ_ _ h _ q=>h _ _ q
theorem Mo.bind{F:(α->Option β)->Option γ}{G:(α->Option β)->γ->Option δ}(hF:Mo F)(hG:∀x,Mo λs=>G s x):Mo (λs=>(F s).bind (G s)):=by
 intro s s' h v q
 cases e:F s with
 |none=>simp only[e,Option.bind_none]at q;cases q
 |some x =>
  simp only[e,ku]at q
  simp only[hF s s' h x e,ku]
  exact hG x s s' h v q
theorem Mo.cond(c:Bool){F G:(α->Option β)->Option γ}(hF:Mo F)(hG:Mo G):Mo (λs=>_root_.cond c (F s) (G s)):=by cases c<;>assumption
theorem Mo.map{F:(α->Option β)->Option γ}{f:γ->δ}(hF:Mo F):Mo (λs=>(F s).map f):=by
 intro s s' h v q
 cases e:F s with
 |none=>simp only[e,oH]at q;cases q
 |some x =>
  simp only[e,bn]at q
  simp only[hF s s' h x e,bn]
  exact q
theorem Mo.join{F:(α->Option β)->Option (S⊕R)}{G:(α->Option β)->S->Option R}(hF:Mo F)(hG:∀x,Mo λs=>G s x):Mo (λs=>AA (F s) (G s)):=by
 intro s s' h v q
 cases e:F s with
 |none=>simp only[e]at q;cases q
 |some x =>
  simp only[e]at q
  simp only[hF s s' h x e]
  cases x with
  |inl x=>exact hG x s s' h v q
  |inr r=>exact q
theorem a0P{step step':S->Option (S⊕R)}(h:∀y v,step y=some v->step' y=some v):∀n s r,rZ step n s=some r->rZ step' n s=some r:=by
 intro n
 induction n with
 |zero=>intro s r q;cases q
 |succ n ih =>
  intro s r q
  simp only[rZ]at q ⊢
  cases e:step s with
  |none=>rw[e]at q;cases q
  |some x =>
   rw[e]at q;rw[h _ _ e]
   cases x with
   |inl x=>exact ih _ _ q
   |inr x=>exact q
theorem TJ{step:S->Option (S⊕R)}{s:S}{r:R}(h:eZ step s=some r):∃n,rZ step n s=some r:=by
 unfold eZ at h
 split at h
 .rename_i hx;exact⟨_,h⟩
 .cases h
theorem Sy{step:S->Option (S⊕R)}:∀(n:Nat) {s:S} {r:R},rZ step n s=some r->eZ step s=some r:=by
 intro n
 induction n with
 |zero=>intro s r q;cases q
 |succ n ih =>
  intro s r q
  simp only[rZ]at q
  cases e:step s with
  |none=>rw[e]at q;cases q
  |some x =>
   rw[e]at q
   cases x with
   |inl x=>rw[Ol e];exact ih q
   |inr x=>rw[Fv e];exact q
theorem Mo.loop{G:(α->Option β)->S->Option (S⊕R)}(hG:∀x,Mo λs=>G s x)(x:S):Mo (λs=>eZ (G s) x):=by
 intro s s' h v q
 obtain⟨n,hn⟩:=TJ q
 exact Sy n (a0P (λy v hy=>hG y s s' h v hy) n x v hn)
theorem EB{ι:Type}{F:(α->Option β)->α->Option β}(hm:∀x,Mo λs=>F s x)(arg:ι->α)(P:ι->Prop)(Q:ι->β->Prop)(μ:ι->Nat)(h:∀g,P g->∀s:α->Option β,(∀g',P g'->μ g'<μ g->T (s (arg g')) (Q g'))->T (F s (arg g)) (Q g))(g:ι)(hg:P g):T (xL F (arg g)) (Q g):=by
 have up:∀n x v,vg F n x=some v->vg F (n+1) x=some v:=by
  intro n
  induction n with
  |zero=>intro x v q;cases q
  |succ n ih=>intro x v q;exact hm x _ _ ih v q
 have ups:∀k n x v,vg F n x=some v->vg F (n+k) x=some v:=by
  intro k
  induction k with
  |zero=>intro n x v q;exact q
  |succ k ih=>intro n x v q;exact up _ _ _ (ih n x v q)
 have key:∀m g,P g->μ g<m->T (vg F m (arg g)) (Q g):=by
  intro m
  induction m with
  |zero=>intro x _ q;omega
  |succ m ih=>intro x hx q;exact h x hx _ λy hy hlt=>ih y hy (by omega)
 obtain⟨v,h1,h2⟩:=key (μ g+1) g hg (by omega)
 refine⟨v,a1E (μ g+1) (λn hn=>?_),h2⟩
 have:=ups (n-(μ g+1)) _ _ _ h1
 rwa [show μ g+1+(n-(μ g+1))=n by omega]at this
end
end
end Abs
end Go.Proofs.YtgfnhpadmifiiaaDoor
