/- Merged and trimmed by a program: W1 V1 V2 V3 V4 V5 W2 W3 W4 W5 W6 W7 W8 W9 WA WB WC WD F0 F1 Plain CivP F2 F3 F4 F5 F6. -/
import Derived.Test.YtnhgeocdffhkjaaGreatDoorZGI
import Derived.Below
set_option linter.unusedVariables false
set_option linter.unusedSimpArgs false
set_option linter.defProp false
namespace Go.Proofs.YtnhgeocdffhkjaaGreatDoor
namespace Abs
noncomputable section
theorem T.iter{α β:Type}{F:(α->Option β)->α->Option β}(P:Nat->α->Prop)(Q:Nat->α->β->Prop)(h:∀n x,P (n+1) x->∀self:α->Option β,(∀y,P n y->T (self y) (Q n y))->T (F self x) (Q (n+1) x))(h0:∀x,¬P 0 x):∀n x,P n x->T (eT F n x) (Q n x):=by
 intro n
 induction n with
 |zero=>intro x hx;exact absurd hx (h0 x)
 |succ n ih=>intro x hx;exact h n x hx _ λy hy=>ih y hy
abbrev Bd(n:Nat):Prop:=n<=1000000000
theorem ni(s:ByteArray):sLen s=(s.size:Int):=rfl
def bsX:=And.intro @bQ (And.intro @dh (And.intro @gG (And.intro @kT (And.intro @lK (And.intro @iT (And.intro @nG (And.intro @yh (And.intro @bV (And.intro @b4T (And.intro @tO (And.intro @b4q (And.intro @jh (And.intro @Rn (And.intro @vF (And.intro @a4E (And.intro @a4F (And.intro @b3Z (And.intro @iA (And.intro @rO (And.intro @dR (And.intro @pW (And.intro @lq (And.intro @U5 (And.intro @xU (And.intro @zD (And.intro @l5 (And.intro @nu (And.intro @b1R (And.intro @Qe (And.intro @b1S (And.intro @b1T (And.intro @or_true (And.intro @true_or (And.intro @and_true (And.intro @true_and (And.intro @or_false (And.intro @false_or (And.intro @and_false (And.intro @false_and (And.intro @not_true_eq_false (And.intro @not_false_eq_true (And.intro @Bool.true_eq_false (And.intro @Bool.false_eq_true (And.intro @aX (@ni)))))))))))))))))))))))))))))))))))))))))))))
def arX:=And.intro @bC (And.intro @dB (And.intro @Yh (And.intro @aX (And.intro @List.length_append.{0} (And.intro @List.length_cons.{0} (And.intro @List.length_nil.{0} (And.intro @List.length_set.{0} (And.intro @List.length_take.{0} (And.intro @List.length_drop.{0} (@List.length_replicate.{0}))))))))))
def bZ(L:List Int)(a:Int):Prop:=L.length<=9223372036854775807/\0<=a
theorem b2F(x:Int){n:Int}(hn:0<n):-n<x.tmod n/\x.tmod n<n:=⟨by have:=Int.lt_tmod_of_pos x hn;omega,yE x hn⟩
theorem a3l(x:Int){n:Int}(hn:0<n)(hn2:n<=4611686018427387904):0<=iE (aN .i64 (iE x n) n) n/\iE (aN .i64 (iE x n) n) n<n:=by
 have h:=b2F x hn
 have e:aN .i64 (iE x n) n=x.tmod n+n:=bC (by simp only[iE];omega) (by simp only[iE];omega)
 rw[e]
 simp only[iE]
 exact⟨Int.tmod_nonneg _ (by omega),yE _ hn⟩
theorem gJ{L:List Int}{a n:Int}(h:bZ L a)(hn:0<n)(hn2:n<=4611686018427387904):T (m24 n L a) (λy=>bZ y.2.1 y.2.2.1/\0<=y.1/\y.1<n):=by
 obtain⟨h1,h2⟩:=h
 unfold m24
 have hL:=aX L
 refine T.cnd (λhc=>T.ret ⟨⟨h1,h2⟩,by omega,hn⟩) (λhc=>?_)
 rw[kT]at hc
 have e1:dz .i64 (aN .i64 a 1) 1=a:=by rw[bC (by omega) (by omega),dB (by omega) (by omega)];omega
 rw[e1]
 refine T.grd (by rw[bV];omega) (T.grd (by rw[nG];omega) (T.grd (by rw[nG];omega) (T.ret ⟨⟨h1,?_⟩,a3l _ hn hn2⟩)))
 show 0<=aN .i64 a 1
 rw[bC (by omega) (by omega)];omega
theorem a0v(x:Int){n:Int}(hn:0<n)(hn2:n<=4611686018427387904):T (m11 x n) (λy=>0<=y.1/\y.1<n):=by
 unfold m11
 exact T.grd (by rw[nG];omega) (T.grd (by rw[nG];omega) (T.ret (a3l _ hn hn2)))
theorem Bq{L:List Int}{a l u:Int}(h:bZ L a)(h0:0<=l)(h1:l<=u)(h2:u<=1000000):T (m88 l u L a) (λy=>bZ y.2.1 y.2.2.1/\l<=y.1/\y.1<=u):=by
 unfold m88
 have e:aN .i64 (dz .i64 u l) 1=u-l+1:=by rw[dB (by omega) (by omega),bC (by omega) (by omega)]
 rw[e]
 repeat' (first|(refine T.call (gJ (by assumption) (by first|omega|(simp(disch:=omega) only[arX];omega)) (by first|omega|(simp(disch:=omega) only[arX];omega))) (λ_ ⟨_,_,_⟩=>?_))|(refine T.grd ?_ ?_)|(refine T.cnd (λhc=>?_) (λhc=>?_)<;>try simp only[bsX,eq_self]at hc)|(refine T.iD ?_)|(refine T.go ?_ ?_)|(refine T.out ?_)|(refine T.jgo ?_)|(refine T.pz ?_)|(refine T.sO ?_)|(refine T.ret ?_))
 refine⟨by assumption,?_,?_⟩<;>(rw[bC (by omega) (by omega)];omega)
theorem Wm{L:List Int}{a n:Int}(h:bZ L a)(h0:0<=n)(h1:n<=4611686018427387903):T (DT n L a) (λy=>bZ y.2.1 y.2.2.1/\0<=y.1/\y.1<=n):=by
 unfold DT
 have e:aN .i64 n 1=n+1:=bC (by omega) (by omega)
 rw[e]
 unfold jC
 repeat' (first|(refine T.call (gJ (by assumption) (by first|omega|(simp(disch:=omega) only[arX];omega)) (by first|omega|(simp(disch:=omega) only[arX];omega))) (λ_ ⟨_,_,_⟩=>?_))|(refine T.grd ?_ ?_)|(refine T.cnd (λhc=>?_) (λhc=>?_)<;>try simp only[bsX,eq_self]at hc)|(refine T.iD ?_)|(refine T.go ?_ ?_)|(refine T.out ?_)|(refine T.jgo ?_)|(refine T.pz ?_)|(refine T.sO ?_)|(refine T.ret ?_))
 all_goals refine⟨by assumption,?_⟩
 all_goals simp(disch:=omega) only[dB]
 all_goals omega
theorem b1g{L:List Int}{a:Int}(h:bZ L a):T (m90 L a) (λy=>bZ y.2.1 y.2.2.1/\0<=y.1/\y.1<=876599):=by
 unfold m90
 repeat' (first|(refine T.call (gJ (by assumption) (by first|omega|(simp(disch:=omega) only[arX];omega)) (by first|omega|(simp(disch:=omega) only[arX];omega))) (λ_ ⟨_,_,_⟩=>?_))|(refine T.grd ?_ ?_)|(refine T.cnd (λhc=>?_) (λhc=>?_)<;>try simp only[bsX,eq_self]at hc)|(refine T.iD ?_)|(refine T.go ?_ ?_)|(refine T.out ?_)|(refine T.jgo ?_)|(refine T.pz ?_)|(refine T.sO ?_)|(refine T.ret ?_))
 all_goals refine⟨by assumption,?_⟩
 all_goals(try simp(disch:=omega) only[dB])
 all_goals omega
theorem a1b{L:List Int}{a:Int}(h:bZ L a):T (m49 L a) (λy=>bZ y.2.2.1 y.2.2.2.1/\0<=y.1):=by
 unfold m49
 repeat' (first|(refine T.call (b1g (by assumption)) (λ_ ⟨_,_,_⟩=>?_))|(refine T.grd ?_ ?_)|(refine T.cnd (λhc=>?_) (λhc=>?_)<;>try simp only[bsX,eq_self]at hc)|(refine T.iD ?_)|(refine T.go ?_ ?_)|(refine T.out ?_)|(refine T.jgo ?_)|(refine T.pz ?_)|(refine T.sO ?_)|(refine T.ret ?_))
 exact⟨by assumption,by unfold jC;omega⟩
section
variable{S R:Type}{step:S->Option (S⊕R)}{Q:R->Prop}
theorem T.pass(n:Int)(P:Int->Prop)(mk:Int->S)(hn:0<=n)(h:∀k,0<=k->k<n->(∀j,0<=j->j<k->P j)->T (step (mk k)) (LQ (λs=>s=mk (k+1)/\P k) (λ_=>0) 1 Q))(he:(∀j,0<=j->j<n->P j)->T (step (mk n)) (LQ (λ_=>False) (λ_=>0) 0 Q)):T (bH step (mk 0)) Q:=by
 have key:∀(d:Nat) (k:Int),0<=k->k+d=n->(∀j,0<=j->j<k->P j)->T (bH step (mk k)) Q:=by
  intro d
  induction d with
  |zero =>
   intro k _ hk hp
   obtain rfl:k=n:=by omega
   obtain⟨r,h1,h2⟩:=he hp
   cases r with
   |inl s=>exact absurd h2.1 id
   |inr r=>exact⟨r,zR h1,h2⟩
  |succ d ih =>
   intro k h0 hk hp
   obtain⟨r,h1,h2⟩:=h k h0 (by omega) hp
   cases r with
   |inl s =>
    obtain⟨⟨rfl,h3⟩,_⟩:=h2
    rw[R5 h1]
    refine ih (k+1) (by omega) (by omega) λj j0 j1=>?_
    rcases Int.lt_or_eq_of_le (show j<=k by omega) with q|rfl
    .exact hp j j0 q
    .exact h3
   |inr r=>exact⟨r,zR h1,h2⟩
 exact key n.toNat 0 (mK _) (by omega) λj _ _=>by omega
end
theorem at_mem{α:Type}{xs:List α}{n:Int}(z:α)(h0:0<=n)(h1:n<(xs.length:Int)):atI xs n z∈xs:=by
 unfold atI
 have h:n.toNat<xs.length:=by omega
 rw[bn,ah h]
 exact jF h
theorem Es{α:Type}{l:List α}{z x:α}(h:x∈l):∃k:Int,0<=k/\k<(l.length:Int)/\atI l k z=x:=by
 obtain⟨k,hk,rfl⟩:=nL.1 h
 exact⟨k,by omega,by omega,by unfold atI;rw[bn,iF,ah hk];rfl⟩
theorem wH{α:Type}{l:List α}{p:α->Bool}{z:α}{k:Int}(h0:0<=k)(h1:k<(l.length:Int))(h:p (atI l k z)=false):l.all p=false:=by
 cases q:l.all p with
 |false=>rfl
 |true=>rw[aG.1 q _ (at_mem z h0 h1)]at h;cases h
theorem tV{α:Type}{l:List α}{p:α->Bool}{z:α}(h:∀k:Int,0<=k->k<(l.length:Int)->p (atI l k z)=true):l.all p=true:=by
 refine aG.2 λx hx=>?_
 obtain⟨k,h0,h1,rfl⟩:=Es (z:=z) hx
 exact h k h0 h1
theorem T.round{S:Type}{s s':S}{b:Bool}{R:Type}{r:R}{P:Prop}{Q:R->Prop}(hs:s'=s)(hp:b=true->P)(hq:b=false->Q r):T (cond (not b) (some (Sum.inr r)) (some (Sum.inl s'))) (LQ (λq=>q=s/\P) (λ_=>0) 1 Q):=by
 cases b with
 |false=>exact T.out (hq rfl)
 |true=>exact T.go ⟨hs,hp rfl⟩ (by omega)
theorem T.a2S{S α:Type}{step:S->Option (S⊕(Bool×Unit))}(l:List α)(z:α)(p:α->Bool)(mk:Int->S)(h:∀k:Int,0<=k->k<(l.length:Int)->T (step (mk k)) (LQ (λs=>s=mk (k+1)/\p (atI l k z)=true) (λ_=>0) 1 (λr=>p (atI l k z)=false/\r=(false,()))))(he:step (mk (l.length:Int))=some (.inr (true,()))):bH step (mk 0)=some (l.all p,()):=by
 refine T.eq (T.pass (l.length:Int) (λk=>p (atI l k z)=true) mk (by omega) (λk h0 h1 _=>?_) (λhp=>⟨_,he,by show(true,())=_;rw[tV hp]⟩))
 refine(h k h0 h1).mono λr hr=>?_
 cases r with
 |inl s=>exact hr
 |inr r=>exact hr.2.trans (by rw[wH h0 h1 hr.1])
def isLet(c:Int):Bool:=iLe 97 c&&iLe c 122
def lJ(c:Int):Bool:=iLe 48 c&&iLe c 57
def oJ(c:Int):Bool:=isLet c||lJ c||iEq c 45
theorem Cr(c:Int):m80 c=some (isLet c,()):=by unfold m80 isLet;cases iLe 97 c<;>rfl
theorem a3N(c:Int):Ux c=some (isLet c,()):=Cr c
theorem J2(c:Int):Uw c=some (lJ c,()):=by unfold Uw lJ;cases iLe 48 c<;>rfl
theorem a3c(c:Int):OT c=some (oJ c,()):=by
 unfold OT oJ
 rw[Cr,show Co c=some (lJ c,()) from J2 c]
 simp only[iO]
 cases isLet c<;>cases lJ c<;>rfl
def GU(s:ByteArray):Bool:=(List.range s.size).all λk=>oJ (sAt s (k:Int))
theorem RO{s:ByteArray}{k:Int}(h0:0<=k)(h1:k<(s.size:Int))(h:oJ (sAt s k)=false):GU s=false:=by
 cases q:GU s with
 |false=>rfl
 |true =>
  have:=aG.1 q k.toNat (bA.2 (by omega))
  rw[mD h0,h]at this;cases this
theorem Qi{s:ByteArray}(h:∀k:Int,0<=k->k<(s.size:Int)->oJ (sAt s k)=true):GU s=true :=
 aG.2 λk hk=>h k (by omega) (by have:=bA.1 hk;omega)
def lX(s:ByteArray):Bool:=if s.size=0\/16<s.size then false else isLet (sAt s 0)&&!iEq (sAt s ((s.size:Int)-1)) 45&&GU s
theorem a8Q(s:ByteArray)(hs:s.size<=16):T (m77 s 0 ()) (λy=>iEq y.1 (sLen s)=GU s):=by
 unfold m77
 have hl:=ni s
 refine T.pass (s.size:Int) (λk=>oJ (sAt s k)=true) (λk=>(s,k,(),())) (by omega) (λk h0 h1 _=>?_) (λhp=>?_)
 .dsimp only
  refine T.grd (by rw[lq,bV];left;omega) (T.ct (by rw[bQ];omega) (T.aU (a3c _) (T.cnd (λh=>T.go ⟨?_,h⟩ (by omega)) (λh=>T.out ?_))))
  .rw[bC (by omega) (by omega)]
  .show iEq k (sLen s)=_
   rw[RO h0 h1 h,iT];omega
 .dsimp only
  refine T.grd (by rw[lq,iA,Qe,dh];right;omega) (T.cf (by rw[dh];omega) (T.out ?_))
  show iEq (s.size:Int) (sLen s)=_
  rw[Qi hp,lK];omega
theorem Ny(s:ByteArray):m95 s=some (lX s,()):=by
 refine T.eq ?_
 unfold m95 lX
 have hl:=ni s
 by_cases hz:s.size=0\/16<s.size
 .rw[if_pos hz]
  have hc:cond (iEq (sLen s) 0) true (iLt 16 (sLen s))=true:=by rw[l5,lK,bQ];omega
  rw[hc]
  exact T.grd (by rw[lq,iA];exact .inr rfl) (T.grd (by rw[lq,iA];exact .inr rfl) (T.ret rfl))
 rw[if_neg hz]
 have hc:cond (iEq (sLen s) 0) true (iLt 16 (sLen s))=false:=by rw[nu,iT,dh];omega
 have hb:∀b:Bool,or (bnd ((s.size:Int)-1) (sLen s)) b=true:=λb=>by rw[lq,bV];left;omega
 rw[hc,show dz .i64 (sLen s) 1=(s.size:Int)-1 by rw[dB (by omega) (by omega),hl]]
 refine T.grd (by rw[lq,bV];left;omega) (T.cf rfl (T.aU (Cr _) (T.grd (hb _) ?_)))
 obtain⟨y,e,hy⟩:=a8Q s (by omega)
 rw[e]
 dsimp only[Option.bind_some]
 rw[hy]
 cases isLet (sAt s 0)<;>cases iEq (sAt s ((s.size:Int)-1)) 45<;>exact T.ret rfl
theorem Wh(s:ByteArray):OX s=some (lX s,()):=by
 refine T.eq ?_
 unfold OX lX
 have hl:=ni s
 by_cases hz:s.size=0\/16<s.size
 .rw[if_pos hz]
  have hc:cond (iLt (sLen s) 1) true (iLt 16 (sLen s))=true:=by rw[l5,bQ,bQ];omega
  rw[hc]
  exact T.grd (by rw[lq,iA];exact .inr rfl) (T.grd (by rw[lq,iA];exact .inr rfl) (T.ret rfl))
 rw[if_neg hz]
 have hc:cond (iLt (sLen s) 1) true (iLt 16 (sLen s))=false:=by rw[nu,dh,dh];omega
 have hb:∀b:Bool,or (bnd ((s.size:Int)-1) (sLen s)) b=true:=λb=>by rw[lq,bV];left;omega
 rw[hc,show dz .i64 (sLen s) 1=(s.size:Int)-1 by rw[dB (by omega) (by omega),hl]]
 refine T.grd (by rw[lq,bV];left;omega) (T.cf rfl (T.aU (a3N _) (T.grd (hb _) (T.cnd (λh=>T.ret ?_) (λh=>?_)))))
 .rw[l5,iA]at h
  dsimp only at h
  rcases h with h|h<;>rw[h]
  .rfl
  .cases isLet (sAt s 0)<;>rfl
 rw[nu,rO]at h
 dsimp only at h
 rw[h.1,h.2]
 refine T.pass (s.size:Int) (λk=>oJ (sAt s k)=true) (λk=>(s,k,())) (by omega) (λk h0 h1 _=>?_) (λhp=>?_)
 .dsimp only
  have hk:∀b:Bool,or (bnd k (sLen s)) b=true:=λb=>by rw[lq,bV];left;omega
  have he:oJ (sAt s k)=(isLet (sAt s k)||lJ (sAt s k)||iEq (sAt s k) 45):=rfl
  refine T.ct (by rw[bQ];omega) (T.grd (by rw[bV];omega) (T.aU (a3N _) (T.grd (hk _) (T.cnd (λq=>T.aU (J2 _) (T.grd (hk _) (T.cnd (λr=>T.out ?_) (λr=>T.go ⟨?_,?_⟩ (by omega))))) (λq=>T.grd (hk _) (T.go ⟨?_,?_⟩ (by omega)))))))
  .rw[xU,iA,nG]at r
   rw[iA]at q
   dsimp only at r q
   rw[q,r.1,iT.mpr r.2]at he
   rw[RO h0 h1 he];rfl
  .rw[bC (by omega) (by omega)]
  .rw[zD,rO,yh]at r
   dsimp only at r
   rw[he]
   rcases r with r|r
   .rw[r];cases isLet (sAt s k)<;>rfl
   .rw[r];cases isLet (45:Int)<;>cases lJ (45:Int)<;>rfl
  .rw[bC (by omega) (by omega)]
  .rw[rO]at q
   dsimp only at q
   rw[he,q];rfl
 .exact T.cf (by rw[dh];show sLen s<=(s.size:Int);omega) (T.out (by rw[Qi hp];rfl))
theorem YI(a b:Bool):(cond a (some (true,())) (some (b,())):Option (Bool×Unit))=some (a||b,()):=by cases a<;>rfl
def TV(s:ByteArray):Bool:=(Gs s).elim false λy=>y.1
theorem a3k(s:ByteArray):Gs s=some (TV s,()):=by
 have h:∃b,Gs s=some (b,()):=by
  unfold Gs
  simp only[YI]
  exact⟨_,rfl⟩
 obtain⟨b,h⟩:=h
 unfold TV
 rw[h];rfl
theorem b2D(s:ByteArray):m96 s=some (TV s,()):=(show m96 s=Gs s from rfl).trans (a3k s)
def eH(s:ByteArray):Bool:=lX s&&!TV s
theorem DK(s:ByteArray):m54 s=some (eH s,()):=by
 unfold m54 eH
 rw[Ny,b2D]
 cases lX s<;>rfl
theorem DJ(s:ByteArray):m57 s=some (eH s,()):=by
 unfold m57 eH
 rw[Wh,a3k]
 cases lX s<;>rfl
theorem GQ{α:Type}{l:List α}{z:α}{k:Nat}(h:k<l.length):atI l (k:Int) z=l[k]:=by
 unfold atI;rw[bn,iF,ah h];rfl
theorem JK(l:List ByteArray)(h:l.length<=9223372036854775807):m29 l=some (l.all eH,()):=by
 unfold m29
 have hl:=aX l
 refine T.a2S l ByteArray.empty eH (λk=>(l,k,())) (λk h0 h1=>?_) ?_
 .dsimp only
  refine T.ct (by rw[bQ];omega) (T.grd (by rw[bV];omega) (T.aU (DJ _) (T.round ?_ id (λq=>⟨q,rfl⟩))))
  rw[bC (by omega) (by omega)]
 .dsimp only
  rw[dh.mpr (by omega)];rfl
open Classical in
def dst(l:List ByteArray):Bool:=decide l.Nodup
theorem IZ{l:List ByteArray}:(dst l=true)=l.Nodup:=by unfold dst;rw[dV]
theorem a4e{l:List ByteArray}:(dst l=false)=¬l.Nodup:=by unfold dst;rw[kE]
theorem zO{l:List ByteArray}(z:ByteArray):l.Nodup↔∀i:Int,0<=i->i<(l.length:Int)->∀j,0<=j->j<i->¬atI l i z=atI l j z:=by
 unfold List.Nodup
 rw[List.pairwise_iff_getElem]
 constructor
 .intro h i i0 i1 j j0 j1 q
  have:=h j.toNat i.toNat (by omega) (by omega) (by omega)
  rw[<- GQ (z:=z),<- GQ (z:=z),mD i0,mD j0]at this
  exact this q.symm
 .intro h i j hi hj hij q
  refine h (j:Int) (by omega) (by omega) (i:Int) (by omega) (by omega) ?_
  rw[GQ hi,GQ hj,q]
theorem CQ(l:List ByteArray)(h:l.length<=9223372036854775807):m30 l=some (dst l,()):=by
 refine T.eq ?_
 unfold m30
 have hl:=aX l
 have no:∀i:Int,0<=i->i<(l.length:Int)->∀j,0<=j->j<i->sEq (atI l i ByteArray.empty) (atI l j ByteArray.empty)=true->dst l=false:=λi i0 i1 j j0 j1 q=>by
  rw[a4e]
  exact λhn=>(zO ByteArray.empty).1 hn i i0 i1 j j0 j1 (I4.mp q)
 refine T.pass (l.length:Int) (λi=>∀j,0<=j->j<i->¬atI l i ByteArray.empty=atI l j ByteArray.empty) (λk=>(l,k,())) (by omega) (λi i0 i1 _=>?_) (λhp=>?_)
 .dsimp only
  refine T.ct (by rw[bQ];omega) ?_
  refine T.pass i (λj=>¬atI l i ByteArray.empty=atI l j ByteArray.empty) (λj=>(l,i,j,())) i0 (λj j0 j1 _=>?_) (λhp=>?_)
  .dsimp only
   refine T.ct (by rw[bQ];exact j1) (T.grd (by rw[bV];omega) (T.grd (by rw[bV];omega) (T.cnd (λq=>T.out (show((false,()):Bool×Unit)=(dst l,()) by rw[no i i0 i1 j j0 j1 q])) (λq=>T.go ⟨?_,I5.mp q⟩ (by omega)))))
   rw[bC (by omega) (by omega)]
  .dsimp only
   exact T.cf (by rw[dh];omega) (T.out ⟨⟨by rw[bC (by omega) (by omega)],hp⟩,Nat.zero_lt_one⟩)
 .dsimp only
  exact T.cf (by rw[dh];omega) (T.out (by rw[IZ.mpr ((zO ByteArray.empty).2 λi i0 i1=>hp i i0 i1)]))
def Pt(l:List ByteArray)(w:ByteArray):Bool:=l.any λx=>sEq w x
theorem J4(l:List ByteArray)(w:ByteArray)(h:l.length<=9223372036854775807):m55 l w=some (Pt l w,()):=by
 refine T.eq ?_
 unfold m55
 have hl:=aX l
 have key:T (m97 l w) (λy=>iLe 0 y.1=Pt l w):=by
  unfold m97
  refine T.pass (l.length:Int) (λk=>sEq w (atI l k ByteArray.empty)=false) (λk=>(l,w,aD l,k,())) (by omega) (λk h0 h1 _=>?_) (λhp=>?_)
  .dsimp only
   refine T.ct (by rw[bQ];omega) (T.grd (by rw[bV];omega) (T.cnd (λq=>T.out ?_) (λq=>T.go ⟨?_,q⟩ (by omega))))
   .rw[gG.mpr h0]
    exact(gT.2 ⟨_,at_mem _ h0 h1,q⟩).symm
   .rw[bC (by omega) (by omega)]
  .dsimp only
   refine T.cf (by rw[dh];omega) (T.out ?_)
   rw[show iLe 0 (-1)=false from rfl]
   refine(uE.2 λx hx=>?_).symm
   obtain⟨k,h0,h1,rfl⟩:=Es (z:=ByteArray.empty) hx
   rw[hp k h0 h1];exact Bool.false_ne_true
 exact T.call key λy q=>T.ret (by rw[q])
theorem K7{l:List ByteArray}{k:Int}(h0:0<=k)(h1:k<=(l.length:Int)){w:ByteArray}:(Pt (qM 0 k l) w=false)=∀j,0<=j->j<k->¬w=atI l j ByteArray.empty:=by
 rw[show qM 0 k l=l.take k.toNat from rfl]
 unfold Pt
 rw[uE,eq_iff_iff]
 constructor
 .intro h j j0 j1 q
  have hj:j.toNat<(l.take k.toNat).length:=by rw[jE];omega
  refine h _ (jF hj) ?_
  rw[I4,q,List.getElem_take]
  conv=>lhs;rw[<- mD j0]
  exact GQ _
 .intro h x hx q
  obtain⟨j,hj,rfl⟩:=nL.1 hx
  have hj2:j<k.toNat/\j<l.length:=by rw[jE]at hj;omega
  refine h (j:Int) (by omega) (by omega) ?_
  rw[I4.mp q,List.getElem_take,GQ hj2.2]
def uG(l:List ByteArray):Bool:=decide (1<=l.length/\l.length<=12)&&(l.all eH&&dst l)
theorem K9{l:List ByteArray}(hp:∀k:Int,0<=k->k<(l.length:Int)->eH (atI l k ByteArray.empty)=true/\∀j,0<=j->j<k->¬atI l k ByteArray.empty=atI l j ByteArray.empty):(l.all eH&&dst l)=true:=by
 rw[tV λk h0 h1=>(hp k h0 h1).1,IZ.mpr ((zO ByteArray.empty).2 λi i0 i1=>(hp i i0 i1).2)];rfl
theorem Rk{l:List ByteArray}{k:Int}(h0:0<=k)(h1:k<(l.length:Int))(h:eH (atI l k ByteArray.empty)=false):(l.all eH&&dst l)=false:=by
 rw[wH h0 h1 h];rfl
theorem Rl{l:List ByteArray}{k:Int}(h0:0<=k)(h1:k<(l.length:Int))(h:Pt (qM 0 k l) (atI l k ByteArray.empty)=true):(l.all eH&&dst l)=false:=by
 have:dst l=false:=by
  rw[a4e]
  intro hn
  have:=(zO ByteArray.empty).1 hn k h0 h1
  rw[<- K7 h0 (by omega),h]at this
  cases this
 rw[this];cases l.all eH<;>rfl
theorem a4v(l:List ByteArray):JO l=some (uG l,()):=by
 refine T.eq ?_
 unfold JO uG
 have hl:=aX l
 refine T.cnd (λhc=>T.ret ?_) (λhc=>?_)<;>simp only[bsX,eq_self]at hc
 .rw[dQ (by omega)];rfl
 rw[bX (by omega),iJ]
 refine T.pass (l.length:Int) (λk=>eH (atI l k ByteArray.empty)=true/\∀j,0<=j->j<k->¬atI l k ByteArray.empty=atI l j ByteArray.empty) (λk=>(l,l,aD l,k,())) (by omega) (λk h0 h1 _=>?_) (λhp=>?_)
 .dsimp only
  have hc:(qM 0 k l).length<=9223372036854775807:=by rw[show qM 0 k l=l.take k.toNat from rfl,jE];omega
  refine T.ct (by rw[bQ];omega) (T.grd (by rw[bV];omega) (T.aU (DK _) ?_))
  refine T.grd (by rw[lq,vF];left;omega) (T.cnd (λq=>T.out ?_) (λq=>T.aU (J4 _ _ hc) ?_))
  .rw[Rk h0 h1 (iA.mp q)]
  refine T.cnd (λr=>T.out ?_) (λr=>T.go ⟨?_,rO.mp q,(K7 h0 (by omega)).mp r⟩ (by omega))
  .rw[Rl h0 h1 r]
  .rw[bC (by omega) (by omega)]
 .exact T.cf (by rw[dh];show aD l<=(l.length:Int);omega) (T.out (by rw[K9 hp]))
def GR(op n:Int):Bool:=cond (iEq op 6) (iEq n 1) (cond (iEq op 7) (iLe 2 n) (cond (iEq op 8) (iLe 2 n) (iEq n 0)))
def Ci(op lo hi:Int):Bool:=cond (iEq op 5) (iLe (-1000000000) lo&&(iLe lo 1000000000&&(iLe (-1000000000) hi&&(iLe hi 1000000000&&iLe lo hi)))) (iEq lo 0&&iEq hi 0)
def BZ(op:Int)(ws:List ByteArray):Bool:=cond (iEq op 4) (uG ws) (decide (ws.length=0))
def Uf(op:Int)(nm:ByteArray):Bool:=cond (cond (cond (iEq op 3) true (iEq op 4)) true (iEq op 5)) (eH nm) (sEq nm (bs []))
def tK(e:DS0):Bool:=iLe 1 e.1&&(iLe e.1 8&&(Uf e.1 e.2.1&&(BZ e.1 e.2.2.1&&(Ci e.1 e.2.2.2.1 e.2.2.2.2.1&&GR e.1 (List.length (α:=AV) e.2.2.2.2.2.1:Int)))))
theorem NP(a:Bool)(x y:Bool):(cond a (some (x,())) (some (y,())):Option (Bool×Unit))=some (cond a x y,()):=by cases a<;>rfl
theorem a8K(op lo hi n:Int):(cond (iEq op 5) ((yS lo).bind λy=>cond y.1 (some (false,())) ((yS hi).bind λz=>cond (cond z.1 true (iLt hi lo)) (some (false,())) (cond (iEq op 6) (some (iEq n 1,())) (cond (iEq op 7) (some (iLe 2 n,())) (cond (iEq op 8) (some (iLe 2 n,())) (some (iEq n 0,()))))))) (cond (cond (iNe lo 0) true (iNe hi 0)) (some (false,())) (cond (iEq op 6) (some (iEq n 1,())) (cond (iEq op 7) (some (iLe 2 n,())) (cond (iEq op 8) (some (iLe 2 n,())) (some (iEq n 0,())))))))=some (Ci op lo hi&&GR op n,()):=by
 have far:∀k:Int,yS k=some (!(iLe (-1000000000) k&&iLe k 1000000000),()):=λk=>by
  unfold yS;congr 2;rw[cZ,l5,bQ,bQ,iA,pW,kT,kT];omega
 rw[far,far]
 simp only[iO,NP]
 unfold Ci
 rw[show iLt hi lo=!iLe lo hi by rw[cZ,bQ,iA,kT],show iNe lo 0=!iEq lo 0 by rw[cZ,nG,iA,iT],show iNe hi 0=!iEq hi 0 by rw[cZ,nG,iA,iT]]
 congr 2
 unfold GR
 generalize cond (iEq op 6) _ _=a
 cases iEq op 5<;>cases iLe (-1000000000) lo<;>cases iLe lo 1000000000<;>cases iLe (-1000000000) hi<;>cases iLe hi 1000000000<;>cases iLe lo hi<;>cases iEq lo 0<;>cases iEq hi 0<;>rfl
theorem a8L(op lo hi:Int):(cond (iEq op 5) ((DR lo).bind λy=>cond y.1 ((DR hi).bind λz=>some (cond z.1 (iLe lo hi) false,())) (some (false,()))) (some (cond (iEq lo 0) (iEq hi 0) false,())))=some (Ci op lo hi,()):=by
 unfold DR Ci
 simp only[iO,NP]
 congr 2
 cases iEq op 5<;>cases iLe (-1000000000) lo<;>cases iLe lo 1000000000<;>cases iLe (-1000000000) hi<;>cases iLe hi 1000000000<;>cases iLe lo hi<;>cases iEq lo 0<;>cases iEq hi 0<;>rfl
theorem VY{ws:List ByteArray}:iLt 0 (aD ws)=!decide (ws.length=0):=by rw[cZ,bQ,iA,kE,aX];omega
theorem b68(op:Int)(ws:List ByteArray)(h:ws.length<=9223372036854775807)(x:DS0):T (cond (iEq op 4) (cond (cond (iLt (aD ws) 1) true (iLt 12 (aD ws))) (some (.inr (false,()))) ((m29 ws).bind λy=>cond (not y.1) (some (.inr (false,()))) ((m30 ws).bind λz=>cond (not z.1) (some (.inr (false,()))) (some (.inl x))))) (cond (iLt 0 (aD ws)) (some (.inr (false,()))) (some (.inl x)))) (JQ (λj=>j=x/\BZ op ws=true) (λy:Bool×Unit=>BZ op ws=false/\y=(false,()))):=by
 unfold BZ
 cases iEq op 4
 .rw[VY]
  cases decide (ws.length=0)
  .exact T.pz ⟨rfl,rfl⟩
  .exact T.jgo ⟨rfl,rfl⟩
 .have hw:cond (iLt (aD ws) 1) true (iLt 12 (aD ws))=!decide (1<=ws.length/\ws.length<=12):=by rw[cZ,l5,bQ,bQ,iA,kE,aX];omega
  unfold uG
  rw[hw,JK _ h,CQ _ h]
  cases decide (1<=ws.length/\ws.length<=12)<;>cases ws.all eH<;>cases dst ws<;>first|exact T.pz ⟨rfl,rfl⟩|exact T.jgo ⟨rfl,rfl⟩
theorem b69(op:Int)(ws:List ByteArray)(x:DS0):T (cond (iEq op 4) ((JO ws).bind λy=>cond (not y.1) (some (.inr (false,()))) (some (.inl x))) (cond (iLt 0 (aD ws)) (some (.inr (false,()))) (some (.inl x)))) (JQ (λj=>j=x/\BZ op ws=true) (λy:Bool×Unit=>BZ op ws=false/\y=(false,()))):=by
 unfold BZ
 cases iEq op 4
 .rw[VY]
  cases decide (ws.length=0)
  .exact T.pz ⟨rfl,rfl⟩
  .exact T.jgo ⟨rfl,rfl⟩
 .rw[a4v]
  cases uG ws
  .exact T.pz ⟨rfl,rfl⟩
  .exact T.jgo ⟨rfl,rfl⟩
theorem La{o:Option (DS0⊕(Bool×Unit))}{f:DS0->Option (Bool×Unit)}{x:DS0}{w b:Bool}(h:T o (JQ (λj=>j=x/\w=true) (λy=>w=false/\y=(false,()))))(hf:f x=some (b,())):jZ o f=some (w&&b,()):=by
 refine T.eq (T.join (λj=>j=x/\w=true) (h.mono λr hr=>?_) (λj ⟨he,hw⟩=>?_))
 .cases r with
  |inl s=>exact hr
  |inr r=>rw[hr.2,hr.1];rfl
 .rw[he,hf,hw];exact T.ret rfl
theorem b0D(e:DS0)(h:List.length (α:=ByteArray) e.2.2.1<=9223372036854775807):Uq e=some (tK e,()):=by
 obtain⟨op,nm,ws,lo,hi,l,⟨⟩⟩:=e
 have j:=λf hf=>La (f:=f) (b:=Ci op lo hi&&GR op (List.length l:Int)) (b68 op ws h (op,nm,ws,lo,hi,l,())) hf
 unfold Uq tK Uf
 dsimp only
 rw[j _ (by exact a8K op lo hi _),DJ]
 rw[show iLt op 1=!iLe 1 op by rw[cZ,bQ,iA,kT],show iLt 8 op=!iLe op 8 by rw[cZ,bQ,iA,kT]]
 cases iLe 1 op<;>cases iLe op 8<;>cases cond (cond (iEq op 3) true (iEq op 4)) true (iEq op 5)<;>cases eH nm<;>cases sEq nm (bs [])<;>rfl
theorem b2y{op:Int}(h1:1<=op)(h8:op<=8):(atI opsL op (ByteArray.empty,false,0,0,0,())).2.1=cond (cond (iEq op 3) true (iEq op 4)) true (iEq op 5):=by
 have:op=1\/op=2\/op=3\/op=4\/op=5\/op=6\/op=7\/op=8:=by omega
 rcases this with rfl|rfl|rfl|rfl|rfl|rfl|rfl|rfl<;>rfl
theorem b2z{op n:Int}(h1:1<=op)(h8:op<=8)(h0:0<=n):cond (iLt n (atI opsL op (ByteArray.empty,false,0,0,0,())).2.2.1) true (iLt (atI opsL op (ByteArray.empty,false,0,0,0,())).2.2.2.1 n)=!(GR op n&&iLe n 300):=by
 have c1:cond (iLt n 0) true (iLt 0 n)=!(iEq n 0&&iLe n 300):=by rw[cZ,l5,bQ,bQ,iA,pW,iT,kT];omega
 have c2:cond (iLt n 1) true (iLt 1 n)=!(iEq n 1&&iLe n 300):=by rw[cZ,l5,bQ,bQ,iA,pW,iT,kT];omega
 have c3:cond (iLt n 2) true (iLt 300 n)=!(iLe 2 n&&iLe n 300):=by rw[cZ,l5,bQ,bQ,iA,pW,kT,kT]
 have:op=1\/op=2\/op=3\/op=4\/op=5\/op=6\/op=7\/op=8:=by omega
 rcases this with rfl|rfl|rfl|rfl|rfl|rfl|rfl|rfl
 .exact c1
 .exact c1
 .exact c1
 .exact c1
 .exact c1
 .exact c2
 .exact c3
 .exact c3
theorem b0E(e:DS0):OH e=some (tK e&&iLe (List.length (α:=AV) e.2.2.2.2.2.1:Int) 300,()):=by
 obtain⟨op,nm,ws,lo,hi,l,⟨⟩⟩:=e
 have j:=λf hf=>La (f:=f) (b:=Ci op lo hi) (b69 op ws (op,nm,ws,lo,hi,l,())) hf
 by_cases hr:1<=op/\op<=8
 .unfold OH tK Uf
  dsimp only
  rw[j _ (by exact a8L op lo hi),DK]
  have hn:=b2y hr.1 hr.2
  have ha:=b2z hr.1 hr.2 (n:=(List.length l:Int)) (by omega)
  skip
  rw[aX,ha,hn,gG.mpr hr.1,gG.mpr hr.2,nu.mpr ⟨dh.mpr hr.1,dh.mpr hr.2⟩,show bnd op ((9:Nat):Int)=true by rw[bV];omega]
  cases GR op (List.length l:Int)<;>cases iLe (List.length l:Int) 300<;>cases cond (cond (iEq op 3) true (iEq op 4)) true (iEq op 5)<;>cases eH nm<;>cases sEq nm (bs [])<;>cases BZ op ws<;>cases Ci op lo hi<;>rfl
 .have e1:cond (iLt op 1) true (iLt 8 op)=true:=by rw[l5,bQ,bQ];omega
  unfold OH tK
  dsimp only
  rw[e1]
  rcases Ag op 1 with q|q
  .rw[kT.mpr q];rfl
  .rw[gG.mpr q,kT.mpr (show 8<op by omega)];rfl
def sm(f:AV->Nat)(l:List AV)(k:Nat):Nat:=((l.take k).map f).sum
theorem EG {f:AV->Nat} {l:List AV} {k:Int} (z:AV) (h0:0<=k) (h1:k < (l.length:Int)):sm f l (k + 1).toNat=sm f l k.toNat + f (atI l k z):=by
  have h:k.toNat<l.length:=by omega
  unfold sm
  rw[show(k+1).toNat=k.toNat+1 by omega,List.take_add_one,ah h,bJ,wK]
  have : atI l k z = l[k.toNat] := by conv => lhs; rw [<- mD h0]
                                      exact GQ h
  rw[this];simp
theorem HV{f:AV->Nat}{l:List AV}:sm f l l.length=(l.map f).sum:=by unfold sm;rw[List.take_length]
theorem Hz{f:AV->Nat}:∀(l:List AV) (k:Nat),sm f l k<=(l.map f).sum
 |[],k=>by unfold sm;simp
 |a::l,0=>by unfold sm;simp
 |a::l,k+1=>by have:=Hz (f:=f) l k;unfold sm at *;rw[List.take_succ_cons,bL,bL,fU,fU];omega
theorem NR(M:Nat)(f:AV->Nat):∀(l:List AV) (k c:Nat),min (c+sm (λa=>min (f a) M) l k) M=min (c+sm f l k) M
 |[],k,c=>by unfold sm;simp
 |a::l,0,c=>by unfold sm;simp
 |a::l,k+1,c=>by
  have h1:=NR M f l k (c+min (f a) M)
  have h2:sm (λa=>min (f a) M) (a::l) (k+1)=min (f a) M+sm (λa=>min (f a) M) l k:=by unfold sm;simp
  have h3:sm f (a::l) (k+1)=f a+sm f l k:=by unfold sm;simp
  rw[h2,h3];omega
def XE:Nat->DS0->Prop
 |0,_=>False
 |k+1,e=>List.length (α:=ByteArray) e.2.2.1<=9223372036854775807/\List.length (α:=AV) e.2.2.2.2.2.1<=9223372036854775807/\∀a∈e.2.2.2.2.2.1,qj a=true/\XE k (aV a)
theorem XE.up:∀{k:Nat} {e:DS0},XE k e->∀d,XE (k+d) e
 |0,_,h,_=>h.elim
 |k+1,e,h,d=>by
  rw[show k+1+d=(k+d)+1 by omega]
  exact⟨h.1,h.2.1,λa ha=>⟨(h.2.2 a ha).1,(h.2.2 a ha).2.up d⟩⟩
def XX(e:DS0):Prop:=∃k,XE k e
def XA(l:List AV):Prop:=l.length<=9223372036854775807/\∀a∈l,qj a=true/\XX (aV a)
theorem XX.out{e:DS0}(h:XX e):List.length (α:=ByteArray) e.2.2.1<=9223372036854775807/\XA e.2.2.2.2.2.1:=by
 obtain⟨k,hk⟩:=h
 cases k with
 |zero=>exact hk.elim
 |succ k=>exact⟨hk.1,hk.2.1,λa ha=>⟨(hk.2.2 a ha).1,k,(hk.2.2 a ha).2⟩⟩
theorem XA.g{l:List AV}(h:XA l){k:Int}(h0:0<=k)(h1:k<(l.length:Int)):and (bnd k (aD l)) (qj (atI l k AV.any))=true :=
 dR.mpr ⟨by rw[bV,aX];omega,(h.2 _ (at_mem _ h0 h1)).1⟩
def okE:Nat->DS0->Bool
 |0,_=>false
 |k+1,e=>tK e&&List.all (α:=AV) e.2.2.2.2.2.1 λa=>okE k (aV a)
def dpE:Nat->DS0->Bool
 |0,_=>false
 |k+1,e=>List.all (α:=AV) e.2.2.2.2.2.1 λa=>dpE k (aV a)
def szE:Nat->DS0->Nat
 |0,_=>1
 |k+1,e=>1+(List.map (α:=AV) (λa=>szE k (aV a)) e.2.2.2.2.2.1).sum
theorem Bn:∀(k:Nat) (e:DS0),1<=szE k e
 |0,_=>bq _
 |k+1,e=>Nat.le_add_right 1 _
theorem Fu:∀{k:Nat} {e:DS0},okE k e=true->dpE k e=true
 |0,_,h=>h
 |k+1,e,h=>by
  unfold okE at h
  rw[dR]at h
  exact aG.2 λa ha=>Fu (aG.1 h.2 a ha)
theorem Fq:∀{k:Nat} {e:DS0},dpE k e=true->∀d,dpE (k+d) e=true/\szE (k+d) e=szE k e/\okE (k+d) e=okE k e
 |0,_,h,_=>by cases h
 |k+1,e,h,d=>by
  have hc:=λa ha=>Fq (aG.1 h a ha) d
  rw[show k+1+d=(k+d)+1 by omega]
  refine⟨aG.2 λa ha=>(hc a ha).1,?_,?_⟩
  .unfold szE
   congr 2
   exact gN λa ha=>(hc a ha).2.1
  .unfold okE
   congr 1
   rw[cZ,aG,aG]
   exact⟨λq a ha=>(hc a ha).2.2▸q a ha,λq a ha=>(hc a ha).2.2.symm▸q a ha⟩
theorem a2E{F:Nat}{x:DS0×Int×Unit}(h:XX x.1/\0<=x.2.1/\x.2.1<=16/\x.2.1<F):T (eT (λself (x:DS0×Int×Unit)=>Mq self x.1 x.2.1) F x) (λy:Bool×Unit=>y=(!dpE x.2.1.toNat x.1,())):=by
 refine T.iter (λF (x:DS0×Int×Unit)=>XX x.1/\0<=x.2.1/\x.2.1<=16/\x.2.1<F) (λ_ x (y:Bool×Unit)=>y=(!dpE x.2.1.toNat x.1,())) (λF x h self hs=>?_) (λx h=>by have:=h.2;omega) F x h
 obtain⟨⟨op,nm,ws,lo,hi,l,⟨⟩⟩,n,⟨⟩⟩:=x
 obtain⟨hx,n0,n2,n1⟩:=h
 obtain⟨_,hA⟩:=hx.out
 dsimp only at n0 n1 n2 hA ⊢
 unfold Mq
 dsimp only
 have hl:=hA.1
 refine T.cnd (λhc=>T.ret ?_) (λhc=>?_)<;>simp only[bsX,eq_self]at hc
 .rw[hc];rfl
 obtain⟨m,rfl⟩:∃m:Nat,n=(m:Int)+1:=⟨n.toNat-1,by omega⟩
 rw[show((m:Int)+1).toNat=m+1 by omega]
 unfold dpE
 refine T.pass (l.length:Int) (λk=>dpE m (aV (atI l k AV.any))=true) (λk=>((m:Int)+1,k,op,nm,ws,lo,hi,l,())) (by omega) (λk h0 h1 _=>?_) (λhp=>?_)
 .dsimp only
  refine T.ct (by rw[bQ,aX];exact h1) (T.grd (hA.g h0 h1) (T.call (hs (_,_,()) ⟨(hA.2 _ (at_mem _ h0 h1)).2,?_,?_,?_⟩) (λy hy=>?_)))
  .dsimp only;rw[dB (by omega) (by omega)];omega
  .dsimp only;rw[dB (by omega) (by omega)];omega
  .dsimp only;rw[dB (by omega) (by omega)];omega
  rw[hy]
  dsimp only
  rw[dB (by omega) (by omega),show((m:Int)+1-1).toNat=m by omega]
  cases q:dpE m (aV (atI l k AV.any)) with
  |false=>exact T.out (by show((true,()):Bool×Unit)=_;rw[wH (p:=λa=>dpE m (aV a)) h0 h1 q];rfl)
  |true=>exact T.go ⟨by rw[bC (by omega) (by omega)],rfl⟩ (by omega)
 .dsimp only
  exact T.cf (by rw[dh,aX];omega) (T.out (by rw[tV (p:=λa=>dpE m (aV a)) hp];rfl))
theorem a8S{F:Nat}{x:DS0×Unit}(h:XX x.1/\dpE F x.1=true):T (eT (λself (x:DS0×Unit)=>Ml self x.1) F x) (λy:Int×Unit=>y=(((min (szE F x.1) 301:Nat):Int),())):=by
 refine T.iter (λF (x:DS0×Unit)=>XX x.1/\dpE F x.1=true) (λF x (y:Int×Unit)=>y=(((min (szE F x.1) 301:Nat):Int),())) (λF x h self hs=>?_) (λx h=>by have:=h.2;cases this) F x h
 obtain⟨⟨op,nm,ws,lo,hi,l,⟨⟩⟩,⟨⟩⟩:=x
 obtain⟨hx,hd⟩:=h
 obtain⟨_,hA⟩:=hx.out
 have hd:=aG.1 hd
 dsimp only at hA hd ⊢
 have hl:=hA.1
 unfold Ml szE
 dsimp only
 generalize hf:(λa=>szE F (aV a))=f
 have hm:=λk c=>NR 301 f l k c
 have hle:=Hz (f:=f) l
 refine T.pass (l.length:Int) (λk=>True) (λk=>(((1+sm (λa=>min (f a) 301) l k.toNat:Nat):Int),k,op,nm,ws,lo,hi,l,())) (by omega) (λk h0 h1 _=>?_) (λhp=>?_)
 .dsimp only
  refine T.cnd (λhc=>?_) (λhc=>?_)<;>simp only[bsX,eq_self]at hc
  .refine T.grd (hA.g h0 h1) (T.call (hs (_,()) ⟨(hA.2 _ (at_mem _ h0 h1)).2,hd _ (at_mem _ h0 h1)⟩) (λy hy=>T.go ⟨?_,trivial⟩ (by omega)))
   rw[hy,bC (by omega) (by omega),bC (by omega) (by omega),EG AV.any h0 h1,<- hf]
   dsimp only
   congr 1
   omega
  .refine T.out ?_
   have:=hm k.toNat 1
   have:=hle k.toNat
   unfold jC
   rw[show min ((1+sm (λa=>min (f a) 301) l k.toNat:Nat):Int) 301=((min (1+(List.map f l).sum) 301:Nat):Int) by omega]
 .dsimp only
  refine T.cf (by rw[zD,dh,aX];left;omega) (T.out ?_)
  have:=hm l.length 1
  rw[HV (f:=f)]at this
  unfold jC
  rw[iF,show min ((1+sm (λa=>min (f a) 301) l l.length:Nat):Int) 301=((min (1+(List.map f l).sum) 301:Nat):Int) by omega]
theorem a5H{F:Nat}{x:DS0×Unit}(h:XX x.1/\dpE F x.1=true):T (eT (λself (x:DS0×Unit)=>Mk self x.1) F x) (λy:Bool×Unit=>y=(okE F x.1,())):=by
 refine T.iter (λF (x:DS0×Unit)=>XX x.1/\dpE F x.1=true) (λF x (y:Bool×Unit)=>y=(okE F x.1,())) (λF x h self hs=>?_) (λx h=>by have:=h.2;cases this) F x h
 obtain⟨⟨op,nm,ws,lo,hi,l,⟨⟩⟩,⟨⟩⟩:=x
 obtain⟨hx,hd⟩:=h
 obtain⟨hw,hA⟩:=hx.out
 have hd:=aG.1 hd
 dsimp only at hw hA hd ⊢
 have hl:=hA.1
 unfold Mk okE
 dsimp only
 refine T.aU (b0D _ hw) ?_
 dsimp only
 cases tK (op,nm,ws,lo,hi,l,())
 .exact T.ret rfl
 refine T.cf rfl ?_
 refine T.pass (l.length:Int) (λk=>okE F (aV (atI l k AV.any))=true) (λk=>(k,op,nm,ws,lo,hi,l,())) (by omega) (λk h0 h1 _=>?_) (λhp=>?_)
 .dsimp only
  refine T.ct (by rw[bQ,aX];exact h1) (T.grd (hA.g h0 h1) (T.call (hs (_,()) ⟨(hA.2 _ (at_mem _ h0 h1)).2,hd _ (at_mem _ h0 h1)⟩) (λy hy=>?_)))
  rw[hy]
  refine T.round (by rw[bC (by omega) (by omega)]) id (λq=>?_)
  rw[wH (p:=λa=>okE F (aV a)) h0 h1 q];rfl
 .dsimp only
  exact T.cf (by rw[dh,aX];omega) (T.out (by rw[tV (p:=λa=>okE F (aV a)) hp];rfl))
def jf(e:DS0):Bool:=okE 16 e&&decide (szE 16 e<=300)
theorem Yw(e:DS0)(h:XX e):m98 e=some (jf e,()):=by
 refine T.eq ?_
 unfold m98 jf
 refine T.call (a2E (F:=10000) (x:=(e,16,())) ⟨h,by dsimp only;omega,by dsimp only;omega,by dsimp only;omega⟩) (λy hy=>?_)
 have hy:y=(!dpE 16 e,()):=hy
 rw[hy]
 dsimp only
 cases q:dpE 16 e with
 |false =>
  have:okE 16 e=false:=by cases r:okE 16 e with
   |false=>rfl
   |true=>rw[Fu r]at q;cases q
  rw[this];exact T.ret rfl
 |true =>
  obtain⟨d1,d2,d3⟩:=Fq q 9984
  refine T.ct rfl (T.call (a8S (F:=10000) (x:=(e,())) ⟨h,d1⟩) (λz hz=>?_))
  rw[hz]
  have e1:szE 10000 e=szE 16 e:=d2
  dsimp only
  rw[e1]
  by_cases hs:szE 16 e<=300
  .refine T.ct (by rw[gG];omega) (T.call (a5H (F:=10000) (x:=(e,())) ⟨h,d1⟩) (λv hv=>T.ret ?_))
   rw[hv,bX hs,uR]
   exact dO (λb=>(b,())) d3
  .refine T.cf (by rw[kT];omega) (T.ret ?_)
   rw[dQ hs,Bool.and_false]
theorem a4y{F:Nat}{x:DS0×Int×Int×Unit}(h:XX x.1/\(1<=x.2.1/\x.2.1<=17/\17-x.2.1<F)/\0<=x.2.2.1/\x.2.2.1<=300):T (eT (λself (x:DS0×Int×Int×Unit)=>Mr self x.1 x.2.1 x.2.2.1) F x) (λy:Bool×Int×Unit=>y.1=(okE (17-x.2.1).toNat x.1&&decide (x.2.2.1+szE (17-x.2.1).toNat x.1<=300))/\(y.1=true->y.2.1=x.2.2.1+szE (17-x.2.1).toNat x.1)):=by
 refine T.iter (λF (x:DS0×Int×Int×Unit)=>XX x.1/\(1<=x.2.1/\x.2.1<=17/\17-x.2.1<F)/\0<=x.2.2.1/\x.2.2.1<=300) (λF x (y:Bool×Int×Unit)=>y.1=(okE (17-x.2.1).toNat x.1&&decide (x.2.2.1+szE (17-x.2.1).toNat x.1<=300))/\(y.1=true->y.2.1=x.2.2.1+szE (17-x.2.1).toNat x.1)) (λF x h self hs=>?_) (λx h=>by have:=h.2.1;omega) F x h
 obtain⟨⟨op,nm,ws,lo,hi,l,⟨⟩⟩,d,s,⟨⟩⟩:=x
 obtain⟨hx,⟨d0,d1,d2⟩,s0,s1⟩:=h
 obtain⟨hw,hA⟩:=hx.out
 dsimp only at hA d0 d1 d2 s0 s1 ⊢
 have hl:=hA.1
 unfold Mr
 dsimp only
 rw[bC (by omega) (by omega)]
 have no:∀{b:Bool} {z:Int},b=false->T (some (false,z,())) (λy:Bool×Int×Unit=>y.1=b/\(y.1=true->y.2.1=s+szE (17-d).toNat (op,nm,ws,lo,hi,l,()))):=λhb=>T.ret ⟨hb.symm,λq=>by cases q⟩
 refine T.cnd (λhc=>no ?_) (λhc=>?_)<;>simp only[bsX,eq_self]at hc
 .have:=Bn (17-d).toNat (op,nm,ws,lo,hi,l,PUnit.unit)
  rcases hc with q|q
  .rw[pW];right;exact dQ (by omega)
  .rw[show(17-d).toNat=0 by omega];rfl
 obtain⟨r,hr⟩:∃r:Nat,(17-d).toNat=r+1:=⟨(17-d).toNat-1,by omega⟩
 rw[hr]at no ⊢
 unfold szE at no ⊢
 unfold okE
 dsimp only at no ⊢
 generalize hf:(λa=>szE r (aV a))=f at no ⊢
 have hle:=Hz (f:=f) l
 refine T.aU (b0E _) ?_
 dsimp only
 refine T.cnd (λhn=>no ?_) (λhn=>?_)
 .rw[iA,pW,kT]at hn
  rcases hn with q|q
  .rw[q];rfl
  .rw[pW];right
   have:∀l:List AV,l.length<=(l.map f).sum:=λl=>by
    induction l with
    |nil=>exact dG _
    |cons a l ih=>have:=Bn r (aV a);rw[<- hf]at *;simp at *;omega
   have:=this l
   exact dQ (by omega)
 rw[rO,dR]at hn
 rw[hn.1,iJ,show s+1=s+1+((sm f l (Int.toNat 0):Nat):Int) by show s+1=s+1+((sm f l 0:Nat):Int);have:sm f l 0=0:=(by unfold sm;simp);omega]
 refine T.pass (l.length:Int) (λk=>okE r (aV (atI l k AV.any))=true/\s+1+(sm f l (k+1).toNat:Int)<=300) (λk=>(d,l,aD l,k,s+1+(sm f l k.toNat:Int),())) (by omega) (λk h0 h1 hp=>?_) (λhp=>?_)
 .dsimp only
  have hk:s+1+(sm f l k.toNat:Int)<=300:=by
   by_cases hz:k=0
   .rw[hz];show s+1+((sm f l 0:Nat):Int)<=300
    have:sm f l 0=0:=by unfold sm;simp
    omega
   .have:=(hp (k-1) (by omega) (by omega)).2
    rwa [show k-1+1=k by omega]at this
  refine T.ct (by rw[bQ,aX];exact h1) (T.grd (hA.g h0 h1) (T.call (hs (aV (atI l k AV.any),_,_,()) ⟨(hA.2 _ (at_mem _ h0 h1)).2,⟨?_,?_,?_⟩,?_,hk⟩) (λy hy=>?_)))
  .dsimp only;rw[bC (by omega) (by omega)];omega
  .dsimp only;rw[bC (by omega) (by omega)];omega
  .dsimp only;rw[bC (by omega) (by omega)];omega
  .dsimp only;omega
  dsimp only at hy
  rw[bC (by omega) (by omega),show(17-(d+1)).toNat=r by omega]at hy
  obtain⟨y1,y2⟩:=hy
  have hz:=EG (f:=f) AV.any h0 h1
  have hfk:f (atI l k AV.any)=szE r (aV (atI l k AV.any)):=by rw[<- hf]
  cases q:y.1 with
  |false =>
   refine T.out ⟨?_,λq=>by cases q⟩
   rw[q]at y1
   show false=_
   rcases pW.mp y1.symm with w|w
   .rw[wH (p:=λa=>okE r (aV a)) h0 h1 w];rfl
   .have:=of_decide_eq_false w
    have:=hle (k+1).toNat
    symm;rw[pW];right
    exact dQ (by omega)
  |true =>
   have y2:=y2 q
   rw[q]at y1
   obtain⟨w1,w2⟩:=dR.mp y1.symm
   have w2:=of_decide_eq_true w2
   refine T.go ⟨?_,w1,by omega⟩ (by omega)
   rw[bC (by omega) (by omega),y2]
   congr 5
   omega
 .dsimp only
  refine T.cf (by rw[dh,aX];omega) (T.out ?_)
  have ha:List.all (α:=AV) l (λa=>okE r (aV a))=true:=tV (p:=λa=>okE r (aV a)) λk h0 h1=>(hp k h0 h1).1
  have hz:sm f l (l.length:Int).toNat=(List.map f l).sum:=by rw[iF,HV]
  have hk:s+1+(sm f l (l.length:Int).toNat:Int)<=300:=by
   by_cases hz:(l.length:Int)=0
   .have:sm f l 0=0:=by unfold sm;simp
    rw[hz];show s+1+((sm f l 0:Nat):Int)<=300
    omega
   .have:=(hp ((l.length:Int)-1) (by omega) (by omega)).2
    rwa [show(l.length:Int)-1+1=l.length by omega]at this
  rw[ha,iJ]
  exact⟨(bX (by omega)).symm,λ_=>by dsimp only;omega⟩
theorem PL(e:DS0)(h:XX e):m93 e=some (jf e,()):=by
 refine T.eq ?_
 unfold m93 jf
 refine T.call (a4y (F:=10000) (x:=(e,1,0,())) ⟨h,by dsimp only;omega,by dsimp only;omega,by dsimp only;omega⟩) (λy hy=>T.ret ?_)
 have h1:y.1=(okE 16 e&&decide ((0:Int)+(szE 16 e:Int)<=300)):=hy.1
 rw[h1]
 congr 2
 rw[decide_eq_decide];omega
def XB:Nat->List AV->Prop
 |0,_=>False
 |k+1,l=>l.length<=9223372036854775807/\∀a∈l,mY a=true/\XX (bG a).2.1/\XB k (bG a).2.2.1
theorem XB.up:∀{k:Nat} {l:List AV},XB k l->∀d,XB (k+d) l
 |0,_,h,_=>h.elim
 |k+1,l,h,d=>by
  rw[show k+1+d=(k+d)+1 by omega]
  exact⟨h.1,λa ha=>⟨(h.2 a ha).1,(h.2 a ha).2.1,(h.2 a ha).2.2.up d⟩⟩
def BB(l:List AV):Prop:=∃k,XB k l
def BA(l:List AV):Prop:=l.length<=9223372036854775807/\∀a∈l,mY a=true/\XX (bG a).2.1/\BB (bG a).2.2.1
theorem BB.out{l:List AV}(h:BB l):BA l:=by
 obtain⟨k,hk⟩:=h
 cases k with
 |zero=>exact hk.elim
 |succ k=>exact⟨hk.1,λa ha=>⟨(hk.2 a ha).1,(hk.2 a ha).2.1,k,(hk.2 a ha).2.2⟩⟩
theorem okg{l:List AV}(h:∀a∈l,mY a=true){k:Int}(h0:0<=k)(h1:k<(l.length:Int)):and (bnd k (aD l)) (mY (atI l k AV.any))=true :=
 dR.mpr ⟨by rw[bV,aX];omega,h _ (at_mem _ h0 h1)⟩
def cnB:Nat->List AV->Nat
 |0,l=>l.length
 |k+1,l=>l.length+(l.map λa=>cnB k (bG a).2.2.1).sum
theorem RB:∀(k:Nat) (l:List AV),XB k l->∀n,k<=n->eT (λself (x:List AV×Unit)=>Gp self x.1) n (l,())=some (((min (cnB k l) 41:Nat):Int),())
 |0,_,h,_,_=>h.elim
 |k+1,l,h,n,hn=>by
  obtain⟨n,rfl⟩:∃m,n=m+1:=⟨n-1,by omega⟩
  have hs:=fun(a:AV) (ha:a∈l)=>RB k _ (h.2 a ha).2.2 n (by omega)
  have hl:=h.1
  refine T.eq ?_
  show T (Gp (eT (λself (x:List AV×Unit)=>Gp self x.1) n) l) _
  generalize eT (λself (x:List AV×Unit)=>Gp self x.1) n=self at hs ⊢
  unfold Gp cnB
  generalize hf:(λa=>cnB k (bG a).2.2.1)=f
  have hm:=λk c=>NR 41 f l k c
  have hle:=Hz (f:=f) l
  rw[show aD l=((l.length+sm (λa=>min (f a) 41) l (Int.toNat 0):Nat):Int) by have:sm (λa=>min (f a) 41) l (Int.toNat 0)=0:=(by show sm _ l 0=0;unfold sm;simp);rw[this,aX];omega]
  refine T.pass (l.length:Int) (λk=>True) (λk=>(l,((l.length+sm (λa=>min (f a) 41) l k.toNat:Nat):Int),k,())) (by omega) (λk h0 h1 _=>?_) (λhp=>?_)
  .dsimp only
   refine T.cnd (λhc=>?_) (λhc=>?_)<;>simp only[bsX,eq_self]at hc
   .refine T.grd (okg (λa ha=>(h.2 a ha).1) h0 h1) (T.aU (hs _ (at_mem _ h0 h1)) (T.go ⟨?_,trivial⟩ (by omega)))
    rw[bC (by omega) (by omega),bC (by omega) (by omega),EG AV.any h0 h1,<- hf]
    dsimp only
    congr 2
    omega
   .refine T.out ?_
    have:=hm k.toNat l.length
    have:=hle k.toNat
    unfold jC
    rw[show min ((l.length+sm (λa=>min (f a) 41) l k.toNat:Nat):Int) 41=((min (l.length+(List.map f l).sum) 41:Nat):Int) by omega]
  .dsimp only
   refine T.cf (by rw[zD,dh,aX];left;omega) (T.out ?_)
   have:=hm l.length l.length
   rw[HV (f:=f)]at this
   unfold jC
   rw[iF,show min ((l.length+sm (λa=>min (f a) 41) l l.length:Nat):Int) 41=((min (l.length+(List.map f l).sum) 41:Nat):Int) by omega]
theorem a6o{k:Nat}{l:List AV}(h:XB k l):m99 l=some (((min (cnB k l) 41:Nat):Int),()):=a6d k (RB k l h)
def okB:Nat->List AV->Bool
 |0,l=>decide (l.length=0)
 |k+1,l=>l.all λa=>eH (bG a).1&&(jf (bG a).2.1&&okB k (bG a).2.2.1)
theorem MN:∀{k:Nat} {l:List AV},okB k l=true->∀d,cnB (k+d) l=cnB k l
 |0,l,h,d=>by
  have:l=[]:=bW.1 (of_decide_eq_true h)
  subst this
  cases d<;>rfl
 |k+1,l,h,d=>by
  rw[show k+1+d=(k+d)+1 by omega]
  unfold cnB
  congr 2
  exact gN λa ha=>MN (dR.mp (dR.mp (aG.1 h a ha)).2).2 d
theorem a6I{F:Nat}{x:List AV×Int×Unit}(h:BB x.1/\0<=x.2.1/\x.2.1<=16/\x.2.1<F):T (eT (λself (x:List AV×Int×Unit)=>ME self x.1 x.2.1) F x) (λy:Bool×Unit=>y=(okB x.2.1.toNat x.1,())):=by
 refine T.iter (λF (x:List AV×Int×Unit)=>BB x.1/\0<=x.2.1/\x.2.1<=16/\x.2.1<F) (λ_ x (y:Bool×Unit)=>y=(okB x.2.1.toNat x.1,())) (λF x h self hs=>?_) (λx h=>by have:=h.2;omega) F x h
 obtain⟨l,n,⟨⟩⟩:=x
 obtain⟨hx,n0,n2,n1⟩:=h
 have hA:=hx.out
 dsimp only at n0 n1 n2 hA ⊢
 have hl:=hA.1
 unfold ME
 refine T.cnd (λhc=>T.ret ?_) (λhc=>?_)<;>simp only[bsX,eq_self]at hc
 .rw[hc.2]
  have:=hc.1
  show _=(decide (l.length=0),())
  rw[dQ (by omega)]
 by_cases hn:n=0
 .subst hn
  have hz:l.length=0:=by omega
  have:l=[]:=bW.1 hz
  subst this
  exact⟨_,zR rfl,rfl⟩
 obtain⟨m,rfl⟩:∃m:Nat,n=(m:Int)+1:=⟨n.toNat-1,by omega⟩
 rw[show((m:Int)+1).toNat=m+1 by omega]
 unfold okB
 generalize hp:(λa=>eH (bG a).1&&(jf (bG a).2.1&&okB m (bG a).2.2.1))=p
 have hk:∀a,p a=(eH (bG a).1&&(jf (bG a).2.1&&okB m (bG a).2.2.1)):=λa=>by rw[<- hp]
 refine T.pass (l.length:Int) (λk=>p (atI l k AV.any)=true) (λk=>(l,(m:Int)+1,k,())) (by omega) (λk h0 h1 _=>?_) (λhp=>?_)
 .dsimp only
  have hg:=okg (λa ha=>(hA.2 a ha).1) h0 h1
  have hg2:∀b:Bool,or (and (bnd k (aD l)) (mY (atI l k AV.any))) b=true:=λb=>by rw[hg];rfl
  have hm:=hA.2 _ (at_mem AV.any h0 h1)
  have hk:=hk (atI l k AV.any)
  have no:p (atI l k AV.any)=false->((false,()):Bool×Unit)=(l.all p,()):=λq=>by rw[wH h0 h1 q]
  refine T.ct (by rw[bQ,aX];exact h1) (T.grd hg (T.aU (DJ _) (T.grd (hg2 _) (T.cnd (λq=>T.grd (hg2 _) (T.out (no ?_))) (λq=>T.aU (Yw _ hm.2.1) (T.grd (hg2 _) (T.cnd (λr=>T.out (no ?_)) (λr=>T.call (hs (_,_,()) ⟨hm.2.2,?_,?_,?_⟩) (λy hy=>?_)))))))))
  .rw[hk,show eH (bG (atI l k AV.any)).1=false from iA.mp q];rfl
  .rw[hk,show jf (bG (atI l k AV.any)).2.1=false from iA.mp r];cases eH (bG (atI l k AV.any)).1<;>rfl
  .dsimp only;rw[dB (by omega) (by omega)];omega
  .dsimp only;rw[dB (by omega) (by omega)];omega
  .dsimp only;rw[dB (by omega) (by omega)];omega
  rw[hy]
  dsimp only
  rw[dB (by omega) (by omega),show((m:Int)+1-1).toNat=m by omega]
  rw[show eH (bG (atI l k AV.any)).1=true from rO.mp q,show jf (bG (atI l k AV.any)).2.1=true from rO.mp r]at hk
  exact T.round (by rw[bC (by omega) (by omega)]) (λw=>hk.trans w) (λw=>no (hk.trans w))
 .dsimp only
  exact T.cf (by rw[dh,aX];omega) (T.out (by rw[tV hp]))
theorem R7(f:AV->Nat):∀l:List AV,(l.map λa=>1+f a).sum=l.length+(l.map f).sum
 |[]=>rfl
 |a::l=>by rw[bL,bL,fU,fU,R7 f l,bf];omega
theorem a4u{F:Nat}{x:List AV×Int×Int×Unit}(h:BB x.1/\(1<=x.2.1/\x.2.1<=17/\17-x.2.1<F)/\0<=x.2.2.1/\x.2.2.1<=40):T (eT (λself (x:List AV×Int×Int×Unit)=>Ug self x.1 x.2.1 x.2.2.1) F x) (λy:Bool×Int×Unit=>y.1=(okB (17-x.2.1).toNat x.1&&decide (x.2.2.1+cnB (17-x.2.1).toNat x.1<=40))/\(y.1=true->y.2.1=x.2.2.1+cnB (17-x.2.1).toNat x.1)):=by
 refine T.iter (λF (x:List AV×Int×Int×Unit)=>BB x.1/\(1<=x.2.1/\x.2.1<=17/\17-x.2.1<F)/\0<=x.2.2.1/\x.2.2.1<=40) (λF x (y:Bool×Int×Unit)=>y.1=(okB (17-x.2.1).toNat x.1&&decide (x.2.2.1+cnB (17-x.2.1).toNat x.1<=40))/\(y.1=true->y.2.1=x.2.2.1+cnB (17-x.2.1).toNat x.1)) (λF x h self hs=>?_) (λx h=>by have:=h.2.1;omega) F x h
 obtain⟨l,d,s,⟨⟩⟩:=x
 obtain⟨hx,⟨d0,d1,d2⟩,s0,s1⟩:=h
 have hA:=hx.out
 dsimp only at hA d0 d1 d2 s0 s1 ⊢
 have hl:=hA.1
 have hg:∀{k:Int},0<=k->k<(l.length:Int)->and (bnd k (aD l)) (mY (atI l k AV.any))=true:=λh0 h1=>okg (λa ha=>(hA.2 a ha).1) h0 h1
 unfold Ug
 by_cases hd:d=17
 .subst hd
  show T _ (λy:Bool×Int×Unit=>y.1=(decide (l.length=0)&&decide (s+(l.length:Int)<=40))/\(y.1=true->y.2.1=s+(l.length:Int)))
  refine T.pass (l.length:Int) (λk=>False) (λk=>(17,l,aD l,k,s,())) (by omega) (λk h0 h1 _=>?_) (λhp=>?_)
  .dsimp only
   refine T.ct (by rw[bQ,aX];exact h1) (T.grd (hg h0 h1) (T.ct rfl (T.out ⟨?_,λq=>by cases q⟩)))
   rw[dQ (by omega)];rfl
  .dsimp only
   have hz:l.length=0:=by
    rcases dW l.length with q|q
    .exact q
    .exact(hp 0 (mK _) (by omega)).elim
   refine T.cf (by rw[dh,aX];omega) (T.out ⟨?_,λ_=>by dsimp only;omega⟩)
   rw[bX hz,bX (by omega)];rfl
 obtain⟨r,hr⟩:∃r:Nat,(17-d).toNat=r+1:=⟨(17-d).toNat-1,by omega⟩
 rw[hr]
 unfold okB cnB
 rw[<- R7]
 generalize hp:(λa=>eH (bG a).1&&(jf (bG a).2.1&&okB r (bG a).2.2.1))=p
 have hk:∀a,p a=(eH (bG a).1&&(jf (bG a).2.1&&okB r (bG a).2.2.1)):=λa=>by rw[<- hp]
 generalize hf:(λa=>1+cnB r (bG a).2.2.1)=f
 have hfk:∀a,f a=1+cnB r (bG a).2.2.1:=λa=>by rw[<- hf]
 have hle:=Hz (f:=f) l
 have hz0:sm f l 0=0:=by unfold sm;simp
 have no:∀{k:Int} {z:Int},0<=k->k<(l.length:Int)->(p (atI l k AV.any)=false\/40<s+(sm f l (k+1).toNat:Int))->(((false,z,()):Bool×Int×Unit).1=(l.all p&&decide (s+((l.map f).sum:Int)<=40))/\(((false,z,()):Bool×Int×Unit).1=true->((false,z,()):Bool×Int×Unit).2.1=s+((l.map f).sum:Int))):=fun{k z} h0 h1 q=>by
  refine⟨?_,λq=>by cases q⟩
  rcases q with q|q
  .rw[wH h0 h1 q];rfl
  .have:=hle (k+1).toNat
   symm;rw[pW];right
   exact dQ (by omega)
 refine Eq.mpr (dO (λz=>T (bH _ (d,l,aD l,(0:Int),z,())) _) (show s=s+((sm f l (Int.toNat 0):Nat):Int) by show s=s+((sm f l 0:Nat):Int);omega)) (T.pass (l.length:Int) (λk=>p (atI l k AV.any)=true/\s+(sm f l (k+1).toNat:Int)<=40) (λk=>(d,l,aD l,k,s+(sm f l k.toNat:Int),())) (by omega) (λk h0 h1 hp=>?_) (λhp=>?_))
 .dsimp only
  have hm:=hA.2 _ (at_mem AV.any h0 h1)
  have hk:=hk (atI l k AV.any)
  have hz:=EG (f:=f) AV.any h0 h1
  have hfk:=hfk (atI l k AV.any)
  have hs0:s+(sm f l k.toNat:Int)<=40:=by
   by_cases hz:k=0
   .rw[hz];show s+((sm f l 0:Nat):Int)<=40;omega
   .have:=(hp (k-1) (by omega) (by omega)).2
    rwa [show k-1+1=k by omega]at this
  have ea:aN .i64 (s+(sm f l k.toNat:Int)) 1=s+(sm f l k.toNat:Int)+1:=bC (by omega) (by omega)
  rw[ea]
  refine T.ct (by rw[bQ,aX];exact h1) (T.grd (hg h0 h1) (T.cnd (λhc=>T.out (no h0 h1 ?_)) (λhc=>?_)))<;>simp only[bsX,eq_self]at hc
  .right;omega
  refine T.aU (DK _) (T.cnd (λq=>T.out (no h0 h1 (.inl ?_))) (λq=>T.aU (PL (bG (atI l k AV.any)).2.1 hm.2.1) (T.cnd (λw=>T.out (no h0 h1 (.inl ?_))) (λw=>T.call (hs (_,_,_,()) ⟨hm.2.2,⟨?_,?_,?_⟩,?_,?_⟩) (λy hy=>?_)))))
  .rw[hk,show eH (bG (atI l k AV.any)).1=false from iA.mp q];rfl
  .rw[hk,show jf (bG (atI l k AV.any)).2.1=false from iA.mp w];cases eH (bG (atI l k AV.any)).1<;>rfl
  .dsimp only;rw[bC (by omega) (by omega)];omega
  .dsimp only;rw[bC (by omega) (by omega)];omega
  .dsimp only;rw[bC (by omega) (by omega)];omega
  .dsimp only;omega
  .dsimp only;omega
  rw[show eH (bG (atI l k AV.any)).1=true from rO.mp q,show jf (bG (atI l k AV.any)).2.1=true from rO.mp w]at hk
  dsimp only at hy
  rw[bC (by omega) (by omega),show(17-(d+1)).toNat=r by omega]at hy
  obtain⟨y1,y2⟩:=hy
  cases e:y.1 with
  |false =>
   refine T.out (no h0 h1 ?_)
   rw[e]at y1
   rcases pW.mp y1.symm with w|w
   .left;exact hk.trans w
   .right
    have:=of_decide_eq_false w
    omega
  |true =>
   have y2:=y2 e
   rw[e]at y1
   obtain⟨w1,w2⟩:=dR.mp y1.symm
   have w2:=of_decide_eq_true w2
   refine T.go ⟨?_,hk.trans w1,by omega⟩ (by omega)
   rw[bC (by omega) (by omega),y2]
   congr 5
   omega
 .dsimp only
  refine T.cf (by rw[dh,aX];omega) (T.out ?_)
  have ha:l.all p=true:=tV λk h0 h1=>(hp k h0 h1).1
  have hz:sm f l (l.length:Int).toNat=(List.map f l).sum:=by rw[iF,HV]
  have hk:s+(sm f l (l.length:Int).toNat:Int)<=40:=by
   by_cases hz:(l.length:Int)=0
   .rw[hz];show s+((sm f l 0:Nat):Int)<=40;omega
   .have:=(hp ((l.length:Int)-1) (by omega) (by omega)).2
    rwa [show(l.length:Int)-1+1=l.length by omega]at this
  rw[ha,iJ]
  exact⟨(bX (by omega)).symm,λ_=>by dsimp only;omega⟩
def ig(k:Int):Int:=cond (iEq k 5) 1073741824 (cond (iEq k 6) 1073741824 (cond (iEq k 7) 1073741824 (cond (iEq k 10) 1073741824 (cond (iEq k 8) 1000000 0))))
theorem Bt(k:Int):xG k=some (ig k,()):=by
 unfold xG ig
 cases iEq k 5<;>cases iEq k 6<;>cases iEq k 7<;>cases iEq k 10<;>cases iEq k 8<;>rfl
theorem JL(k:Int):0<=ig k:=by
 unfold ig
 cases iEq k 5<;>cases iEq k 6<;>cases iEq k 7<;>cases iEq k 10<;>cases iEq k 8<;>decide
theorem a8B(k:Int):T (m64 k) (λy=>sEq y.1 (bs [])=!(iLe 1 k&&iLe k 10)):=by
 unfold m64
 by_cases h:1<=k/\k<=10
 .have:k=1\/k=2\/k=3\/k=4\/k=5\/k=6\/k=7\/k=8\/k=9\/k=10:=by omega
  rcases this with rfl|rfl|rfl|rfl|rfl|rfl|rfl|rfl|rfl|rfl<;>exact⟨_,rfl,by dsimp only;kernel_rfl⟩
 .have e:(iLe 1 k&&iLe k 10)=false:=by rw[pW,kT,kT];omega
  rw[e]
  iterate 10 refine T.cf (by rw[iT];omega) ?_
  exact⟨_,rfl,by dsimp only;kernel_rfl⟩
def Eu(k a:Int):Bool:=cond (iEq (ig k) 0) (iEq a 0) (iLe 1 a&&iLe a (ig k))
def ND(k:Int)(l:List AV):Bool:=decide (l.length=0)||(iEq k 3&&(okB 16 l&&decide (cnB 16 l<=40)))
def iH(c:DS1):Bool:=(iLe 1 c.1&&iLe c.1 10)&&(eH c.2.1&&(jf c.2.2.1&&(ND c.1 c.2.2.2.1&&Eu c.1 c.2.2.2.2.1)))
def XCl(c:DS1):Prop:=XX c.2.2.1/\BB c.2.2.2.1
theorem b41(k a:Int):(cond (cond (iEq (ig k) 0) (iEq a 0) false) (some (true,())) (some (cond (cond (iLt 0 (ig k)) (iLe 1 a) false) (iLe a (ig k)) false,())):Option (Bool×Unit))=some (Eu k a,()):=by
 have:=JL k
 unfold Eu
 generalize ig k=m at *
 rw[NP]
 congr 2
 rw[cZ]
 by_cases q:m=0
 .subst q;cases h:iEq a 0<;>simp only[bsX,eq_self]at h<;>simp[iEq,iLe,iLt,h]
 .rw[iT.mpr q]
  rw[show iLt 0 m=true by rw[bQ];omega]
  cases iLe 1 a<;>cases iLe a m<;>simp
theorem Q8(c:DS1)(h:XCl c):m56 c=some (iH c,()):=by
 obtain⟨k,nm,e,l,a,⟨⟩⟩:=c
 obtain⟨h1,d,hb⟩:=h
 dsimp only at h1 hb
 have hb:=hb.up 16
 refine T.eq ?_
 unfold m56 iH
 dsimp only
 rw[show cond (iLt k 1) true (iLt 10 k)=!(iLe 1 k&&iLe k 10) by rw[cZ,l5,bQ,bQ,iA,pW,kT,kT]]
 cases iLe 1 k&&iLe k 10
 .exact T.ret rfl
 refine T.cf rfl (T.aU (DJ _) ?_)
 cases eH nm
 .exact T.ret rfl
 refine T.cf rfl (T.aU (Yw e h1) ?_)
 cases jf e
 .exact T.ret rfl
 have am:∀b:Bool,b=true->T ((xG k).bind λy=>cond (cond (iEq y.1 0) (iEq a 0) false) (some (true,())) (some (cond (cond (iLt 0 y.1) (iLe 1 a) false) (iLe a y.1) false,()))) (λy=>y=((true&&(true&&(true&&(b&&Eu k a)))),())):=λb q=>by
  refine T.aU (Bt k) ?_
  dsimp only
  rw[b41,q];exact T.ret rfl
 refine T.cf rfl ?_
 unfold ND
 refine T.cnd (λhc=>?_) (λhc=>am _ ?_)
 .rw[bQ,aX]at hc
  rw[dQ (show ¬l.length=0 by omega),uQ,show iNe k 3=!iEq k 3 by rw[cZ,nG,iA,iT]]
  cases iEq k 3
  .exact T.ret rfl
  refine T.cf rfl (T.aU (a6o hb) ?_)
  have bk:a1T l 16=some (okB 16 l,()):=T.eq (a6I (F:=10000) (x:=(l,16,())) ⟨⟨_,hb⟩,by dsimp only;omega,by dsimp only;omega,by dsimp only;omega⟩)
  rw[bk]
  cases q:okB 16 l with
  |false=>exact T.cnd (λ_=>T.ret rfl) (λ_=>T.ret rfl)
  |true =>
   have e1:=MN q d
   rw[Nat.add_comm]at e1
   rw[e1]
   by_cases hn:cnB 16 l<=40
   .rw[bX hn]
    exact T.cf (by rw[dh];omega) (am true rfl)
   .rw[dQ hn]
    exact T.ct (by rw[bQ];omega) (T.ret rfl)
 .rw[dh,aX]at hc
  rw[bX (show l.length=0 by omega)];rfl
theorem a8D(k:Int)(l:List AV):ND k l=cond (cond (iNe k 3) (iLt 0 (aD l)) false) false (okB 16 l&&decide (cnB 16 l<=40)):=by
 unfold ND
 rw[show iNe k 3=!iEq k 3 by rw[cZ,nG,iA,iT],show iLt 0 (aD l)=!decide (l.length=0) by rw[cZ,bQ,iA,kE,aX];omega]
 by_cases h:l.length=0
 .have:l=[]:=bW.1 h
  subst this
  cases iEq k 3<;>simp[okB,cnB]
 .rw[dQ h]
  cases iEq k 3<;>rfl
theorem b42(k a:Int):cond (iLt a (jC 1 (ig k))) true (iLt (ig k) a)=!Eu k a:=by
 have:=JL k
 unfold Eu jC
 generalize ig k=m at *
 by_cases q:m=0
 .subst q
  rw[lK.mpr rfl,vG,cZ,l5,bQ,bQ,iA,iT];omega
 .rw[iT.mpr q,qO,cZ,l5,bQ,bQ,iA,pW,kT,kT];omega
theorem a2I(c:DS1)(h:XCl c):m52 c=some (iH c,()):=by
 obtain⟨k,nm,e,l,a,⟨⟩⟩:=c
 obtain⟨h1,h2⟩:=h
 dsimp only at h1 h2
 refine T.eq ?_
 unfold m52 iH
 dsimp only
 refine T.call (a8B k) (λy hy=>?_)
 rw[hy,a8D]
 cases iLe 1 k&&iLe k 10
 .exact T.ret rfl
 refine T.cf rfl (T.aU (DK _) ?_)
 cases eH nm
 .exact T.ret rfl
 refine T.cf rfl (T.aU (PL e h1) ?_)
 cases jf e
 .exact T.ret rfl
 refine T.cf rfl ?_
 cases cond (iNe k 3) (iLt 0 (aD l)) false
 .refine T.cf rfl (T.aU (show m65 k=some (ig k,()) from Bt k) ?_)
  dsimp only
  rw[b42]
  cases Eu k a
  .exact T.ret (by cases okB 16 l&&decide (cnB 16 l<=40)<;>rfl)
  refine T.cf rfl (T.call (a4u (F:=10000) (x:=(l,1,0,())) ⟨h2,by dsimp only;omega,by dsimp only;omega,by dsimp only;omega⟩) (λy hy=>T.ret ?_))
  have e1:y.1=(okB 16 l&&decide ((0:Int)+(cnB 16 l:Int)<=40)):=hy.1
  rw[e1,show decide ((0:Int)+(cnB 16 l:Int)<=40)=decide (cnB 16 l<=40) by rw[decide_eq_decide];omega]
  cases okB 16 l&&decide (cnB 16 l<=40)<;>rfl
 .exact T.ret rfl
def lM(l:List DS1):Bool:=decide (l.length<=40)&&l.all iH
theorem LG(l:List DS1)(h:∀c∈l,XCl c):m27 l=some (lM l,()):=by
 unfold m27 lM
 have hl:=aX l
 by_cases hc:l.length<=40
 .rw[dh.mpr (by omega),bX hc,iJ]
  refine T.a2S l zS1 iH (λk=>(l,k,())) (λk h0 h1=>?_) ?_
  .dsimp only
   refine T.ct (by rw[bQ];omega) (T.grd (by rw[bV];omega) (T.aU (Q8 _ (h _ (at_mem _ h0 h1))) (T.round ?_ id (λq=>⟨q,rfl⟩))))
   rw[bC (by omega) (by omega)]
  .dsimp only
   rw[dh.mpr (by omega)];rfl
 .rw[bQ.mpr (by omega),dQ hc];rfl
theorem LH(l:List DS1)(h:∀c∈l,XCl c):m25 l=some (lM l,()):=by
 unfold m25 lM
 have hl:=aX l
 by_cases hc:l.length<=40
 .rw[dh.mpr (by omega),bX hc,iJ]
  refine T.a2S l zS1 iH (λk=>(l,aD l,k,())) (λk h0 h1=>?_) ?_
  .dsimp only
   refine T.ct (by rw[bQ];omega) (T.grd (by rw[bV];omega) (T.aU (a2I (atI l k zS1) (h _ (at_mem _ h0 h1))) (T.round ?_ id (λq=>⟨q,rfl⟩))))
   rw[bC (by omega) (by omega)]
  .dsimp only
   rw[dh.mpr (by omega)];rfl
 .rw[bQ.mpr (by omega),dQ hc];rfl
def zN(p:DS2):Bool:=cond (cond (iLe 0 p.1) (iLt p.1 p.2.1) false) (iLe p.2.1 876600) false&&iLe p.2.1 876599
def oD(x:DS3):Bool:=(zN x.1&&decide (List.length (α:=ByteArray) x.2.1<=40))&&((List.all x.2.1 eH&&dst x.2.1)&&lM x.2.2.1)
def XEn(x:DS3):Prop:=List.length (α:=ByteArray) x.2.1<=9223372036854775807/\∀c∈x.2.2.1,XCl c
theorem Xh(p:DS2)(n:Nat):cond (cond (not (cond (cond (iLe 0 p.1) (iLt p.1 p.2.1) false) (iLe p.2.1 876600) false)) true (iLt 876599 p.2.1)) true (iLt 40 (n:Int))=!(zN p&&decide (n<=40)):=by
 unfold zN
 rw[show iLt 876599 p.2.1=!iLe p.2.1 876599 by rw[cZ,bQ,iA,kT],show iLt 40 (n:Int)=!decide (n<=40) by rw[cZ,bQ,iA,kE];omega]
 cases cond (cond (iLe 0 p.1) (iLt p.1 p.2.1) false) (iLe p.2.1 876600) false<;>cases iLe p.2.1 876599<;>cases decide (n<=40)<;>rfl
theorem b4K(x:DS3)(h:XEn x):m26 x=some (oD x,()):=by
 obtain⟨⟨f,t,⟨⟩⟩,l,cs,⟨⟩⟩:=x
 obtain⟨h1,h2⟩:=h
 dsimp only at h1 h2
 have hl:=aX l
 refine T.eq ?_
 unfold m26 oD
 refine T.aU (show m53 (f,t,())=some _ from rfl) ?_
 dsimp only
 rw[hl,Xh (f,t,PUnit.unit) l.length]
 cases hc:zN (f,t,PUnit.unit)&&decide (l.length<=40)
 .exact T.ret rfl
 have hc:=of_decide_eq_true (dR.mp hc).2
 refine T.cf rfl ?_
 rw[iJ]
 refine T.pass (l.length:Int) (λk=>eH (atI l k ByteArray.empty)=true/\∀j,0<=j->j<k->¬atI l k ByteArray.empty=atI l j ByteArray.empty) (λk=>(l,(l.length:Int),k,f,t,l,cs,())) (by omega) (λk h0 h1 _=>?_) (λhp=>?_)
 .dsimp only
  have hc:(qM 0 k l).length<=9223372036854775807:=by rw[show qM 0 k l=l.take k.toNat from rfl,jE];omega
  refine T.ct (by rw[bQ];omega) (T.grd (by rw[bV];omega) (T.aU (DK _) ?_))
  refine T.grd (by rw[lq,vF];left;omega) (T.cnd (λq=>T.out ?_) (λq=>T.aU (J4 _ _ hc) ?_))
  .rw[Rk h0 h1 (iA.mp q)];rfl
  refine T.cnd (λr=>T.out ?_) (λr=>T.go ⟨?_,rO.mp q,(K7 h0 (by omega)).mp r⟩ (by omega))
  .rw[Rl h0 h1 r];rfl
  .rw[bC (by omega) (by omega)]
 .dsimp only
  refine T.cf (by rw[dh];omega) (T.iD (T.aU (LH cs h2) (T.ret ?_)))
  rw[K9 hp];rfl
def kL(w:DS4):Bool:=decide (List.length (α:=DS3) w.2.1<=12)&&(lM w.1&&List.all w.2.1 oD)
def XW(w:DS4):Prop:=(∀c∈w.1,XCl c)/\∀x∈w.2.1,XEn x
theorem KI(w:DS4)(h:XW w):m16 w=some (kL w,()):=by
 obtain⟨cs,l,⟨⟩⟩:=w
 obtain⟨h1,h2⟩:=h
 dsimp only at h1 h2
 have hl:=aX l
 refine T.eq ?_
 unfold m16 kL
 dsimp only
 refine T.cnd (λhc=>T.ret ?_) (λhc=>?_)<;>simp only[bsX,eq_self]at hc
 .rw[dQ (by omega)];rfl
 rw[bX (by omega),iJ]
 refine T.aU (LG cs h1) ?_
 cases lM cs
 .exact T.ret rfl
 refine T.cf rfl ?_
 rw[iJ]
 refine T.pass (l.length:Int) (λk=>oD (atI l k zS3)=true) (λk=>(k,cs,l,())) (by omega) (λk h0 h1 _=>?_) (λhp=>?_)
 .dsimp only
  have hx:=h2 _ (at_mem zS3 h0 h1)
  have no:oD (atI l k zS3)=false->((false,()):Bool×Unit)=(List.all l oD,()):=λq=>by rw[wH h0 h1 q]
  have he:oD (atI l k zS3)=((zN (atI l k zS3).1&&decide (List.length (α:=ByteArray) (atI l k zS3).2.1<=40))&&((List.all (atI l k zS3).2.1 eH&&dst (atI l k zS3).2.1)&&lM (atI l k zS3).2.2.1)):=rfl
  generalize atI l k zS3=x at hx no he ⊢
  obtain⟨⟨f,t,⟨⟩⟩,rm,cl,⟨⟩⟩:=x
  obtain⟨r1,r2⟩:=hx
  dsimp only at r1 r2 he ⊢
  refine T.ct (by rw[bQ];omega) (T.grd (by rw[bV];omega) (T.aU (show m28 (f,t,())=some _ from rfl) ?_))
  dsimp only
  rw[aX rm,Xh (f,t,PUnit.unit) rm.length]
  cases q1:zN (f,t,PUnit.unit)&&decide (rm.length<=40)
  .rw[q1]at he;exact T.out (no he)
  rw[q1]at he
  refine T.cf rfl (T.aU (JK rm r1) ?_)
  cases q2:List.all rm eH
  .rw[q2]at he;exact T.out (no he)
  rw[q2]at he
  refine T.cf rfl (T.aU (CQ rm r1) ?_)
  cases q3:dst rm
  .rw[q3]at he;exact T.out (no he)
  rw[q3]at he
  refine T.cf rfl (T.aU (LG cl r2) (T.round ?_ (λq=>he.trans q) (λq=>no (he.trans q))))
  rw[bC (by omega) (by omega)]
 .dsimp only
  exact T.cf (by rw[dh];omega) (T.out (by rw[tV hp]))
theorem Wd(w:DS4)(h:XW w):m15 w=some (kL w,()):=by
 obtain⟨cs,l,⟨⟩⟩:=w
 obtain⟨h1,h2⟩:=h
 dsimp only at h1 h2
 have hl:=aX l
 refine T.eq ?_
 unfold m15 kL
 dsimp only
 refine T.cnd (λhc=>T.ret ?_) (λhc=>?_)<;>simp only[bsX,eq_self]at hc
 .rw[dQ (by omega)];rfl
 rw[bX (by omega),iJ]
 refine T.aU (LH cs h1) ?_
 cases lM cs
 .exact T.ret rfl
 refine T.cf rfl ?_
 rw[iJ]
 refine T.pass (l.length:Int) (λk=>oD (atI l k zS3)=true) (λk=>(l,aD l,k,())) (by omega) (λk h0 h1 _=>?_) (λhp=>?_)
 .dsimp only
  refine T.ct (by rw[bQ];omega) (T.grd (by rw[bV];omega) (T.aU (b4K (atI l k zS3) (h2 _ (at_mem _ h0 h1))) (T.round ?_ id (λq=>?_))))
  .rw[bC (by omega) (by omega)]
  .rw[wH h0 h1 q]
 .dsimp only
  exact T.cf (by rw[dh];omega) (T.out (by rw[tV hp]))
theorem b0H(s:ByteArray):T (m57 s) (λ_=>True):=T.of (DJ s) trivial
theorem a5K(l:List ByteArray)(h:Bd l.length):T (m29 l) (λ_=>True):=T.of (JK l (by omega)) trivial
theorem Vo(l:List ByteArray)(h:Bd l.length):T (m30 l) (λ_=>True):=T.of (CQ l (by omega)) trivial
theorem b1W(a:DS5)(h:Bd (List.length (α:=ByteArray) a.2.2.1)):T (Ut a) (λy=>True):=by
 unfold Ut
 repeat' (first|(refine T.aU (show yS _=some _ from rfl) ?_)|(refine T.call (a5K _ (by assumption)) (λ_ _=>?_))|(refine T.call (Vo _ (by assumption)) (λ_ _=>?_))|(refine T.grd ?_ ?_)|(refine T.cnd (λhc=>?_) (λhc=>?_)<;>try simp only[bsX,eq_self]at hc)|(refine T.ret ?_))
 all_goals(try dsimp only[LQ,JQ])
 all_goals(repeat' (with_reducible refine And.intro ?_ ?_))<;>first|trivial|assumption|omega|(first|(simp(disch:=omega) only[bsX,eq_self,arX];omega)|(simp(disch:=omega) only[bsX,eq_self,arX];done))
theorem a0T(a:DS6)(h:Bd (List.length a.1))(h2:∀x∈a.1,Bd (List.length (α:=ByteArray) x.2.2.1)):T (Uz a) (λy=>True):=by
 unfold Uz
 repeat' (first|(refine T.call (b0H _) (λ_ _=>?_))|(refine T.call (b1W _ k3) (λ_ _=>?_))|(refine T.loop (λq=>q.1=s.1/\0<=q.2.1/\List.length q.2.2.1=List.length s.2.1/\Bd (List.length (α:=ByteArray) q.2.2.2.2.2.1)/\∀x∈q.2.2.1,Bd (List.length (α:=ByteArray) x.2.2.1)) (λq=>(s.1-q.2.1).toNat) ?_ (λq ⟨k0,k1,k2,k3,k4⟩=>?_))|(refine T.loop (λs=>0<=s.1/\Bd (List.length s.2.1)/\∀x∈s.2.1,Bd (List.length (α:=ByteArray) x.2.2.1)) (λs=>((List.length s.2.1:Int)-s.1).toNat) ?_ (λs ⟨j0,j1,j2⟩=>?_))|(refine T.grd ?_ ?_)|(refine T.cnd (λhc=>?_) (λhc=>?_)<;>try simp only[bsX,eq_self]at hc)|(refine T.iD ?_)|(refine T.go ?_ ?_)|(refine T.out ?_)|(refine T.ret ?_))
 all_goals(try dsimp only[LQ,JQ])
 all_goals(repeat' (with_reducible refine And.intro ?_ ?_))<;>first|trivial|assumption|omega|(first|(simp(disch:=omega) only[bsX,eq_self,arX];omega)|(simp(disch:=omega) only[bsX,eq_self,arX];done))|exact j2 _ (at_mem _ (by omega) (by omega))
def WE:Nat->DS0->Prop
 |0,_=>False
 |k+1,e=>Bd (List.length (α:=ByteArray) e.2.2.1)/\List.length (α:=AV) e.2.2.2.2.2.1<=3/\∀a∈e.2.2.2.2.2.1,qj a=true/\WE k (aV a)
def WA(k:Nat)(l:List AV):Prop:=∀a∈l,qj a=true/\WE k (aV a)
def WB:Nat->List AV->Prop
 |0,_=>False
 |k+1,l=>Bd l.length/\∀a∈l,mY a=true/\WE 10 (bG a).2.1/\WB k (bG a).2.2.1
def WBA(k:Nat)(l:List AV):Prop:=∀a∈l,mY a=true/\WE 10 (bG a).2.1/\WB k (bG a).2.2.1
theorem WE.up:∀{k:Nat} {e:DS0},WE k e->∀d,WE (k+d) e
 |0,_,h,_=>h.elim
 |k+1,e,h,d=>by
  rw[show k+1+d=(k+d)+1 by omega]
  exact⟨h.1,h.2.1,λa ha=>⟨(h.2.2 a ha).1,(h.2.2 a ha).2.up d⟩⟩
theorem WB.up:∀{k:Nat} {l:List AV},WB k l->∀d,WB (k+d) l
 |0,_,h,_=>h.elim
 |k+1,l,h,d=>by
  rw[show k+1+d=(k+d)+1 by omega]
  exact⟨h.1,λa ha=>⟨(h.2 a ha).1,(h.2 a ha).2.1,(h.2 a ha).2.2.up d⟩⟩
theorem WE.to{k:Nat}{e:DS0}(h:WE k e){m:Nat}(hm:k<=m):WE m e:=by have:=h.up (m-k);rwa [show k+(m-k)=m by omega]at this
theorem WB.to{k:Nat}{l:List AV}(h:WB k l){m:Nat}(hm:k<=m):WB m l:=by have:=h.up (m-k);rwa [show k+(m-k)=m by omega]at this
def WC(c:DS1):Prop:=WE 10 c.2.2.1/\WB 10 c.2.2.2.1
theorem b0K(k:Int):T (xG k) (λy=>0<=y.1/\y.1<=1073741824):=by
 unfold xG
 repeat' (first|(refine T.grd ?_ ?_)|(refine T.cnd (λhc=>?_) (λhc=>?_)<;>try simp only[bsX,eq_self]at hc)|(refine T.ret ?_))
 all_goals(try dsimp only[LQ,JQ])
 all_goals(repeat' (with_reducible refine And.intro ?_ ?_))<;>first|trivial|assumption|omega|(first|(simp(disch:=omega) only[bsX,eq_self,arX];omega)|(simp(disch:=omega) only[bsX,eq_self,arX];done))
theorem WE.x:∀{k:Nat} {e:DS0},WE k e->XE k e/\dpE k e=true
 |0,_,h=>h.elim
 |k+1,e,h=>⟨⟨by have:=h.1;omega,by have:=h.2.1;omega,λa ha=>⟨(h.2.2 a ha).1,(h.2.2 a ha).2.x.1⟩⟩,aG.2 λa ha=>(h.2.2 a ha).2.x.2⟩
theorem WB.x:∀{k:Nat} {l:List AV},WB k l->XB k l
 |0,_,h=>h.elim
 |k+1,l,h=>⟨by have:=h.1;omega,λa ha=>⟨(h.2 a ha).1,⟨_,(h.2 a ha).2.1.x.1⟩,(h.2 a ha).2.2.x⟩⟩
theorem WC.x{c:DS1}(h:WC c):XCl c:=⟨⟨_,h.1.x.1⟩,_,h.2.x⟩
theorem a2J(a:DS1)(h:WC a):T (m56 a) (λy=>y=(iH a,())):=T.of (Q8 a h.x) rfl
theorem Vq(l:List DS1)(s:ByteArray)(h:Bd l.length):T (JV l s) (λy=>y.2.1=true->0<=y.1/\y.1<(List.length l:Int)):=by
 unfold JV
 repeat' (first|(refine T.loop (λs=>0<=s.2.2.1/\s.1=l) (λs=>((List.length l:Int)-s.2.2.1).toNat) ?_ (λs ⟨j0,j1⟩=>?_))|(refine T.grd ?_ ?_)|(refine T.cnd (λhc=>?_) (λhc=>?_)<;>try simp only[bsX,eq_self]at hc)|(refine T.go ?_ ?_)|(refine T.out ?_)|(refine T.ret ?_))
 all_goals(try dsimp only[LQ,JQ])
 all_goals(repeat' (with_reducible refine And.intro ?_ ?_))<;>first|trivial|assumption|omega|(first|(simp(disch:=omega) only[bsX,eq_self,arX];omega)|(simp(disch:=omega) only[bsX,eq_self,arX];done))|(intro _;first|omega|(refine⟨by omega,?_⟩;rw[j1]at *;omega))|(rw[j1]at *;simp(disch:=omega) only[bsX,eq_self,arX];omega)|(intro q;cases q)
theorem Rf(l:DS6)(s:ByteArray)(h:Bd (List.length l.1)):T (OP l s) (λy=>y.2.1=true->0<=y.1/\y.1<(List.length l.1:Int)):=by
 unfold OP
 repeat' (first|(refine T.loop (λs=>0<=s.2.1/\s.2.2.1=l.1) (λs=>((List.length l.1:Int)-s.2.1).toNat) ?_ (λs ⟨j0,j1⟩=>?_))|(refine T.grd ?_ ?_)|(refine T.cnd (λhc=>?_) (λhc=>?_)<;>try simp only[bsX,eq_self]at hc)|(refine T.go ?_ ?_)|(refine T.out ?_)|(refine T.ret ?_))
 all_goals(try dsimp only[LQ,JQ])
 all_goals(repeat' (with_reducible refine And.intro ?_ ?_))<;>first|trivial|assumption|omega|(first|(simp(disch:=omega) only[bsX,eq_self,arX];omega)|(simp(disch:=omega) only[bsX,eq_self,arX];done))|(intro _;first|omega|(refine⟨by omega,?_⟩;rw[j1]at *;omega))|(rw[j1]at *;simp(disch:=omega) only[bsX,eq_self,arX];omega)|(intro q;cases q)
theorem KJ(l:List ByteArray)(s:ByteArray)(h:Bd l.length):T (OJ l s) (λy=>True):=by
 unfold OJ
 repeat' (first|(refine T.loop (λs=>0<=s.2.2.1/\Bd (List.length s.1)) (λs=>((List.length s.1:Int)-s.2.2.1).toNat) ?_ (λs ⟨k0,k1⟩=>?_))|(refine T.grd ?_ ?_)|(refine T.cnd (λhc=>?_) (λhc=>?_)<;>try simp only[bsX,eq_self]at hc)|(refine T.go ?_ ?_)|(refine T.out ?_)|(refine T.ret ?_))
 all_goals(try dsimp only[LQ,JQ])
 all_goals(repeat' (with_reducible refine And.intro ?_ ?_))<;>first|trivial|assumption|omega|(first|(simp(disch:=omega) only[bsX,eq_self,arX];omega)|(simp(disch:=omega) only[bsX,eq_self,arX];done))
theorem IL(l:List DS1)(s:ByteArray)(h:Bd l.length):T (m9 l s) (λy=>(y.2.1=true->0<=y.1/\y.1<(List.length l:Int))/\∀j,0<=j->j<y.1->¬(atI l j zS1).2.1=s):=by
 unfold m9
 have hl:=aX l
 refine T.pass (l.length:Int) (λk=>¬(atI l k zS1).2.1=s) (λk=>(l,s,k,())) (by omega) (λk h0 h1 hp=>?_) (λhp=>?_)
 .dsimp only
  refine T.ct (by rw[bQ];omega) (T.grd (by rw[bV];omega) (T.cnd (λq=>T.out ⟨λ_=>⟨h0,h1⟩,hp⟩) (λq=>T.go ⟨?_,I5.mp q⟩ (by omega))))
  rw[bC (by omega) (by omega)]
 .dsimp only
  exact T.cf (by rw[dh];omega) (T.out ⟨λq=>Bool.noConfusion q,λj j0 j1=>by dsimp only at j1;omega⟩)
def SB(a:DS6):Prop:=Bd (List.length a.1)/\∀x∈a.1,Bd (List.length (α:=ByteArray) x.2.2.1)
def CB(l:List DS1):Prop:=l.length<=500/\∀c∈l,WC c
theorem a5I(s:DS6)(l:List DS1)(a:DS0)(h:SB s)(h2:Bd (List.length (α:=ByteArray) a.2.2.1))(h3:Bd l.length):T (Us s l a) (λy=>True):=by
 unfold Us
 refine T.call (Rf (s.1,()) _ h.1) (λu q=>?_)
 dsimp only at q
 have hb:u.2.1=true->bnd u.1 (aD s.1)=true:=λe=>by have:=q e;rw[bV,aX];omega
 have hm:u.2.1=true->Bd (List.length (α:=ByteArray) (atI s.1 u.1 zS5).2.2.1):=λe=>h.2 _ (at_mem _ (q e).1 (q e).2)
 repeat' (first|(refine T.call (Vq _ _ h3) (λ_ _=>?_))|(refine T.call (KJ _ _ (by assumption)) (λ_ _=>?_))|(refine T.loop (λs=>0<=s.1/\Bd (List.length (α:=ByteArray) s.2.2.2.1)/\Bd (List.length (α:=ByteArray) s.2.2.2.2.2.2.2.2.2.1)) (λs=>((List.length (α:=ByteArray) s.2.2.2.1:Int)-s.1).toNat) ?_ (λs ⟨j0,j1,j2⟩=>?_))|(refine T.grd ?_ ?_)|(refine T.cnd (λhc=>?_) (λhc=>?_)<;>try simp only[bsX,eq_self]at hc)|(refine T.iD ?_)|(refine T.go ?_ ?_)|(refine T.out ?_)|(refine T.jgo ?_)|(refine T.pz ?_)|(refine T.sO ?_)|(refine T.ret ?_))
 all_goals(try dsimp only[LQ,JQ])
 all_goals(repeat' (with_reducible refine And.intro ?_ ?_))<;>first|trivial|assumption|omega|(first|(simp(disch:=omega) only[bsX,eq_self,arX];omega)|(simp(disch:=omega) only[bsX,eq_self,arX];done))|exact hb (by assumption)|exact hm (by assumption)|(cases hu:u.2.1<;>simp[hb,hu,bEq])
theorem Oz{n:Nat}{x:DS6×List DS1×DS0×Unit}(h:WE n x.2.2.1/\SB x.1/\Bd (List.length x.2.1)):T (eT (λself (x:DS6×List DS1×DS0×Unit)=>Mv self x.1 x.2.1 x.2.2.1) n x) (λy:Int×Unit=>True):=by
 refine T.iter (λn (x:DS6×List DS1×DS0×Unit)=>WE n x.2.2.1/\SB x.1/\Bd (List.length x.2.1)) (λ_ _ (y:Int×Unit)=>True) (λn x h self hs=>?_) (λx h=>h.1.elim) n x h
 unfold Mv
 obtain⟨⟨e1,e2,e3⟩,h4,h5⟩:=h
 have e3:WA n _:=e3
 repeat' (first|(refine T.call (a5I _ _ _ h4 e1 h5) (λ_ _=>?_))|(refine T.call (hs _ ⟨(j2 _ (at_mem _ (by omega) (by omega))).2,j3,j4⟩) (λ_ _=>?_))|(refine T.loop (λs=>0<=s.2.1/\Bd (List.length s.2.2.2.2.2.2.2.2.1)/\WA n s.2.2.2.2.2.2.2.2.1/\SB (s.2.2.1,())/\Bd (List.length s.1)) (λs=>((List.length s.2.2.2.2.2.2.2.2.1:Int)-s.2.1).toNat) ?_ (λs ⟨j0,j1,j2,j3,j4⟩=>?_))|(refine T.grd ?_ ?_)|(refine T.cnd (λhc=>?_) (λhc=>?_)<;>try simp only[bsX,eq_self]at hc)|(refine T.go ?_ ?_)|(refine T.out ?_)|(refine T.ret ?_))
 all_goals(try dsimp only[LQ,JQ])
 all_goals(repeat' (with_reducible refine And.intro ?_ ?_))<;>first|trivial|assumption|omega|(first|(simp(disch:=omega) only[bsX,eq_self,arX];omega)|(simp(disch:=omega) only[bsX,eq_self,arX];done))|exact dR.mpr ⟨by rw[bV,aX];omega,(j2 _ (at_mem _ (by omega) (by omega))).1⟩
theorem a2O{n:Nat}{x:DS6×List DS1×List AV×Unit}(h:WB n x.2.2.1/\SB x.1/\Bd (List.length x.2.1)):T (eT (λself (x:DS6×List DS1×List AV×Unit)=>Mt self x.1 x.2.1 x.2.2.1) n x) (λy:Int×Unit=>True):=by
 refine T.iter (λn (x:DS6×List DS1×List AV×Unit)=>WB n x.2.2.1/\SB x.1/\Bd (List.length x.2.1)) (λ_ _ (y:Int×Unit)=>True) (λn x h self hs=>?_) (λx h=>h.1.elim) n x h
 unfold Mt
 obtain⟨⟨e1,e3⟩,h4,h5⟩:=h
 have e3:WBA n _:=e3
 repeat' (first|(refine T.call (Oz (x:=(_,_,_,())) ⟨(j2 _ (at_mem _ (by omega) (by omega))).2.1.to (by omega),j3,j4⟩) (λ_ _=>?_))|(refine T.call (hs _ ⟨(j2 _ (at_mem _ (by omega) (by omega))).2.2,j3,j4⟩) (λ_ _=>?_))|(refine T.loop (λs=>0<=s.2.2.1/\Bd (List.length s.2.1)/\WBA n s.2.1/\SB (s.2.2.2.1,())/\Bd (List.length s.1)) (λs=>((List.length s.2.1:Int)-s.2.2.1).toNat) ?_ (λs ⟨j0,j1,j2,j3,j4⟩=>?_))|(refine T.grd ?_ ?_)|(refine T.cnd (λhc=>?_) (λhc=>?_)<;>try simp only[bsX,eq_self]at hc)|(refine T.go ?_ ?_)|(refine T.out ?_)|(refine T.ret ?_))
 all_goals(try dsimp only[LQ,JQ])
 all_goals(repeat' (with_reducible refine And.intro ?_ ?_))<;>first|trivial|assumption|omega|(first|(simp(disch:=omega) only[bsX,eq_self,arX];omega)|(simp(disch:=omega) only[bsX,eq_self,arX];done))|exact dR.mpr ⟨by rw[bV,aX];omega,(j2 _ (at_mem _ (by omega) (by omega))).1⟩
theorem b2I(l:List ByteArray)(s:ByteArray)(h:l.length<=1000000000):T (Um l s) (λy=>List.length (α:=ByteArray) y.1<=l.length+1):=by
 unfold Um
 refine T.loop (λs=>0<=s.2.2.2.1/\s.1.length=l.length/\(s.2.2.2.2.1.length:Int)<=s.2.2.2.1+1/\s.2.2.2.1<=(l.length:Int)/\(s.2.2.1=false->(s.2.2.2.2.1.length:Int)<=s.2.2.2.1)) (λs=>((l.length:Int)-s.2.2.2.1).toNat) ⟨by simp,rfl,by simp,by simp,by simp⟩ (λs ⟨j0,j1,j2,j5,j3⟩=>?_)
 cases hb:s.2.2.1
 .have j4:=j3 hb
  simp only[Bool.not_false,vG]
  repeat' (first|(refine T.grd ?_ ?_)|(refine T.cnd (λhc=>?_) (λhc=>?_)<;>try simp only[bsX,eq_self]at hc)|(refine T.iD ?_)|(refine T.go ?_ ?_)|(refine T.out ?_)|(refine T.jgo ?_)|(refine T.pz ?_)|(refine T.sO ?_)|(refine T.ret ?_))
  all_goals(try dsimp only[LQ,JQ])
  all_goals(repeat' (with_reducible refine And.intro ?_ ?_))<;>first|trivial|assumption|omega|(first|(simp(disch:=omega) only[bsX,eq_self,arX];omega)|(simp(disch:=omega) only[bsX,eq_self,arX];done))|exact λq=>Bool.noConfusion q|(intro _;(first|(simp(disch:=omega) only[bsX,eq_self,arX];omega)|(simp(disch:=omega) only[bsX,eq_self,arX];done)))
 .clear j3
  simp only[oH,qO]
  repeat' (first|(refine T.grd ?_ ?_)|(refine T.cnd (λhc=>?_) (λhc=>?_)<;>try simp only[bsX,eq_self]at hc)|(refine T.iD ?_)|(refine T.go ?_ ?_)|(refine T.out ?_)|(refine T.jgo ?_)|(refine T.pz ?_)|(refine T.sO ?_)|(refine T.ret ?_))
  all_goals(try dsimp only[LQ,JQ])
  all_goals(repeat' (with_reducible refine And.intro ?_ ?_))<;>first|trivial|assumption|omega|(first|(simp(disch:=omega) only[bsX,eq_self,arX];omega)|(simp(disch:=omega) only[bsX,eq_self,arX];done))|exact λq=>Bool.noConfusion q|(intro q;rw[hb]at q;cases q)
def pw:Nat->Nat
 |0=>1
 |n+1=>4*pw n
theorem Xe:∀n,1<=pw n
 |0=>bq _
 |n+1=>by have:=Xe n;simp only[pw];omega
theorem a9f:pw 10=1048576:=by simp[pw]
theorem a2i:∀(k n:Nat) (x:List ByteArray×DS0×Unit),k<=n->WE k x.2.1->x.1.length+pw k<=1000000000->T (eT (λself (x:List ByteArray×DS0×Unit)=>ES self x.1 x.2.1) n x) (λy:List ByteArray×Unit=>y.1.length<=x.1.length+pw k):=by
 intro k
 induction k with
 |zero=>intro n x _ h;exact h.elim
 |succ n ih =>
 intro m x hn h h4
 obtain⟨m,rfl⟩:∃m',m=m'+1:=⟨m-1,by omega⟩
 have hs:=λy=>ih m y (by omega)
 show T (ES (eT _ m) x.1 x.2.1) _
 generalize eT (λself (x:List ByteArray×DS0×Unit)=>ES self x.1 x.2.1) m=self at hs ⊢
 clear ih hn
 unfold ES
 obtain⟨e1,e2,e3⟩:=h
 have e3:WA n _:=e3
 have hG:=Xe n
 simp only[pw]at h4 ⊢
 have hmul:∀i:Int,0<=i->(i+1).toNat*pw n=i.toNat*pw n+pw n:=λi hi=>by rw[show(i+1).toNat=i.toNat+1 by omega,Nat.succ_mul]
 have hle:∀(i:Int) (m:Nat),i<=m->i.toNat*pw n<=m*pw n:=λi m hi=>dH _ (by omega)
 repeat' (first|(refine T.call (b2I _ _ (by omega)) (λv q=>?_))|(refine T.call (hs (_,_,()) (j4 _ (at_mem _ (by omega) (by omega))).2 (by have:=hle s.2.1 2 (by omega);dsimp only;omega)) (λu q=>?_))|(refine T.loop (λs=>0<=s.2.1/\List.length s.2.2.2.2.2.2.2.1<=3/\s.2.1<=(List.length s.2.2.2.2.2.2.2.1:Int)/\WA n s.2.2.2.2.2.2.2.1/\s.1.length<=x.1.length+1+s.2.1.toNat*pw n) (λs=>(3-s.2.1).toNat) ?_ (λs ⟨j1,j2,j3,j4,j5⟩=>?_))|(refine T.grd ?_ ?_)|(refine T.cnd (λhc=>?_) (λhc=>?_)<;>try simp only[bsX,eq_self]at hc)|(refine T.iD ?_)|(refine T.go ?_ ?_)|(refine T.out ?_)|(refine T.jgo ?_)|(refine T.pz ?_)|(refine T.sO ?_)|(refine T.ret ?_))
 all_goals(try dsimp only[LQ,JQ])
 all_goals(repeat' (with_reducible refine And.intro ?_ ?_))<;>first|trivial|assumption|omega|(first|(simp(disch:=omega) only[bsX,eq_self,arX];omega)|(simp(disch:=omega) only[bsX,eq_self,arX];done))|exact dR.mpr ⟨by rw[bV,aX];omega,(j4 _ (at_mem _ (by omega) (by omega))).1⟩|(rw[bC (by omega) (by omega),hmul _ (by omega)];dsimp only at q;omega)|(have:=hle s.2.1 3 (by omega);omega)|(simp;omega)
theorem b1A(l:List ByteArray)(e:DS0)(h:WE 10 e)(h2:l.length+pw 10<=1000000000):T (a1M l e) (λy:List ByteArray×Unit=>y.1.length<=l.length+pw 10):=a2i 10 10000 (l,e,()) (by omega) h h2
theorem VJ(e:DS0)(h:WE 10 e):T (Ur e) (λy=>y.1.length<=1048576):=by
 unfold Ur
 refine T.call (b1A [] _ h (by rw[a9f];simp)) (λu q=>T.ret ?_)
 rw[a9f]at q
 simpa using q
def nF:List Bool->Nat
 |[]=>0
 |b::l=>cond b 0 1+nF l
theorem b0I(n:Nat):nF (List.replicate n false)=n:=by
 induction n with
 |zero=>rfl
 |succ n ih=>rw[List.replicate_succ];simp only[nF,ih,qO];omega
theorem XQ:∀(l:List Bool) (i:Nat),i<l.length->l.getD i false=false->nF (l.set i true)+1=nF l
 |[],i,h,_=>by simp at h
 |b::l,0,_,h2=>by
  have:b=false:=by simpa using h2
  subst this
  simp only[List.set_cons_zero,nF,vG,qO];omega
 |b::l,i+1,h,h2=>by
  have:=XQ l i (by simpa using h) (by simpa using h2)
  simp only[List.set_cons_succ,nF];omega
theorem a5n(l:List DS1)(h:CB l):T (Uy l) (λ_=>True):=by
 unfold Uy
 have hl:=h.1
 refine T.grd (by rw[Rn,aX];omega) ?_
 refine T.loop (λs=>l=s.1/\s.2.2.1.length=l.length/\s.2.1.length+nF s.2.2.1<=l.length) (λs=>nF s.2.2.1) ⟨rfl,by simp[aD],by simp[aD,b0I]⟩ ?_
 rintro⟨_,s2,s3,⟨⟩⟩ ⟨rfl,e2,e3⟩
 dsimp only at e2 e3 ⊢
 refine T.loop (λq=>l=q.1/\s2=q.2.2.2.2.1/\s3=q.2.2.2.2.2.1/\0<=q.2.2.2.1/\(q.2.1=-1\/0<=q.2.1/\q.2.1<(l.length:Int)/\List.getD s3 q.2.1.toNat false=false)) (λq=>((l.length:Int)-q.2.2.2.1).toNat) ⟨rfl,rfl,rfl,by simp,.inl rfl⟩ ?_
 rintro⟨_,q2,q3,q4,_,_,⟨⟩⟩ ⟨rfl,rfl,rfl,q0,qn⟩
 dsimp only at q0 qn ⊢
 refine T.cnd (λhc=>?_) (λhc=>?_)<;>simp only[bsX,eq_self]at hc
 .refine T.grd (by rw[bV,aX];omega) (T.grd (lq.mpr (.inl (by rw[bV,aX];omega))) (T.grd (lq.mpr (.inl (by rw[tO];omega))) (T.cnd (λhd=>?_) (λhd=>?_))))<;>simp only[bsX,eq_self]at hd
  .refine T.go ⟨rfl,rfl,rfl,?_,qn⟩ ?_<;>dsimp only<;>(rw[bC (by omega) (by omega)];omega)
  refine T.grd (by rw[bV,aX];omega) ?_
  refine T.call (VJ _ (h.2 _ (at_mem _ q0 (by omega))).1) (λu hu=>?_)
  refine T.loop (λr=>l=r.1/\q2=r.2.1/\q4=r.2.2.2.1/\u.1=r.2.2.2.2.2.1/\0<=r.2.2.2.2.2.2.1/\s2=r.2.2.2.2.2.2.2.1/\s3=r.2.2.2.2.2.2.2.2.1) (λr=>((List.length (α:=ByteArray) u.1:Int)-r.2.2.2.2.2.2.1).toNat) ⟨rfl,rfl,rfl,rfl,by simp,rfl,rfl⟩ ?_
  rintro⟨_,_,r3,_,r5,_,r7,_,_,⟨⟩⟩ ⟨rfl,rfl,rfl,rfl,r0,rfl,rfl⟩
  dsimp only at r0 ⊢
  refine T.cnd (λhr=>?_) (λhr=>?_)<;>simp only[bsX,eq_self]at hr
  .refine T.grd (by rw[bV,aX];omega) (T.call (Vq _ _ (by show l.length<=_;omega)) (λv w=>?_))
   have hg:v.2.1=true->bnd v.1 (aD s3)=true/\inB v.1.toNat s3=true:=λe=>by have:=w e;rw[bV,aX,tO];omega
   refine T.cnd (λ_=>T.grd ?_ (T.grd ?_ (T.go ⟨rfl,rfl,rfl,rfl,?_,rfl,rfl⟩ ?_))) (λ_=>T.go ⟨rfl,rfl,rfl,rfl,?_,rfl,rfl⟩ ?_)
   .cases hv:v.2.1 with
    |true=>rw[(hg hv).1];rfl
    |false=>exact lq.mpr (.inr rfl)
   .cases hv:v.2.1 with
    |true=>rw[(hg hv).2];rfl
    |false=>exact lq.mpr (.inr rfl)
   all_goals dsimp only
   all_goals rw[bC (by omega) (by omega)]
   all_goals omega
  .refine T.map (T.cnd (λ_=>T.ret ⟨⟨rfl,rfl,rfl,?_,.inr ⟨q0,by dsimp only;omega,hd.2⟩⟩,?_⟩) (λ_=>T.ret ⟨⟨rfl,rfl,rfl,?_,qn⟩,?_⟩))
   all_goals dsimp only
   all_goals rw[bC (by omega) (by omega)]
   all_goals omega
 .refine T.map (T.cnd (λhd=>T.cnd (λ_=>T.ret trivial) (λ_=>T.ret trivial)) (λhd=>?_))
  simp only[bsX,eq_self]at hd
  rcases qn with qn|⟨n0,n1,n2⟩
  .omega
  have hs:=XQ s3 q2.toNat (by omega) n2
  refine T.grd (by rw[jh];simp;omega) (T.grd (by rw[bV,aX];omega) (T.grd (by rw[tO];omega) (T.ret ⟨⟨rfl,by simp[e2],by simp;omega⟩,by dsimp only;omega⟩)))
theorem Vm{n:Nat}{x:List DS1×DS0×Int×Unit}(h:CB x.1/\0<=x.2.2.1/\∃k,WE k x.2.1/\k<=10/\k+11*((List.length x.1:Int)+1-x.2.2.1).toNat<=n):T (eT (λself (x:List DS1×DS0×Int×Unit)=>Mi self x.1 x.2.1 x.2.2.1) n x) (λy:Int×Unit=>0<=y.1/\y.1<=2001):=by
 refine T.iter (λn (x:List DS1×DS0×Int×Unit)=>CB x.1/\0<=x.2.2.1/\∃k,WE k x.2.1/\k<=10/\k+11*((List.length x.1:Int)+1-x.2.2.1).toNat<=n) (λ_ _ (y:Int×Unit)=>0<=y.1/\y.1<=2001) (λn x h self hs=>?_) (λx ⟨_,_,k,hk,_,hn⟩=>by cases k with|zero=>exact hk.elim|succ k=>omega) n x h
 unfold Mi
 obtain⟨hcb,h0,k,hk,hk2,hk3⟩:=h
 obtain⟨j,rfl⟩:∃j,k=j+1:=by
  cases k with
  |zero=>exact hk.elim
  |succ j=>exact⟨j,rfl⟩
 obtain⟨e1,e2,e3⟩:=hk
 have e3:WA j _:=e3
 have hb:Bd (List.length x.1):=by have:=hcb.1;omega
 repeat' (first|(refine T.call (Vq _ _ hb) (λv w=>?_))|(refine T.call (hs (_,_,_,()) ⟨hcb,(by simp(disch:=omega) only[bC];omega),10,(hcb.2 _ (at_mem _ (w (by assumption)).1 (w (by assumption)).2)).1,by omega,(by simp(disch:=omega) only[bC];omega)⟩) (λu ⟨q0,q1⟩=>?_))|(refine T.call (hs (_,_,_,()) ⟨j0▸hcb,by simp only[<- j1];exact h0,j,(j6 _ (at_mem _ (by omega) (by omega))).2,by omega,by simp only[<- j0,<- j1];omega⟩) (λu ⟨q0,q1⟩=>?_))|(refine T.loop (λs=>x.1=s.1/\x.2.2.1=s.2.1/\(0<=s.2.2.1/\s.2.2.1<=4001)/\0<=s.2.2.2.1/\List.length s.2.2.2.2.2.2.2.2.2.1<=3/\WA j s.2.2.2.2.2.2.2.2.2.1) (λs=>((List.length s.2.2.2.2.2.2.2.2.2.1:Int)-s.2.2.2.1).toNat) ?_ (λs ⟨j0,j1,⟨j2,j3⟩,j4,j5,j6⟩=>?_))|(refine T.grd ?_ ?_)|(refine T.cnd (λhc=>?_) (λhc=>?_)<;>try simp only[bsX,eq_self]at hc)|(refine T.go ?_ ?_)|(refine T.out ?_)|(refine T.ret ?_))
 all_goals(try dsimp only[LQ,JQ])
 all_goals(repeat' (with_reducible refine And.intro ?_ ?_))<;>first|trivial|assumption|omega|(first|(simp(disch:=omega) only[bsX,eq_self,arX];omega)|(simp(disch:=omega) only[bsX,eq_self,arX];done))|exact dR.mpr ⟨by rw[bV,aX];omega,(j6 _ (at_mem _ (by omega) (by omega))).1⟩|(unfold jC;omega)|(rw[bV,aX];exact w (by assumption))
theorem a4c(l:List DS1)(e:DS0)(h:CB l)(he:WE 10 e):T (OO l e) (λy=>0<=y.1/\y.1<=2001):=by
 unfold OO
 have hl:=h.1
 exact T.call (Vm (n:=10000) (x:=(l,e,0,())) ⟨h,mK _,10,he,by omega,by dsimp only;omega⟩) λu q=>T.ret q
theorem a5N{n:Nat}{x:List DS1×List AV×Unit}(h:WB n x.2.1/\CB x.1):T (eT (λself (x:List DS1×List AV×Unit)=>Ms self x.1 x.2.1) n x) (λy:Bool×Unit=>True):=by
 refine T.iter (λn (x:List DS1×List AV×Unit)=>WB n x.2.1/\CB x.1) (λ_ _ (y:Bool×Unit)=>True) (λn x h self hs=>?_) (λx h=>h.1.elim) n x h
 unfold Ms
 obtain⟨⟨e1,e3⟩,hc⟩:=h
 have e3:WBA n _:=e3
 repeat' (first|(refine T.call (a4c _ _ j3 (j2 _ (at_mem _ (by omega) (by omega))).2.1) (λ_ _=>?_))|(refine T.call (hs (_,_,()) ⟨(j2 _ (at_mem _ (by omega) (by omega))).2.2,j3⟩) (λ_ _=>?_))|(refine T.loop (λs=>0<=s.2.2.1/\Bd (List.length s.2.1)/\WBA n s.2.1/\CB s.1) (λs=>((List.length s.2.1:Int)-s.2.2.1).toNat) ?_ (λs ⟨j0,j1,j2,j3⟩=>?_))|(refine T.grd ?_ ?_)|(refine T.cnd (λhc=>?_) (λhc=>?_)<;>try simp only[bsX,eq_self]at hc)|(refine T.go ?_ ?_)|(refine T.out ?_)|(refine T.ret ?_))
 all_goals(try dsimp only[LQ,JQ])
 all_goals(repeat' (with_reducible refine And.intro ?_ ?_))<;>first|trivial|assumption|omega|(first|(simp(disch:=omega) only[bsX,eq_self,arX];omega)|(simp(disch:=omega) only[bsX,eq_self,arX];done))|exact dR.mpr ⟨by rw[bV,aX];omega,(j2 _ (at_mem _ (by omega) (by omega))).1⟩|exact lq.mpr (.inl (dR.mpr ⟨by rw[bV,aX];omega,(j2 _ (at_mem _ (by omega) (by omega))).1⟩))
def VL(l:List DS1):Prop:=∀k:Int,0<=k->k<(l.length:Int)->iH (atI l k zS1)=true/\∀j,0<=j->j<k->¬(atI l j zS1).2.1=(atI l k zS1).2.1
theorem LJ(s:DS6)(l:List DS1)(h:SB s)(h2:CB l):T (m89 s l) (λy=>y.2.1=0->VL l):=by
 unfold m89
 have hB:Bd (List.length l):=by have:=h2.1;omega
 have hl:=aX l
 obtain⟨s1,⟨⟩⟩:=s
 refine T.call (a0T _ h.1 h.2) (λu _=>T.cnd (λhc=>T.ret λq=>?_) (λ_=>T.cnd (λ_=>T.ret λq=>by cases q) (λ_=>?_)))
 .simp only[bsX,eq_self]at hc;exact absurd q hc
 refine T.pass (l.length:Int) (λk=>iH (atI l k zS1)=true/\∀j,0<=j->j<k->¬(atI l j zS1).2.1=(atI l k zS1).2.1) (λk=>(l,k,s1,())) (by omega) (λk h0 h1 _=>?_) (λhV=>?_)
 .dsimp only
  have hg:bnd k (aD l)=true:=by rw[bV];omega
  have hc:=h2.2 _ (at_mem zS1 h0 h1)
  refine T.ct (by rw[bQ];omega) (T.grd hg (T.call (a2J _ hc) (λy hy=>?_)))
  rw[hy]
  have no:∀(z x:Int),¬x=0->T (some (Sum.inr (α:=List DS1×Int×List DS5×Unit) ((z,x,()):Int×Int×Unit))) (LQ (λs=>s=(l,k+1,s1,())/\(iH (atI l k zS1)=true/\∀j,0<=j->j<k->¬(atI l j zS1).2.1=(atI l k zS1).2.1)) (λ_=>0) 1 (λy:Int×Int×Unit=>y.2.1=0->VL l)):=λz x hx=>T.out λq=>absurd q hx
  refine T.cnd (λ_=>no _ _ (by decide)) (λhv=>T.grd hg (T.call (IL _ _ hB) (λv hw=>?_)))
  refine T.cnd (λ_=>no _ _ (by decide)) (λhk=>T.grd hg (T.call (Rf (s1,()) _ h.1) (λ_ _=>?_)))
  refine T.cnd (λ_=>no _ _ (by decide)) (λ_=>T.grd hg (T.call (Oz (n:=10000) (x:=(_,_,_,())) ⟨hc.1.to (by omega),h,hB⟩) (λ_ _=>?_)))
  refine T.cnd (λhq=>no _ _ ?_) (λ_=>T.grd hg (T.call (a2O (n:=10000) (x:=(_,_,_,())) ⟨hc.2.to (by omega),h,hB⟩) (λ_ _=>?_)))
  .simp only[bsX,eq_self]at hq;exact hq
  refine T.cnd (λhq=>no _ _ ?_) (λ_=>T.go ⟨?_,rO.mp hv,λj j0 j1=>hw.2 j j0 ?_⟩ (by omega))
  .simp only[bsX,eq_self]at hq;exact hq
  .rw[bC (by omega) (by omega)]
  .simp only[bsX,eq_self]at hk;omega
 .have hV:VL l:=hV
  dsimp only
  refine T.cf (by rw[dh];omega) (T.iD ?_)
  repeat' (first|(refine T.call (a5n _ h2) (λ_ _=>?_))|(refine T.call (a4c _ _ i2 (i2.2 _ (at_mem _ (by omega) (by omega))).1) (λ_ _=>?_))|(refine T.call (a5N (n:=10000) (x:=(_,_,())) ⟨(i2.2 _ (at_mem _ (by omega) (by omega))).2.to (by omega),i2⟩) (λ_ _=>?_))|(refine T.loop (λr=>0<=r.2.1/\Bd (List.length r.1)/\CB r.1) (λr=>((List.length r.1:Int)-r.2.1).toNat) ?_ (λr ⟨i0,i1,i2⟩=>?_))|(refine T.grd ?_ ?_)|(refine T.cnd (λhc=>?_) (λhc=>?_)<;>try simp only[bsX,eq_self]at hc)|(refine T.iD ?_)|(refine T.go ?_ ?_)|(refine T.out ?_)|(refine T.jgo ?_)|(refine T.pz ?_)|(refine T.sO ?_)|(refine T.ret ?_))
  all_goals(try dsimp only[LQ,JQ])
  all_goals(repeat' (with_reducible refine And.intro ?_ ?_))<;>first|trivial|assumption|omega|(first|(simp(disch:=omega) only[bsX,eq_self,arX];omega)|(simp(disch:=omega) only[bsX,eq_self,arX];done))|exact λ_=>hV
theorem kX{α:Type}{P:α->Prop}{xs:List α}{y:α}(h:∀x∈xs,P x)(hy:P y):∀x∈xs++[y],P x:=by
 intro x hx
 rcases aH.1 hx with q|q
 .exact h x q
 .rw[aY.1 q];exact hy
theorem GA{α:Type}{xs:List α}{n:Nat}(z:α)(h:n<xs.length):List.getD xs n z∈xs:=by
 rw[bn,ah h]
 exact jF h
def CW(n:Nat)(l:List DS1):Prop:=l.length<=n/\∀c∈l,WC c
theorem CW.cb{n:Nat}{l:List DS1}(h:CW n l)(hn:n<=500):CB l:=⟨by have:=h.1;omega,h.2⟩
def EW(x:DS3):Prop:=List.length (α:=ByteArray) x.2.1<=1000/\CW 40 x.2.2.1
def WW(w:DS4):Prop:=CW 40 w.1/\List.length (α:=DS3) w.2.1<=12/\∀x∈w.2.1,EW x
theorem WW.x{w:DS4}(h:WW w):XW w:=⟨λc hc=>(h.1.2 c hc).x,λx hx=>⟨by have:=(h.2.2 x hx).1;omega,λc hc=>((h.2.2 x hx).2.2 c hc).x⟩⟩
theorem Dg(w:DS4)(h:WW w):T (m16 w) (λy=>True):=T.of (KI w h.x) trivial
theorem b43(l:List Int)(x:Int)(h:l.length<=1000):T (OM l x) (λy=>List.length (α:=Int) y.1<=l.length+1):=by
 unfold OM
 refine T.loop (λs=>0<=s.2.2.2.1/\s.1.length=l.length/\(s.2.2.2.2.1.length:Int)<=s.2.2.2.1+1/\s.2.2.2.1<=(l.length:Int)/\(s.2.2.1=false->(s.2.2.2.2.1.length:Int)<=s.2.2.2.1)) (λs=>((l.length:Int)-s.2.2.2.1).toNat) ⟨by simp,rfl,by simp,by simp,by simp⟩ (λs ⟨j0,j1,j2,j5,j3⟩=>?_)
 cases hb:s.2.2.1
 .have j4:=j3 hb
  simp only[Bool.not_false,vG]
  repeat' (first|(refine T.grd ?_ ?_)|(refine T.cnd (λhc=>?_) (λhc=>?_)<;>try simp only[bsX,eq_self]at hc)|(refine T.iD ?_)|(refine T.go ?_ ?_)|(refine T.out ?_)|(refine T.jgo ?_)|(refine T.pz ?_)|(refine T.sO ?_)|(refine T.ret ?_))
  all_goals(try dsimp only[LQ,JQ])
  all_goals(repeat' (with_reducible refine And.intro ?_ ?_))<;>first|trivial|assumption|omega|(first|(simp(disch:=omega) only[bsX,eq_self,arX];omega)|(simp(disch:=omega) only[bsX,eq_self,arX];done))|exact λq=>Bool.noConfusion q|(intro _;(first|(simp(disch:=omega) only[bsX,eq_self,arX];omega)|(simp(disch:=omega) only[bsX,eq_self,arX];done)))
 .clear j3
  simp only[oH,qO]
  repeat' (first|(refine T.grd ?_ ?_)|(refine T.cnd (λhc=>?_) (λhc=>?_)<;>try simp only[bsX,eq_self]at hc)|(refine T.iD ?_)|(refine T.go ?_ ?_)|(refine T.out ?_)|(refine T.jgo ?_)|(refine T.pz ?_)|(refine T.sO ?_)|(refine T.ret ?_))
  all_goals(try dsimp only[LQ,JQ])
  all_goals(repeat' (with_reducible refine And.intro ?_ ?_))<;>first|trivial|assumption|omega|(first|(simp(disch:=omega) only[bsX,eq_self,arX];omega)|(simp(disch:=omega) only[bsX,eq_self,arX];done))|exact λq=>Bool.noConfusion q|(intro q;rw[hb]at q;cases q)
theorem a09(w:DS4)(h:WW w):T (m91 w) (λy=>List.length (α:=Int) y.1<=100):=by
 unfold m91
 repeat' (first|(refine T.call (Dg _ h) (λ_ _=>?_))|(refine T.call (b43 _ _ (by omega)) (λu q=>?_))|(refine T.loop (λs=>0<=s.2.1/\List.length s.2.2.2.1<=12/\(List.length s.1:Int)<=1+2*s.2.1/\s.2.1<=12) (λs=>((List.length s.2.2.2.1:Int)-s.2.1).toNat) ?_ (λs ⟨j0,j1,j2,j3⟩=>?_))|(refine T.grd ?_ ?_)|(refine T.cnd (λhc=>?_) (λhc=>?_)<;>try simp only[bsX,eq_self]at hc)|(refine T.go ?_ ?_)|(refine T.out ?_)|(refine T.ret ?_))
 all_goals(try dsimp only[LQ,JQ])
 all_goals(repeat' (with_reducible refine And.intro ?_ ?_))<;>first|trivial|assumption|omega|(first|(simp(disch:=omega) only[bsX,eq_self,arX];omega)|(simp(disch:=omega) only[bsX,eq_self,arX];done))|exact h.2.1
theorem a6b(w:DS4)(t:Int)(h:WW w):T (m92 w t) (λy=>CW 100 y.1):=by
 unfold m92
 refine T.call (Dg _ h) (λ_ _=>T.cnd (λ_=>T.ret ⟨dG _,λc q=>by simp at q⟩) (λ_=>?_))
 refine T.aU (show OL _=some _ from rfl) (T.cnd (λ_=>T.ret ⟨dG _,λc q=>by simp at q⟩) (λ_=>?_))
 refine T.loop (λs=>0<=s.2.1/\w.1=s.2.2.1/\w.2.1=s.2.2.2.1/\(s.2.2.2.2.1.length:Int)<=s.2.1/\s.2.1<=(List.length w.1:Int)/\∀c∈s.2.2.2.2.1,WC c) (λs=>((List.length w.1:Int)-s.2.1).toNat) ⟨by simp,rfl,rfl,by simp,by simp,λc q=>by simp at q⟩ ?_
 obtain⟨w1,w2,⟨⟩⟩:=w
 obtain⟨⟨a1,a2⟩,a3,a4⟩:=h
 dsimp only at a1 a2 a3 a4 ⊢
 rintro⟨s1,i,_,_,l,⟨⟩⟩ ⟨j0,rfl,rfl,j1,j2,j3⟩
 dsimp only at j0 j1 j2 j3 ⊢
 refine T.cnd (λhc=>?_) (λhc=>?_)<;>simp only[bsX,eq_self]at hc
 .refine T.grd (by rw[bV,aX];omega) (T.call (IL _ _ (by omega)) (λ_ _=>T.cnd (λ_=>T.out ⟨dG _,λc q=>by simp at q⟩) (λ_=>?_)))
  refine T.grd (by rw[bV,aX];omega) (T.grd (by rw[jh];simp;omega) (T.go ⟨?_,rfl,rfl,?_,?_,kX j3 (a2 _ (at_mem _ j0 hc))⟩ ?_))
  all_goals dsimp only
  all_goals rw[bC (by omega) (by omega)]
  all_goals(try simp)
  all_goals omega
 refine T.map ?_
 refine T.loop (λs=>0<=s.2.1/\w2=s.2.2.2.1/\CW 100 s.2.2.2.2.1) (λs=>((w2.length:Int)-s.2.1).toNat) ⟨by simp,rfl,by dsimp only;omega,j3⟩ ?_
 clear j3 j2 j1 j0 hc
 rintro⟨s1,i,s3,_,l,⟨⟩⟩ ⟨j0,rfl,j1,j2⟩
 dsimp only at j0 j1 j2 ⊢
 refine T.cnd (λhc=>?_) (λhc=>T.out ⟨j1,j2⟩)<;>simp only[bsX,eq_self]at hc
 have hx:=a4 _ (at_mem zS3 j0 hc)
 generalize atI w2 i zS3=x at hx ⊢
 obtain⟨x1,rm,xc,⟨⟩⟩:=x
 obtain⟨b1,b2,b3⟩:=hx
 dsimp only at b1 b2 b3 ⊢
 refine T.grd (by rw[bV,aX];omega) (T.aU (show a1P _ _=some _ from rfl) (T.cnd (λ_=>T.go ⟨?_,rfl,j1,j2⟩ ?_) (λ_=>?_)))
 .dsimp only;rw[bC (by omega) (by omega)];omega
 .dsimp only;rw[bC (by omega) (by omega)];omega
 refine T.loop (λs=>0<=s.2.2.1/\w2=s.2.2.2.2.1/\l=s.2.2.2.2.2.1/\rm=s.2.2.2.2.2.2.2.2.1/\xc=s.2.2.2.2.2.2.2.2.2.1/\i=s.2.1) (λs=>((rm.length:Int)-s.2.2.1).toNat) ⟨by simp,rfl,rfl,rfl,rfl,rfl⟩ ?_
 rintro⟨t1,_,k,t4,_,_,t7,t8,_,_,⟨⟩⟩ ⟨k0,rfl,rfl,rfl,rfl,rfl⟩
 dsimp only at k0 ⊢
 refine T.cnd (λhk=>?_) (λhk=>?_)<;>simp only[bsX,eq_self]at hk
 .refine T.grd (by rw[bV,aX];omega) (T.call (IL _ _ (by omega)) (λ_ _=>T.cnd (λ_=>T.out ⟨dG _,λc q=>by simp at q⟩) (λ_=>T.go ⟨?_,rfl,rfl,rfl,rfl,rfl⟩ ?_)))
  all_goals dsimp only
  all_goals rw[bC (by omega) (by omega)]
  all_goals omega
 refine T.map ?_
 clear hk k0
 refine T.loop (λs=>0<=s.2.2.1/\w2=s.2.2.2.2.1/\l=s.2.2.2.2.2.1/\rm=s.2.2.2.2.2.2.2.2.1/\xc=s.2.2.2.2.2.2.2.2.2.1/\i=s.2.1/\(s.2.2.2.2.2.2.2.2.2.2.1.length:Int)<=s.2.2.1/\s.2.2.1<=(l.length:Int)/\∀c∈s.2.2.2.2.2.2.2.2.2.2.1,WC c) (λs=>((l.length:Int)-s.2.2.1).toNat) ⟨by simp,rfl,rfl,rfl,rfl,rfl,by simp,by simp,λc q=>by simp at q⟩ ?_
 rintro⟨t1,_,k,t4,_,_,t7,t8,_,_,lf,⟨⟩⟩ ⟨k0,rfl,rfl,rfl,rfl,rfl,k1,k2,k3⟩
 dsimp only at k0 k1 k2 k3 ⊢
 refine T.cnd (λhk=>?_) (λhk=>?_)<;>simp only[bsX,eq_self]at hk
 .have hi:k.toNat<l.length:=by omega
  refine T.grd (by rw[bV,aX];omega) (T.grd (by rw[tO];exact hi) (T.call (KJ _ _ (by show rm.length<=_;omega)) (λ_ _=>T.cnd (λ_=>T.grd (by rw[bV,aX];omega) (T.grd (by rw[tO];exact hi) (T.grd (by rw[jh];simp;omega) (T.go ⟨?_,rfl,rfl,rfl,rfl,rfl,?_,?_,kX k3 (j2 _ (GA _ hi))⟩ ?_)))) (λ_=>T.go ⟨?_,rfl,rfl,rfl,rfl,rfl,?_,?_,k3⟩ ?_))))
  all_goals dsimp only
  all_goals rw[bC (by omega) (by omega)]
  all_goals(try simp)
  all_goals omega
 refine T.map ?_
 refine T.loop (λs=>0<=s.2.2.1/\w2=s.2.2.2.2.1/\xc=s.2.2.2.2.2.2.2.2.1/\i=s.2.1/\(s.2.2.2.2.2.2.2.2.2.1.length:Int)<=100+s.2.2.1/\s.2.2.1<=(xc.length:Int)/\∀c∈s.2.2.2.2.2.2.2.2.2.1,WC c) (λs=>((xc.length:Int)-s.2.2.1).toNat) ⟨by simp,rfl,rfl,rfl,by dsimp only;omega,by simp,k3⟩ ?_
 clear k0 k1 k2 k3 hk
 rintro⟨t1,_,k,t4,_,t7,t8,t9,_,lf,⟨⟩⟩ ⟨k0,rfl,rfl,rfl,k1,k2,k3⟩
 dsimp only at k0 k1 k2 k3 ⊢
 refine T.cnd (λhk=>?_) (λhk=>?_)<;>simp only[bsX,eq_self]at hk
 .refine T.grd (by rw[bV,aX];omega) (T.call (IL _ _ (by omega)) (λ_ _=>T.cnd (λ_=>T.out ⟨dG _,λc q=>by simp at q⟩) (λ_=>?_)))
  refine T.grd (by rw[bV,aX];omega) (T.grd (by rw[jh];simp;omega) (T.go ⟨?_,rfl,rfl,rfl,?_,?_,kX k3 (b3 _ (at_mem _ k0 hk))⟩ ?_))
  all_goals dsimp only
  all_goals rw[bC (by omega) (by omega)]
  all_goals(try simp)
  all_goals omega
 refine T.map (T.cnd (λ_=>T.ret ⟨dG _,λc q=>by simp at q⟩) (λhl=>T.ret ⟨⟨?_,rfl,?_,k3⟩,?_⟩))<;>simp only[bsX,eq_self]at hl
 .dsimp only;rw[bC (by omega) (by omega)];omega
 .dsimp only;omega
 .dsimp only;rw[bC (by omega) (by omega)];omega
theorem a6w(s:DS6)(w:DS4)(hs:SB s)(h:WW w):T (m50 s w) (λy=>True):=by
 unfold m50
 repeat' (first|(refine T.call (Dg _ h) (λ_ _=>?_))|(refine T.call (a09 _ h) (λu hu=>?_))|(refine T.call (a6b _ _ j3) (λv hv=>?_))|(refine T.call (LJ _ _ j4 (hv.cb (by omega))) (λ_ _=>?_))|(refine T.loop (λs=>0<=s.2.1/\List.length s.1<=100/\WW (s.2.2.2.1,s.2.2.2.2.1,())/\SB (s.2.2.1,())) (λs=>((List.length s.1:Int)-s.2.1).toNat) ?_ (λs ⟨j0,j1,j3,j4⟩=>?_))|(refine T.grd ?_ ?_)|(refine T.cnd (λhc=>?_) (λhc=>?_)<;>try simp only[bsX,eq_self]at hc)|(refine T.go ?_ ?_)|(refine T.out ?_)|(refine T.ret ?_))
 all_goals(try dsimp only[LQ,JQ])
 all_goals(repeat' (with_reducible refine And.intro ?_ ?_))<;>first|trivial|assumption|omega|(first|(simp(disch:=omega) only[bsX,eq_self,arX];omega)|(simp(disch:=omega) only[bsX,eq_self,arX];done))
theorem R4:∀c:List ByteArray,(List.map (Ty.enc .str) (show List (Ty.den .str) from c)).map (λy=>Ei .str y.cells)=c
 |[]=>rfl
 |x::c=>dO (x::·) (R4 c)
theorem PZ(x:DS0):aV (Ty.enc tS0 x)=x:=by
 obtain⟨a,b,c,d,e,f,⟨⟩⟩:=x
 exact dO (λz:List ByteArray=>(a,b,z,d,e,f,())) (R4 c)
theorem Nw:∀c:List ByteArray,(List.map (Ty.enc .str) (show List (Ty.den .str) from c)).all (λa=>shp .str a&&okC .str a.cells)=true
 |[]=>rfl
 |_::c=>Nw c
theorem ok0(x:DS0):qj (Ty.enc tS0 x)=true:=by
 obtain⟨a,b,c,d,e,f,⟨⟩⟩:=x
 exact(dO (λz=>(true&&(true&&(true&&((true&&z)&&(true&&(true&&(true&&true)))))))) (Nw c)).trans rfl
theorem a2G(x:DS7):bG (Ty.enc tS7 x)=x:=by
 obtain⟨n,y,u,⟨⟩⟩:=x
 exact dO (λz:DS0=>(n,z,u,())) (PZ y)
theorem ok7(x:DS7):mY (Ty.enc tS7 x)=true:=by
 obtain⟨n,y,u,⟨⟩⟩:=x
 exact(dO (λz=>(true&&(true&&(z&&(true&&true))))) (ok0 y)).trans rfl
theorem WE.mk{k:Nat}{a:Int}{b:ByteArray}{c:List ByteArray}{d e:Int}{l:List DS0}(hc:c.length<=1000)(hl:l.length<=3)(h:∀x∈l,WE k x):WE (k+1) (a,b,c,d,e,wD l,()):=by
 refine⟨by dsimp only;omega,bD (fE (bN _)) hl,λy hy=>?_⟩
 obtain⟨x,hx,rfl⟩:=bT.1 hy
 exact⟨ok0 x,Eq.mpr (dO (WE k) (PZ x)) (h x hx)⟩
theorem WB.mk{k:Nat}{l:List DS7}(hl:l.length<=1000)(h:∀x∈l,WE 10 x.2.1/\WB k x.2.2.1):WB (k+1) (Fj l):=by
 refine⟨bD (fE (bN _)) (bD hl (by omega)),λy hy=>?_⟩
 obtain⟨x,hx,rfl⟩:=bT.1 hy
 exact⟨ok7 x,Eq.mpr (dO (λz:DS7=>WE 10 z.2.1/\WB k z.2.2.1) (a2G x)) (h x hx)⟩
theorem WE.leaf{a:Int}{b:ByteArray}{c:List ByteArray}{d e:Int}(hc:c.length<=1000):WE 1 (a,b,c,d,e,([]:List AV),()):=⟨by dsimp only;omega,by simp,λy hy=>by simp at hy⟩
def VE(k:Nat)(e:DS0):Prop:=okE k e=true/\szE k e<=4^k
def EE(k:Nat)(e:DS0):Prop:=WE k e/\VE k e
theorem EE.to{k:Nat}{e:DS0}(h:EE k e){m:Nat}(hm:k<=m):EE m e:=by
 obtain⟨_,h2,h3⟩:=Fq (Fu h.2.1) (m-k)
 rw[show k+(m-k)=m by omega]at h2 h3
 exact⟨h.1.to hm,h3.trans h.2.1,by rw[h2];exact bD h.2.2 (Nat.pow_le_pow_right (by omega) hm)⟩
theorem EE.leaf{e:DS0}(h:tK e=true)(hl:List.length (α:=AV) e.2.2.2.2.2.1=0)(hw:List.length (α:=ByteArray) e.2.2.1<=1000):EE 1 e:=by
 have hn:e.2.2.2.2.2.1=[]:=bW.1 hl
 refine⟨⟨by omega,by omega,λy hy=>by rw[hn]at hy;cases hy⟩,?_,?_⟩
 .unfold okE;rw[h,hn];rfl
 .unfold szE;rw[hn];decide
theorem EE.mk{k:Nat}{op:Int}{l:List DS0}(ho:(op=6/\l.length=1)\/((op=7\/op=8)/\2<=l.length))(hl:l.length<=3)(h:∀x∈l,EE k x):EE (k+1) (op,bs [],([]:List ByteArray),0,0,wD l,()):=by
 have he:List.length (wD l)=l.length:=bN _
 refine⟨WE.mk (by simp) hl λx hx=>(h x hx).1,?_,?_⟩
 .unfold okE
  rw[dR]
  refine⟨?_,aG.2 λy hy=>?_⟩
  .unfold tK
   dsimp only
   have ha:GR op (List.length (wD l):Int)=true:=by
    rw[he]
    rcases ho with⟨rfl,q⟩|⟨rfl|rfl,q⟩
    .exact lK.mpr (by omega)
    .exact gG.mpr (by omega)
    .exact gG.mpr (by omega)
   rw[ha]
   rcases ho with⟨rfl,_⟩|⟨rfl|rfl,_⟩<;>(show((_:Bool)=true))<;>kernel_rfl
  .obtain⟨x,hx,rfl⟩:=bT.1 hy
   exact(dO (λz=>okE k z) (PZ x)).trans (h x hx).2.1
 .unfold szE
  have key:∀l:List DS0,(∀x∈l,EE k x)->(List.map (λa=>szE k (aV a)) (wD l)).sum<=l.length*4^k:=by
   intro l
   induction l with
   |nil=>intro _;exact dG _
   |cons x l ih =>
    intro h
    have h1:=ih λy hy=>h y (gu _ hy)
    have h2:szE k (aV (Ty.enc tS0 x))<=4^k:=(dO (λz=>szE k z<=4^k) (PZ x)).mpr (h x yA).2.2
    show szE k (aV (Ty.enc tS0 x))+(List.map (λa=>szE k (aV a)) (wD l)).sum<=(l.length+1)*4^k
    rw[Nat.succ_mul];omega
  have h1:=key l h
  have h2:l.length*4^k<=3*4^k:=dH _ hl
  have h3:1<=4^k:=Nat.pow_pos (by omega)
  rw[Nat.pow_succ]
  dsimp only
  omega
theorem EE.s{k:Nat}{e:DS0}(h:EE k e)(hk:k<=4):jf e=true:=by
 obtain⟨_,h2,h3⟩:=Fq (Fu h.2.1) (16-k)
 rw[show k+(16-k)=16 by omega]at h2 h3
 unfold jf
 have:4^k<=4^4:=Nat.pow_le_pow_right (by omega) hk
 rw[h3,h.2.1,h2,bX (by have:=h.2.2;omega)];rfl
def ndS:List ByteArray->Bool
 |[]=>true
 |a::l=>l.all (λb=>!sEq a b)&&ndS l
theorem a3H:∀l:List ByteArray,ndS l=true->l.Nodup
 |[],_=>tX
 |a::l,h=>by
  obtain⟨h1,h2⟩:=dR.mp h
  refine rT.2 ⟨λq=>?_,a3H l h2⟩
  have:=iA.mp (aG.1 h1 a q)
  exact I5.mp this rfl
theorem a2m{l:List ByteArray}(h:(l.all eH&&ndS l)=true):(List.all l eH&&dst l)=true:=by
 obtain⟨h1,h2⟩:=dR.mp h
 rw[h1,IZ.mpr (a3H l h2)];rfl
def zL(x:List ByteArray)(f:Int)(t:Nat):List ByteArray:=(List.range t).map fun(i:Nat)=>atI x ((f+(i:Int))%(x.length:Int)) ByteArray.empty
theorem EM(x:List ByteArray)(f:Int)(t:Nat):(zL x f t).length=t:=by unfold zL;simp
theorem a02(x:List ByteArray)(f:Int)(t:Nat):zL x f (t+1)=zL x f t++[atI x ((f+(t:Int))%(x.length:Int)) ByteArray.empty]:=by unfold zL;rw[List.range_succ,bJ];rfl
theorem Xb(x:List ByteArray)(f:Int){t:Nat}{k:Int}(h0:0<=k)(h1:k<(t:Int)):atI (zL x f t) k ByteArray.empty=atI x ((f+k)%(x.length:Int)) ByteArray.empty:=by
 show List.getD (zL x f t) k.toNat ByteArray.empty=_
 rw[bn,zL,aK,jO (by omega)]
 show atI x ((f+(k.toNat:Int))%(x.length:Int)) ByteArray.empty=_
 rw[mD h0]
theorem a9c{x:List ByteArray}{f:Int}{t:Nat}(h:(List.all x eH&&dst x)=true)(h1:1<=t)(h2:t<=x.length)(h3:x.length<=12):uG (zL x f t)=true:=by
 obtain⟨a1,a2⟩:=dR.mp h
 have hn:=(zO ByteArray.empty).1 (IZ.mp a2)
 have hm:∀k:Int,0<=(f+k)%(x.length:Int)/\(f+k)%(x.length:Int)<(x.length:Int):=λk=>⟨Int.emod_nonneg _ (by omega),Int.emod_lt_of_pos _ (by omega)⟩
 unfold uG
 rw[EM,bX (by omega),iJ]
 refine K9 λk h0 h1=>?_
 rw[EM]at h1
 rw[Xb x f h0 h1]
 refine⟨aG.1 a1 _ (at_mem _ (hm k).1 (hm k).2),λj j0 j1 q=>?_⟩
 rw[Xb x f j0 (by omega)]at q
 have ne:¬(f+k)%(x.length:Int)=(f+j)%(x.length:Int):=λe=>by
  have e:=Int.emod_eq_emod_iff_emod_sub_eq_zero.1 e
  rw[show f+k-(f+j)=k-j by omega,Int.emod_eq_of_lt (by omega) (by omega)]at e
  omega
 rcases Int.lt_or_gt_of_ne ne with w|w
 .exact hn _ (hm j).1 (hm j).2 _ (hm k).1 w q.symm
 .exact hn _ (hm k).1 (hm k).2 _ (hm j).1 w q
def AO(x:DS5):Prop:=(x.2.1=1->1<=List.length (α:=ByteArray) x.2.2.1)/\List.length (α:=ByteArray) x.2.2.1<=12/\(-1000000000<=x.2.2.2.1/\x.2.2.2.1<=x.2.2.2.2.1/\x.2.2.2.2.1<=1000000000)/\eH x.1=true/\(x.2.1=1->(List.all x.2.2.1 eH&&dst x.2.2.1)=true)
def SK(a:DS6):Prop:=(1<=List.length a.1/\List.length a.1<=6)/\∀x∈a.1,AO x
theorem SK.sb{a:DS6}(h:SK a):SB a:=⟨by have:=h.1;omega,λx hx=>by have:=(h.2 x hx).2.1;omega⟩
theorem b03(k:Int):T (m23 k) (λy=>SK y.1):=by
 unfold m23
 refine T.call (a0v k (by omega) (by omega)) (λ_ _=>?_)
 repeat' (first|(refine T.aU (show m51=some _ from rfl) ?_)|(refine T.grd ?_ ?_)|(refine T.cnd (λhc=>?_) (λhc=>?_)<;>try simp only[bsX,eq_self]at hc)|(refine T.iD ?_)|(refine T.go ?_ ?_)|(refine T.out ?_)|(refine T.jgo ?_)|(refine T.pz ?_)|(refine T.sO ?_)|(refine T.ret ?_))
 all_goals refine⟨by simp,λx hx=>?_⟩
 all_goals simp only[bE,bY,or_false]at hx
 all_goals(first|(rcases hx with rfl|rfl|rfl|rfl)|(rcases hx with rfl|rfl|rfl)|(rcases hx with rfl|rfl)|subst hx)
 all_goals exact⟨by simp,by simp,by simp,by kernel_rfl,λq=>by first|(exact a2m (by kernel_rfl))|(exact absurd q (by decide))⟩
theorem AO.w{x:DS5}(h:AO x)(e:x.2.1=1):1<=List.length (α:=ByteArray) x.2.2.1/\List.length (α:=ByteArray) x.2.2.1<=12:=⟨h.1 e,h.2.1⟩
theorem b2E{a b:Int}(h0:0<=a)(h1:0<b):0<=iE a b/\iE a b<b:=⟨Int.tmod_nonneg _ h0,yE _ h1⟩
theorem LW{s:List DS5}{i:Int}(h:SK (s,()))(h0:0<=i)(h1:i<(s.length:Int)):AO (atI s i zS5):=h.2 _ (at_mem _ h0 h1)
theorem b1X{L:List Int}{a:Int}(s:DS6)(hs:SK s)(h:bZ L a):T (Uu s L a) (λy=>EE 1 y.1/\bZ y.2.1 y.2.2.1):=by
 unfold Uu
 obtain⟨s1,⟨⟩⟩:=s
 have hl:=hs.1
 dsimp only at hl ⊢
 refine T.call (gJ (by assumption) (by rw[aX];omega) (by rw[aX];omega)) (λy ⟨d,y0,y1⟩=>?_)
 refine T.grd (by rw[bV];exact⟨y0,y1⟩) ?_
 have hx:=LW hs y0 (by rw[aX]at y1;exact y1)
 generalize atI s1 y.1 zS5=x at hx ⊢
 obtain⟨x1,x2,x3,x4,x5,⟨⟩⟩:=x
 obtain⟨b1,b2,⟨b3,b4,b5⟩,b6,b7⟩:=hx
 dsimp only at b1 b2 b3 b4 b5 b6 b7 ⊢
 have hz:=aX x3
 have he:aN .i64 (dz .i64 x5 x4) 1=x5-x4+1:=by rw[dB (by omega) (by omega),bC (by omega) (by omega)]
 have nd:∀{op:Int} {ws:List ByteArray} {lo hi:Int},(op=3\/op=4\/op=5)->BZ op ws=true->Ci op lo hi=true->tK (op,x1,ws,lo,hi,([]:List AV),())=true:=fun{op ws lo hi} ho hw hr=>by
  unfold tK Uf
  dsimp only
  rw[hw,hr]
  rcases ho with rfl|rfl|rfl<;>(show(true&&(true&&(eH x1&&true)))=true)<;>rw[b6]<;>rfl
 refine T.cnd (λhc=>T.ret ⟨EE.leaf (nd (.inl rfl) rfl rfl) rfl (by simp),d⟩) (λ_=>T.cnd (λhc=>?_) (λ_=>?_))
 .rw[lK]at hc
  have b1:=b1 hc
  have b7:=b7 hc
  refine T.call (gJ d (by omega) (by omega)) (λu ⟨u0,u1,u2⟩=>T.call (Bq u0 (by omega) (by omega) (by omega)) (λv ⟨v0,v1,v2⟩=>?_))
  refine T.loop (λs=>∃t:Nat,(t:Int)<=v.1/\s=(u.1+(t:Int),v.1-(t:Int),v.2.1,v.2.2.1,0,bs [],0,0,x1,x2,x3,x4,x5,4,x1,0,0,zL x3 u.1 t,())) (λs=>s.2.1.toNat) ⟨0,by omega,by rw[show u.1+((0:Nat):Int)=u.1 by omega,show v.1-((0:Nat):Int)=v.1 by omega];rfl⟩ ?_
  rintro _ ⟨t,ht,rfl⟩
  dsimp only
  refine T.cnd (λhg=>?_) (λhg=>?_)<;>simp only[bsX,eq_self]at hg
  .have hr:iE (u.1+(t:Int)) (aD x3)=(u.1+(t:Int))%(x3.length:Int):=by rw[hz];exact Int.tmod_eq_emod_of_nonneg (by omega)
   have r0:=Int.emod_nonneg (u.1+(t:Int)) (show(x3.length:Int)≠0 by omega)
   have r1:=Int.emod_lt_of_pos (u.1+(t:Int)) (show 0<(x3.length:Int) by omega)
   rw[hr]
   refine T.grd (by rw[nG];omega) (T.grd (by rw[bV,hz];exact⟨r0,r1⟩) (T.grd (by rw[jh,EM];simp;omega) (T.go ⟨t+1,by omega,?_⟩ ?_)))
   .rw[bC (by omega) (by omega),dB (by omega) (by omega),a02,show u.1+((t+1:Nat):Int)=u.1+(t:Int)+1 by omega,show v.1-((t+1:Nat):Int)=v.1-(t:Int)-1 by omega]
   .dsimp only;rw[dB (by omega) (by omega)];omega
  .refine T.out ⟨EE.leaf (nd (.inr (.inl rfl)) (show uG _=true from a9c b7 (by omega) (by omega) (by omega)) rfl) rfl (by show List.length (zL x3 u.1 t)<=1000;rw[EM];omega),v0⟩
 ·have n5:∀ {lo hi:Int},x4<=lo->lo<=hi->hi<=x5->EE 1 (5,x1,([]:List ByteArray),lo,hi,([]:List AV),()):=fun {lo hi} p q r=>EE.leaf (nd (.inr (.inr rfl)) rfl (by
   show(iLe (-1000000000) lo&&(iLe lo 1000000000&&(iLe (-1000000000) hi&&(iLe hi 1000000000&&iLe lo hi))))=true
   rw[gG.mpr (by omega),gG.mpr (by omega),gG.mpr (by omega),gG.mpr (by omega),gG.mpr q];rfl)) rfl (by simp)
  rw[he]
  refine T.call (gJ d (by omega) (by omega)) (λu ⟨u0,u1,u2⟩=>?_)
  refine T.join (λj=>(x4<=j.1/\j.1<=x5)/\bZ j.2.1 j.2.2.1/\x1=j.2.2.2.2.2.2.2.1/\x5=j.2.2.2.2.2.2.2.2.2.2.2.1) ?_ (λj hj=>?_)
  .refine T.call (gJ u0 (by omega) (by omega)) (λv ⟨v0,_,_⟩=>T.cnd (λ_=>T.call (gJ v0 (by omega) (by omega)) (λw ⟨w0,w1,w2⟩=>T.jgo ⟨⟨?_,?_⟩,w0,rfl,rfl⟩)) (λ_=>T.jgo ⟨⟨?_,?_⟩,v0,rfl,rfl⟩))
   .dsimp only;unfold jC xQ;rw[dB (by omega) (by omega)];omega
   .dsimp only;unfold jC xQ;omega
   .dsimp only;rw[bC (by omega) (by omega)];omega
   .dsimp only;rw[bC (by omega) (by omega)];omega
  .obtain⟨lo,L,a,_,_,_,_,_,_,_,_,_,⟨⟩⟩:=j
   obtain⟨⟨l0,l1⟩,hd,rfl,rfl⟩:=hj
   dsimp only at l0 l1 hd ⊢
   have he:aN .i64 (dz .i64 x5 lo) 1=x5-lo+1:=by rw[dB (by omega) (by omega),bC (by omega) (by omega)]
   rw[he]
   refine T.call (gJ hd (by omega) (by omega)) (λv ⟨v0,v1,v2⟩=>T.call (gJ v0 (by omega) (by omega)) (λw ⟨w0,_,_⟩=>T.cnd (λ_=>T.call (gJ w0 (by omega) (by omega)) (λz ⟨z0,z1,z2⟩=>T.ret ⟨n5 l0 ?_ ?_,z0⟩)) (λ_=>T.ret ⟨n5 l0 ?_ ?_,w0⟩)))
   .unfold jC;rw[bC (by omega) (by omega)];omega
   .unfold jC;omega
   .rw[bC (by omega) (by omega)];omega
   .rw[bC (by omega) (by omega)];omega
theorem a6K{L:List Int}{a:Int}(s:DS6)(l:List ByteArray)(hs:SK s)(h:bZ L a)(hn:l.length<=1000):T (Iu s L a l) (λy=>WE 1 y.1/\bZ y.2.1 y.2.2.1/\y.2.2.2.1=l):=by
 unfold Iu
 obtain⟨s1,⟨⟩⟩:=s
 have hl:=hs.1
 dsimp only at hl ⊢
 have part:∀{L:List Int} {a:Int},bZ L a->T ((m24 (aD s1) L a).bind λjq=> cond (bnd jq.1 (aD s1))  (cond (iEq ((atI s1 jq.1 zS5).2.1) 3)  (some ((3,(atI s1 jq.1 zS5).1,([]:List ByteArray),0,0,([]:List AV),()),jq.2.1,jq.2.2.1,l,()))  (cond (iEq ((atI s1 jq.1 zS5).2.1) 1)  ((m24 (aD ((atI s1 jq.1 zS5).2.2.1)) jq.2.1 jq.2.2.1).bind λa0c=> (m88 1 (aD ((atI s1 jq.1 zS5).2.2.1)) a0c.2.1 a0c.2.2.1).bind λD8=> bH (S:=Int×Int×(List Int)×Int×(List ByteArray)×Int×ByteArray×Int×Int×ByteArray×Int×(List ByteArray)×Int×Int×Int×ByteArray×Int×Int×(List ByteArray)×Unit) (R:=DS0×(List Int)×Int×(List ByteArray)×Unit) (λjy=> cond (iLt 0 jy.2.1)  (cond (iNe (aD jy.2.2.2.2.2.2.2.2.2.2.2.1) 0)  (cond (bnd (iE jy.1 (aD jy.2.2.2.2.2.2.2.2.2.2.2.1)) (aD jy.2.2.2.2.2.2.2.2.2.2.2.1))  (cond (fits (List.length jy.2.2.2.2.2.2.2.2.2.2.2.2.2.2.2.2.2.2.1+List.length ([atI jy.2.2.2.2.2.2.2.2.2.2.2.1 (iE jy.1 (aD jy.2.2.2.2.2.2.2.2.2.2.2.1)) ByteArray.empty]:List ByteArray)) 16)  (some (.inl (aN .i64 jy.1 1,dz .i64 jy.2.1 1,jy.2.2.1,jy.2.2.2.1,jy.2.2.2.2.1,jy.2.2.2.2.2.1,jy.2.2.2.2.2.2.1,jy.2.2.2.2.2.2.2.1,jy.2.2.2.2.2.2.2.2.1,jy.2.2.2.2.2.2.2.2.2.1,jy.2.2.2.2.2.2.2.2.2.2.1,jy.2.2.2.2.2.2.2.2.2.2.2.1,jy.2.2.2.2.2.2.2.2.2.2.2.2.1,jy.2.2.2.2.2.2.2.2.2.2.2.2.2.1,jy.2.2.2.2.2.2.2.2.2.2.2.2.2.2.1,jy.2.2.2.2.2.2.2.2.2.2.2.2.2.2.2.1,jy.2.2.2.2.2.2.2.2.2.2.2.2.2.2.2.2.1,jy.2.2.2.2.2.2.2.2.2.2.2.2.2.2.2.2.2.1,jy.2.2.2.2.2.2.2.2.2.2.2.2.2.2.2.2.2.2.1++([atI jy.2.2.2.2.2.2.2.2.2.2.2.1 (iE jy.1 (aD jy.2.2.2.2.2.2.2.2.2.2.2.1)) ByteArray.empty]:List ByteArray),()))) none) none) none)  (some (.inr ((jy.2.2.2.2.2.2.2.2.2.2.2.2.2.2.1,jy.2.2.2.2.2.2.2.2.2.2.2.2.2.2.2.1,jy.2.2.2.2.2.2.2.2.2.2.2.2.2.2.2.2.2.2.1,jy.2.2.2.2.2.2.2.2.2.2.2.2.2.2.2.2.1,jy.2.2.2.2.2.2.2.2.2.2.2.2.2.2.2.2.2.1,([]:List AV),()),jy.2.2.1,jy.2.2.2.1,jy.2.2.2.2.1,()))))  (a0c.1,D8.1,D8.2.1,D8.2.2.1,l,0,(bs []),0,0,(atI s1 jq.1 zS5).1,(atI s1 jq.1 zS5).2.1,(atI s1 jq.1 zS5).2.2.1,(atI s1 jq.1 zS5).2.2.2.1,(atI s1 jq.1 zS5).2.2.2.2.1,4,(atI s1 jq.1 zS5).1,0,0,([]:List ByteArray),()))  ((m24 (aN .i64 (dz .i64 ((atI s1 jq.1 zS5).2.2.2.2.1) ((atI s1 jq.1 zS5).2.2.2.1)) 1) jq.2.1 jq.2.2.1).bind λD7=> jZ (S:=Int×(List Int)×Int×(List ByteArray)×Int×ByteArray×Int×Int×ByteArray×Int×(List ByteArray)×Int×Int×Unit) (R:=DS0×(List Int)×Int×(List ByteArray)×Unit)  ((m24 2 D7.2.1 D7.2.2.1).bind λBU=> cond (iEq BU.1 0)  ((m24 12 BU.2.1 BU.2.2.1).bind λa0b=> some (.inl (jC (xQ (dz .i64 a0b.1 4) ((atI s1 jq.1 zS5).2.2.2.1)) ((atI s1 jq.1 zS5).2.2.2.2.1),a0b.2.1,a0b.2.2.1,l,0,(bs []),0,0,(atI s1 jq.1 zS5).1,(atI s1 jq.1 zS5).2.1,(atI s1 jq.1 zS5).2.2.1,(atI s1 jq.1 zS5).2.2.2.1,(atI s1 jq.1 zS5).2.2.2.2.1,())))  (some (.inl (aN .i64 ((atI s1 jq.1 zS5).2.2.2.1) D7.1,BU.2.1,BU.2.2.1,l,0,(bs []),0,0,(atI s1 jq.1 zS5).1,(atI s1 jq.1 zS5).2.1,(atI s1 jq.1 zS5).2.2.1,(atI s1 jq.1 zS5).2.2.2.1,(atI s1 jq.1 zS5).2.2.2.2.1,()))))  (λxM=> (m24 (aN .i64 (dz .i64 xM.2.2.2.2.2.2.2.2.2.2.2.2.1 xM.1) 1) xM.2.1 xM.2.2.1).bind λa0a=> (m24 2 a0a.2.1 a0a.2.2.1).bind λNp=> cond (iEq Np.1 0)  ((m24 4 Np.2.1 Np.2.2.1).bind λZY=> some ((5,xM.2.2.2.2.2.2.2.2.1,([]:List ByteArray),xM.1,jC (aN .i64 xM.1 ZY.1) xM.2.2.2.2.2.2.2.2.2.2.2.2.1,([]:List AV),()),ZY.2.1,ZY.2.2.1,xM.2.2.2.1,()))  (some ((5,xM.2.2.2.2.2.2.2.2.1,([]:List ByteArray),xM.1,aN .i64 xM.1 a0a.1,([]:List AV),()),Np.2.1,Np.2.2.1,xM.2.2.2.1,())))))) none) (λy=>WE 1 y.1/\bZ y.2.1 y.2.2.1/\y.2.2.2.1=l):=by
  intro L a h
  refine T.call (gJ (by assumption) (by rw[aX];omega) (by rw[aX];omega)) (λy ⟨d,y0,y1⟩=>?_)
  refine T.grd (by rw[bV];exact⟨y0,y1⟩) ?_
  have hx:=LW hs y0 (by rw[aX]at y1;exact y1)
  generalize atI s1 y.1 zS5=x at hx ⊢
  obtain⟨x1,x2,x3,x4,x5,⟨⟩⟩:=x
  obtain⟨b1,b2,⟨b3,b4,b5⟩,b6,b7⟩:=hx
  dsimp only at b1 b2 b3 b4 b5 ⊢
  have hz:=aX x3
  have he:aN .i64 (dz .i64 x5 x4) 1=x5-x4+1:=by rw[dB (by omega) (by omega),bC (by omega) (by omega)]
  repeat' (first|(refine T.call (gJ (by assumption) (by first|omega|(rw[aX];first|omega|(have:=b1 (by assumption);omega))|(simp(disch:=omega) only[bC,dB];omega)) (by first|omega|(rw[aX];first|omega|(have:=b1 (by assumption);omega))|(simp(disch:=omega) only[bC,dB];omega))) (λ_ ⟨_,_,_⟩=>?_))|(refine T.call (Bq (by assumption) (by omega) (by first|omega|(rw[aX];first|omega|(have:=b1 (by assumption);omega))|(simp(disch:=omega) only[bC,dB];omega)) (by first|omega|(rw[aX];first|omega|(have:=b1 (by assumption);omega))|(simp(disch:=omega) only[bC,dB];omega))) (λ_ ⟨_,_,_⟩=>?_))|(refine T.loop (λs=>0<=s.1/\0<=s.2.1/\s.1+s.2.1<=1000/\(1<=List.length (α:=ByteArray) s.2.2.2.2.2.2.2.2.2.2.2.1/\List.length (α:=ByteArray) s.2.2.2.2.2.2.2.2.2.2.2.1<=12)/\(List.length (α:=ByteArray) s.2.2.2.2.2.2.2.2.2.2.2.2.2.2.2.2.2.2.1:Int)+s.2.1<=12/\bZ s.2.2.1 s.2.2.2.1/\s.2.2.2.2.1=l) (λs=>(s.2.1).toNat) ?_ (λs ⟨j0,j1,j2,⟨j3,j4⟩,j5,j6,j7⟩=>?_))|(refine T.join (λj=>x4<=j.1/\j.1<=x5/\j.2.2.2.2.2.2.2.2.2.2.2.2.1=x5/\bZ j.2.1 j.2.2.1/\j.2.2.2.1=l) ?_ (λ_ ⟨_,_,_,_,_⟩=>?_))|(refine T.grd ?_ ?_)|(refine T.cnd (λhc=>?_) (λhc=>?_)<;>try simp only[bsX,eq_self]at hc)|(refine T.iD ?_)|(refine T.go ?_ ?_)|(refine T.out ?_)|(refine T.jgo ?_)|(refine T.pz ?_)|(refine T.sO ?_)|(refine T.ret ?_))
  all_goals(try dsimp only[LQ,JQ])
  all_goals(repeat' (with_reducible refine And.intro ?_ ?_))<;>first|trivial|assumption|omega|exact WE.leaf (by first|(simp;done)|omega)|(simp;done)|(have:=b1 (by assumption);omega)|(rw[bV,aX];exact b2E (by omega) (by omega))|(simp only[jC,xQ];simp(disch:=omega) only[bC,dB];omega)|(first|(simp(disch:=omega) only[bsX,eq_self,arX];omega)|(simp(disch:=omega) only[bsX,eq_self,arX];done))|(have:=b1 (by assumption);simp;omega)|(simp(disch:=omega) only[bC,dB,jC,xQ]at *;omega)
 refine T.cnd (λhc=>?_) (λ_=>part h)
 simp only[bsX,eq_self]at hc
 refine T.call (gJ h (by omega) (by omega)) (λu ⟨d0,u0,u1⟩=>T.cnd (λ_=>?_) (λ_=>part d0))
 exact T.call (gJ d0 (by rw[aX];omega) (by rw[aX];omega)) (λv ⟨d1,v0,v1⟩=>T.grd (by rw[bV];exact⟨v0,v1⟩) (T.grd (by rw[tO];rw[aX]at v1;omega) (T.ret ⟨WE.leaf (by simp),d1,rfl⟩)))
section
theorem Er{a b:List ByteArray}(h:b=a):Nat.beq a.length b.length=true:=by rw[h];exact sZ _
theorem Rt{n:Nat}{x:DS6×Int×List Int×Int×Unit}(h:SK x.1/\bZ x.2.2.1 x.2.2.2.1/\x.2.1<=3/\x.2.1<=n/\1<=n):T (eT (λself (x:DS6×Int×List Int×Int×Unit)=>Mx self x.1 x.2.1 x.2.2.1 x.2.2.2.1) n x) (fun(y:DS0×List Int×Int×Unit)=>EE (x.2.1.toNat+1) y.1/\bZ y.2.1 y.2.2.1):=by
 refine T.iter (λn (x:DS6×Int×List Int×Int×Unit)=>SK x.1/\bZ x.2.2.1 x.2.2.2.1/\x.2.1<=3/\x.2.1<=n/\1<=n) (λ_ x (y:DS0×List Int×Int×Unit)=>EE (x.2.1.toNat+1) y.1/\bZ y.2.1 y.2.2.1) (λn x h self hs=>?_) (λx h=>by have:=h.2.2.2.2;omega) n x h
 obtain⟨⟨s1,⟨⟩⟩,d,L,a,⟨⟩⟩:=x
 obtain⟨hk,hd,h3,h4,h5⟩:=h
 dsimp only at hd h3 h4 h5 ⊢
 unfold Mx
 refine T.call (gJ hd (by omega) (by omega)) (λu ⟨u0,u1,u2⟩=>T.cnd (λhc=>?_) (λhc=>?_))<;>simp only[bsX,eq_self]at hc
 .refine T.call (gJ u0 (by omega) (by omega)) (λv ⟨v0,_,_⟩=>T.cnd (λ_=>T.ret ⟨EE.to (EE.leaf (by show(_:Bool)=true;kernel_rfl) rfl (by simp)) (by omega),v0⟩) (λ_=>T.cnd (λ_=>T.ret ⟨EE.to (EE.leaf (by show(_:Bool)=true;kernel_rfl) rfl (by simp)) (by omega),v0⟩) (λ_=>T.call (b1X _ hk v0) (λw ⟨w0,w1⟩=>T.ret ⟨w0.to (by omega),w1⟩))))
 obtain⟨m,rfl⟩:∃m:Nat,d=(m:Int)+1:=⟨d.toNat-1,by omega⟩
 have hi:dz .i64 ((m:Int)+1) 1=(m:Int):=by rw[dB (by omega) (by omega)];omega
 have sf:∀(L:List Int) (a:Int),bZ L a->T (self ((s1,()),(m:Int),L,a,())) (λy=>EE (m+1) y.1/\bZ y.2.1 y.2.2.1):=λL a hd=>hs ((s1,()),(m:Int),L,a,()) ⟨hk,hd,by dsimp only;omega,by dsimp only;omega,by omega⟩
 rw[hi,show((m:Int)+1).toNat+1=m+1+1 by omega]
 refine T.cnd (λ_=>T.call (sf _ _ u0) (λv ⟨v0,v1⟩=>T.ret ⟨EE.mk (.inl ⟨rfl,rfl⟩) (by simp) (λq hq=>by rw[aY.1 hq];exact v0),v1⟩)) (λhq=>?_)
 simp only[bsX,eq_self]at hq
 refine T.call (Bq u0 (by omega) (by omega) (by omega)) (λv ⟨v0,v1,v2⟩=>?_)
 rw[show aN .i64 u.1 1=u.1+1 from bC (by omega) (by omega)]
 refine T.loop (λs=>(m:Int)+1=s.1/\0<=s.2.1/\(List.length (α:=DS0) s.2.2.2.2.2.2.2.2.2.2.2.2.2.1:Int)+s.2.1=v.1/\bZ s.2.2.1 s.2.2.2.1/\s1=s.2.2.2.2.1/\(u.1+1=s.2.2.2.2.2.2.2.2.2.1/\bs []=s.2.2.2.2.2.2.2.2.2.2.1/\0=s.2.2.2.2.2.2.2.2.2.2.2.1/\0=s.2.2.2.2.2.2.2.2.2.2.2.2.1)/\∀q∈s.2.2.2.2.2.2.2.2.2.2.2.2.2.1,EE (m+1) q) (λs=>s.2.1.toNat) ⟨rfl,by dsimp only;omega,by simp,v0,rfl,⟨rfl,rfl,rfl,rfl⟩,λq hq=>absurd hq bY⟩ ?_
 rintro⟨_,k,L,a,_,t6,t7,t8,t9,_,_,_,_,l,⟨⟩⟩ ⟨rfl,k0,k1,hd,rfl,⟨rfl,rfl,rfl,rfl⟩,hw⟩
 dsimp only at k0 k1 hd hw ⊢
 rw[hi]
 refine T.cnd (λhg=>?_) (λhg=>?_)<;>simp only[bsX,eq_self]at hg
 .refine T.call (sf _ _ hd) (λw ⟨w0,w1⟩=>T.grd (by rw[jh];simp;omega) (T.go ⟨rfl,?_,?_,w1,rfl,⟨rfl,rfl,rfl,rfl⟩,kX hw w0⟩ ?_))
  all_goals dsimp only
  all_goals rw[dB (by omega) (by omega)]
  all_goals(try simp only[ak,bf,fF])
  all_goals omega
 .exact T.out ⟨EE.mk (.inr ⟨by omega,by omega⟩) (by omega) hw,hd⟩
theorem Rs{n:Nat}{x:DS6×Int×List Int×Int×List ByteArray×Unit}(h:SK x.1/\bZ x.2.2.1 x.2.2.2.1/\x.2.1<=3/\x.2.1<=n/\1<=n/\List.length (α:=ByteArray) x.2.2.2.2.1<=1000):T (eT (λself (x:DS6×Int×List Int×Int×List ByteArray×Unit)=>EU self x.1 x.2.1 x.2.2.1 x.2.2.2.1 x.2.2.2.2.1) n x) (λy:DS0×List Int×Int×List ByteArray×Unit=>WE (x.2.1.toNat+1) y.1/\bZ y.2.1 y.2.2.1/\y.2.2.2.1=x.2.2.2.2.1):=by
 refine T.iter (λn (x:DS6×Int×List Int×Int×List ByteArray×Unit)=>SK x.1/\bZ x.2.2.1 x.2.2.2.1/\x.2.1<=3/\x.2.1<=n/\1<=n/\List.length (α:=ByteArray) x.2.2.2.2.1<=1000) (λ_ x (y:DS0×List Int×Int×List ByteArray×Unit)=>WE (x.2.1.toNat+1) y.1/\bZ y.2.1 y.2.2.1/\y.2.2.2.1=x.2.2.2.2.1) (λn x h self hs=>?_) (λx h=>by have:=h.2.2.2.2.1;omega) n x h
 unfold EU
 obtain⟨hk,hd,h3,h4,h5,hn⟩:=h
 have hk2:SK (x.1.1,()):=hk
 repeat' (first|(refine T.call (gJ (by assumption) (by omega) (by omega)) (λ_ ⟨_,_,_⟩=>?_))|(refine T.call (Bq (by assumption) (by omega) (by omega) (by omega)) (λ_ ⟨_,_,_⟩=>?_))|(refine T.call (a6K _ _ hk (by assumption) hn) (λ_ ⟨k0,k1,k2⟩=>?_))|(refine T.call (hs (_,_,_,_,_,()) ⟨j4,j3,by dsimp only;simp(disch:=omega) only[j0,dB];omega,by dsimp only;simp(disch:=omega) only[j0,dB];omega,by omega,by rw[j6];exact hn⟩) (λ_ ⟨k0,k1,k2⟩=>?_))|(refine T.call (hs (_,_,_,_,_,()) ⟨hk,by assumption,by dsimp only;simp(disch:=omega) only[dB];omega,by dsimp only;simp(disch:=omega) only[dB];omega,by omega,hn⟩) (λ_ ⟨k0,k1,k2⟩=>?_))|(refine T.loop (λs=>s.1=x.2.1/\0<=s.2.1/\(List.length (α:=DS0) s.2.2.2.2.2.2.2.2.2.2.2.2.2.2.1:Int)+s.2.1<=3/\bZ s.2.2.1 s.2.2.2.1/\SK (s.2.2.2.2.2.1,())/\(∀q∈s.2.2.2.2.2.2.2.2.2.2.2.2.2.2.1,WE x.2.1.toNat q)/\s.2.2.2.2.1=x.2.2.2.2.1) (λs=>(s.2.1).toNat) ?_ (λs ⟨j0,j1,j2,j3,j4,j5,j6⟩=>?_))|(refine T.grd ?_ ?_)|(refine T.cnd (λhc=>?_) (λhc=>?_)<;>try simp only[bsX,eq_self]at hc)|(refine T.iD ?_)|(refine T.go ?_ ?_)|(refine T.out ?_)|(refine T.jgo ?_)|(refine T.pz ?_)|(refine T.sO ?_)|(refine T.ret ?_))
 all_goals(try dsimp only[LQ,JQ])
 all_goals(repeat' (with_reducible refine And.intro ?_ ?_))<;>first|trivial|assumption|omega|(first|(simp(disch:=omega) only[bsX,eq_self,arX];omega)|(simp(disch:=omega) only[bsX,eq_self,arX];done))|exact k0.to (by omega)|exact WE.to (k:=1) (WE.leaf (by simp)) (by omega)|exact λ_ hq=>absurd hq bY|exact hs2|(have e:x.2.1.toNat=(dz .i64 x.2.1 1).toNat+1:=(by rw[dB (by omega) (by omega)];omega);rw[e];exact WE.mk (by simp) (by simp) (λq hq=>by rw[aY.1 hq];exact k0))|exact WE.mk (by simp) (by omega) j5|(refine kX j5 ?_;have e:x.2.1.toNat=(dz .i64 s.1 1).toNat+1:=(by rw[j0,dB (by omega) (by omega)];omega);rw[e];exact k0)|exact dR.mpr ⟨Er (by assumption),rfl⟩|exact k2.trans j6|exact k2|(rw[k2];assumption)|(rw[k2];exact hn)
theorem a2Q{n:Nat}{x:DS6×Int×List Int×Int×Unit}(h:SK x.1/\bZ x.2.2.1 x.2.2.2.1/\x.2.1<=2/\x.2.1+1<=n/\1<=n):T (eT (λself (x:DS6×Int×List Int×Int×Unit)=>Mw self x.1 x.2.1 x.2.2.1 x.2.2.2.1) n x) (λy:List AV×List Int×Int×Unit=>WB (x.2.1.toNat+1) y.1/\bZ y.2.1 y.2.2.1):=by
 refine T.iter (λn (x:DS6×Int×List Int×Int×Unit)=>SK x.1/\bZ x.2.2.1 x.2.2.2.1/\x.2.1<=2/\x.2.1+1<=n/\1<=n) (λ_ x (y:List AV×List Int×Int×Unit)=>WB (x.2.1.toNat+1) y.1/\bZ y.2.1 y.2.2.1) (λn x h self hs=>?_) (λx h=>by have:=h.2.2.2.2;omega) n x h
 unfold Mw
 obtain⟨hk,hd,h3,h4,h5⟩:=h
 have hk2:SK (x.1.1,()):=hk
 repeat' (first|(refine T.call (gJ (by assumption) (by omega) (by omega)) (λ_ ⟨_,y0,y1⟩=>?_))|(refine T.call (Rt (n:=10000) (x:=(_,_,_,_,())) ⟨j4,by assumption,by dsimp only;omega,by dsimp only;omega,by omega⟩) (λ_ ⟨k0,k1⟩=>?_))|(refine T.call (hs (_,_,_,_,()) ⟨j4,by assumption,by dsimp only;simp(disch:=omega) only[j0,dB];omega,by dsimp only;simp(disch:=omega) only[j0,dB];omega,by omega⟩) (λ_ ⟨m0,m1⟩=>?_))|(refine T.loop (λs=>s.1=x.2.1/\0<=s.2.1/\(List.length (α:=DS7) s.2.2.2.2.2.1:Int)+s.2.1<=3/\bZ s.2.2.1 s.2.2.2.1/\SK (s.2.2.2.2.1,())/\(∀q∈s.2.2.2.2.2.1,WE 10 q.2.1/\WB x.2.1.toNat q.2.2.1)) (λs=>(s.2.1).toNat) ?_ (λs ⟨j0,j1,j2,j3,j4,j5⟩=>?_))|(refine T.grd ?_ ?_)|(refine T.cnd (λhc=>?_) (λhc=>?_)<;>try simp only[bsX,eq_self]at hc)|(refine T.iD ?_)|(refine T.go ?_ ?_)|(refine T.out ?_)|(refine T.jgo ?_)|(refine T.pz ?_)|(refine T.sO ?_)|(refine T.ret ?_))
 all_goals(try dsimp only[LQ,JQ])
 all_goals(repeat' (with_reducible refine And.intro ?_ ?_))<;>first|trivial|assumption|omega|(first|(simp(disch:=omega) only[bsX,eq_self,arX];omega)|(simp(disch:=omega) only[bsX,eq_self,arX];done))|exact λ_ hq=>absurd hq bY|exact WB.mk (by omega) j5|exact dR.mpr ⟨Er (by assumption),rfl⟩|(refine kX j5 ⟨WE.to (k:=3) k0.1 (by omega),?_⟩;have e:x.2.1.toNat=(dz .i64 s.1 1).toNat+1:=(by rw[j0,dB (by omega) (by omega)];omega);rw[e];exact m0)
theorem a2P{n:Nat}{x:DS6×Int×List Int×Int×List ByteArray×Unit}(h:SK x.1/\bZ x.2.2.1 x.2.2.2.1/\x.2.1<=2/\x.2.1+1<=n/\1<=n/\List.length (α:=ByteArray) x.2.2.2.2.1<=1000):T (eT (λself (x:DS6×Int×List Int×Int×List ByteArray×Unit)=>ET self x.1 x.2.1 x.2.2.1 x.2.2.2.1 x.2.2.2.2.1) n x) (λy:List AV×List Int×Int×List ByteArray×Unit=>WB (x.2.1.toNat+1) y.1/\bZ y.2.1 y.2.2.1/\y.2.2.2.1=x.2.2.2.2.1):=by
 refine T.iter (λn (x:DS6×Int×List Int×Int×List ByteArray×Unit)=>SK x.1/\bZ x.2.2.1 x.2.2.2.1/\x.2.1<=2/\x.2.1+1<=n/\1<=n/\List.length (α:=ByteArray) x.2.2.2.2.1<=1000) (λ_ x (y:List AV×List Int×Int×List ByteArray×Unit)=>WB (x.2.1.toNat+1) y.1/\bZ y.2.1 y.2.2.1/\y.2.2.2.1=x.2.2.2.2.1) (λn x h self hs=>?_) (λx h=>by have:=h.2.2.2.2.1;omega) n x h
 unfold ET
 obtain⟨hk,hd,h3,h4,h5,hn⟩:=h
 have hk2:SK (x.1.1,()):=hk
 repeat' (first|(refine T.call (gJ (by assumption) (by omega) (by omega)) (λ_ ⟨_,y0,y1⟩=>?_))|(refine T.call (Rs (n:=10000) (x:=(_,_,_,_,_,())) ⟨j4,by assumption,by dsimp only;omega,by dsimp only;omega,by omega,by rw[j6];exact hn⟩) (λ_ ⟨k0,k1,k2⟩=>?_))|(refine T.call (hs (_,_,_,_,_,()) ⟨j4,by assumption,by dsimp only;simp(disch:=omega) only[j0,dB];omega,by dsimp only;simp(disch:=omega) only[j0,dB];omega,by omega,by first|exact hn|(rw[j6];exact hn)|(rw[k2,j6];exact hn)|(dsimp only at k2 ⊢;rw[k2,j6];exact hn)⟩) (λ_ ⟨m0,m1,m2⟩=>?_))|(refine T.loop (λs=>s.1=x.2.1/\0<=s.2.1/\(List.length (α:=DS7) s.2.2.2.2.2.2.1:Int)+s.2.1<=3/\bZ s.2.2.1 s.2.2.2.1/\SK (s.2.2.2.2.2.1,())/\(∀q∈s.2.2.2.2.2.2.1,WE 10 q.2.1/\WB x.2.1.toNat q.2.2.1)/\s.2.2.2.2.1=x.2.2.2.2.1) (λs=>(s.2.1).toNat) ?_ (λs ⟨j0,j1,j2,j3,j4,j5,j6⟩=>?_))|(refine T.grd ?_ ?_)|(refine T.cnd (λhc=>?_) (λhc=>?_)<;>try simp only[bsX,eq_self]at hc)|(refine T.iD ?_)|(refine T.go ?_ ?_)|(refine T.out ?_)|(refine T.jgo ?_)|(refine T.pz ?_)|(refine T.sO ?_)|(refine T.ret ?_))
 all_goals(try dsimp only[LQ,JQ])
 all_goals(repeat' (with_reducible refine And.intro ?_ ?_))<;>first|trivial|assumption|omega|(first|(simp(disch:=omega) only[bsX,eq_self,arX];omega)|(simp(disch:=omega) only[bsX,eq_self,arX];done))|exact λ_ hq=>absurd hq bY|exact WB.mk (by omega) j5|exact dR.mpr ⟨Er (by assumption),rfl⟩|(refine kX j5 ⟨WE.to (k:=3) k0 (by omega),?_⟩;have e:x.2.1.toNat=(dz .i64 s.1 1).toNat+1:=(by rw[j0,dB (by omega) (by omega)];omega);rw[e];exact m0)|exact m2.trans (k2.trans j6)|exact j6|exact dR.mpr ⟨Er m2,rfl⟩|exact dR.mpr ⟨Er k2,rfl⟩
theorem b4J{L:List Int}{a:Int}(s:DS6)(d:Int)(hs:SK s)(h:bZ L a)(h3:d<=3):T (OQ s d L a) (λy=>(WE 10 y.1/\jf y.1=true)/\bZ y.2.1 y.2.2.1) :=
 (Rt (n:=10000) (x:=(s,d,L,a,())) ⟨hs,h,h3,by dsimp only;omega,by omega⟩).mono λy q=>⟨⟨q.1.1.to (by dsimp only;omega),q.1.s (by dsimp only;omega)⟩,q.2⟩
theorem b4I{L:List Int}{a:Int}(s:DS6)(d:Int)(l:List ByteArray)(hs:SK s)(h:bZ L a)(h3:d<=3)(hn:l.length<=1000):T (DU s d L a l) (λy=>WE 10 y.1/\bZ y.2.1 y.2.2.1/\y.2.2.2.1=l) :=
 (Rs (n:=10000) (x:=(s,d,L,a,l,())) ⟨hs,h,h3,by dsimp only;omega,by omega,hn⟩).mono λy q=>⟨q.1.to (by dsimp only;omega),q.2⟩
theorem b4V{L:List Int}{a:Int}(s:DS6)(d:Int)(hs:SK s)(h:bZ L a)(h3:d<=2):T (UA s d L a) (λy=>WB 10 y.1/\bZ y.2.1 y.2.2.1) :=
 (a2Q (n:=10000) (x:=(s,d,L,a,())) ⟨hs,h,h3,by dsimp only;omega,by omega⟩).mono λy q=>⟨q.1.to (by dsimp only;omega),q.2⟩
theorem b4U{L:List Int}{a:Int}(s:DS6)(d:Int)(l:List ByteArray)(hs:SK s)(h:bZ L a)(h3:d<=2)(hn:l.length<=1000):T (Iw s d L a l) (λy=>WB 10 y.1/\bZ y.2.1 y.2.2.1/\y.2.2.2.1=l) :=
 (a2P (n:=10000) (x:=(s,d,L,a,l,())) ⟨hs,h,h3,by dsimp only;omega,by omega,hn⟩).mono λy q=>⟨q.1.to (by dsimp only;omega),q.2⟩
attribute [local irreducible] OQ DU UA Iw
theorem QZ(k:Int):ig k<=1073741824:=by
 unfold ig
 cases iEq k 5<;>cases iEq k 6<;>cases iEq k 7<;>cases iEq k 10<;>cases iEq k 8<;>decide
theorem YL{L:List Int}{a:Int}(s:DS6)(k:Int)(p:ByteArray)(hs:SK s)(h:bZ L a):T (m85 s k p L a) (λy=>WC y.1/\bZ y.2.1 y.2.2.1/\y.1.1=k/\y.1.2.1=p/\jf y.1.2.2.1=true/\(k=2->y.1.2.2.2.1=[]/\y.1.2.2.2.2.1=0)):=by
 unfold m85
 obtain⟨s5,⟨⟩⟩:=s
 have hm0:=JL k
 have hm1:=QZ k
 have up:∀{L:List Int} {a:Int},bZ L a->iLt 0 (ig k)=true->T (DT (dz .i64 (ig k) 1) L a) (λy=>bZ y.2.1 y.2.2.1/\0<=y.1/\y.1<=dz .i64 (ig k) 1):=λhd hm=>by
  rw[bQ]at hm
  exact Wm hd (by rw[dB (by omega) (by omega)];omega) (by rw[dB (by omega) (by omega)];omega)
 refine T.call (b4J (s5,()) _ hs h (by omega)) (λu ⟨⟨k0,ks⟩,k1⟩=>T.cnd (λhc=>?_) (λhc=>?_))<;>simp only[bsX,eq_self]at hc
 .exact T.call (b4V _ _ hs k1 (by omega)) (λv ⟨m0,m1⟩=>T.aU (Bt k) (T.cnd (λhm=>T.call (up m1 hm) (λw ⟨w0,_,_⟩=>T.ret ⟨⟨k0,m0⟩,w0,rfl,rfl,ks,λq=>absurd hc (by omega)⟩)) (λ_=>T.ret ⟨⟨k0,m0⟩,m1,rfl,rfl,ks,λq=>absurd hc (by omega)⟩)))
 .have wn:WB 10 ([]:List AV):=WB.to (k:=1) (WB.mk (l:=[]) (by simp) (λ_ hq=>absurd hq bY)) (by omega)
  exact T.aU (Bt k) (T.cnd (λhm=>T.call (up k1 hm) (λw ⟨w0,_,_⟩=>T.ret ⟨⟨k0,wn⟩,w0,rfl,rfl,ks,λq=>by subst q;exact absurd hm (by decide)⟩)) (λ_=>T.ret ⟨⟨k0,wn⟩,k1,rfl,rfl,ks,λ_=>⟨rfl,rfl⟩⟩))
theorem YK{L:List Int}{a:Int}(s:DS6)(k:Int)(p:ByteArray)(l:List ByteArray)(hn:l.length<=1000)(hs:SK s)(h:bZ L a):T (Ir s k p L a l) (λy=>WC y.1/\bZ y.2.1 y.2.2.1/\y.2.2.2.1=l):=by
 unfold Ir
 repeat' (first|(refine T.call (b4I _ _ _ hs h (by omega) hn) (λu ⟨k0,k1,k2⟩=>?_))|(refine T.call (b4U _ _ _ hs k1 (by omega) (by rw[k2];exact hn)) (λv ⟨m0,m1,m2⟩=>?_))|(refine T.call (Wm (by assumption) (by simp(disch:=omega) only[dB];omega) (by simp(disch:=omega) only[dB];omega)) (λ_ ⟨_,_,_⟩=>?_))|(refine T.call (b0K _) (λ_ ⟨_,_⟩=>?_))|(refine T.grd ?_ ?_)|(refine T.cnd (λhc=>?_) (λhc=>?_)<;>try simp only[bsX,eq_self]at hc)|(refine T.iD ?_)|(refine T.go ?_ ?_)|(refine T.out ?_)|(refine T.jgo ?_)|(refine T.pz ?_)|(refine T.sO ?_)|(refine T.ret ?_))
 all_goals(try dsimp only[LQ,JQ])
 all_goals(repeat' (with_reducible refine And.intro ?_ ?_))<;>first|trivial|assumption|omega|exact⟨k0,m0⟩|exact⟨k0,WB.to (k:=1) (WB.mk (l:=[]) (by simp) (λ_ hq=>absurd hq bY)) (by omega)⟩|exact m2.trans k2|exact k2|exact dR.mpr ⟨Er m2,rfl⟩|exact dR.mpr ⟨Er k2,rfl⟩|(first|(simp(disch:=omega) only[bsX,eq_self,arX];omega)|(simp(disch:=omega) only[bsX,eq_self,arX];done))
end
section
theorem Qd(l:List Int):(bsI l).size=l.length:=by simp[bsI,ByteArray.size]
theorem Dp(a b:ByteArray):(dx a b).size=a.size+b.size:=by simp[dx]
theorem Ga{a b:ByteArray}(ha:a.size<=2000)(hb:b.size<=2000):iK a b=true:=by unfold iK;exact bX (by omega)
theorem Lg(p:ByteArray)(k:Int)(h:p.size<=1000):T (m86 p k) (λ_=>True):=by
 unfold m86
 exact T.grd rfl (T.grd rfl (T.grd rfl (T.grd (Ga (by omega) (by rw[Qd];simp)) (T.ret trivial))))
attribute [local irreducible] m89 m50 m85 Ir
theorem VL.all{l:List DS1}(h:VL l):∀c∈l,iH c=true:=λc hc=>by
 obtain⟨k,h0,h1,rfl⟩:=Es (z:=zS1) hc
 exact(h k h0 h1).1
theorem VL.one{c:DS1}(h:iH c=true):VL [c]:=λk h0 h1=>by
 obtain rfl:k=0:=by simp at h1;omega
 exact⟨h,λj j0 j1=>by omega⟩
theorem RA{c:DS1}(h1:c.1=2)(h2:eH c.2.1=true)(h3:jf c.2.2.1=true)(h4:c.2.2.2.1=[]/\c.2.2.2.2.1=0):iH c=true:=by
 unfold iH
 rw[h1,h2,h3,h4.1,h4.2];rfl
theorem a6g:jf (1,bs [],([]:List ByteArray),0,0,([]:List AV),())=true:=(show EE 1 _ from EE.leaf (by show(_:Bool)=true;kernel_rfl) rfl (by simp)).s (by omega)
theorem FN{L:List Int}{a:Int}(s:DS6)(n:Int)(p:ByteArray)(hs:SK s)(h:bZ L a)(n0:0<=n)(n1:n<=6)(hp:p.size<=1000)(hq:(m86 p 0).elim false (λy=>eH y.1)=true):T (m48 s n p L a) (λy=>bZ y.1 y.2.1/\CW 7 y.2.2.1/\1<=List.length y.2.2.1/\VL y.2.2.1):=by
 unfold m48
 obtain⟨u,hu,_⟩:=Lg p 0 hp
 rw[hu]at hq
 have hq:eH u.1=true:=hq
 refine T.aU hu (T.call (YL _ _ _ hs h) (λv ⟨v0,v1,w1,w2,w3,w4⟩=>?_))
 have w4:=w4 rfl
 refine T.join (λj=>n=j.1/\p=j.2.1/\bZ j.2.2.1 j.2.2.2.1/\SK (j.2.2.2.2.1,())/\List.length j.2.2.2.2.2.1=1/\(∀c∈j.2.2.2.2.2.1,WC c)/\VL j.2.2.2.2.2.1) ?_ (λj hj=>?_)
 .refine T.call (gJ v1 (by omega) (by omega)) (λw ⟨w0,_,_⟩=>T.cnd (λ_=>T.grd rfl (T.grd rfl (T.jgo ⟨rfl,rfl,w0,hs,rfl,λc hc=>?_,?_⟩))) (λ_=>T.jgo ⟨rfl,rfl,w0,hs,rfl,λc hc=>?_,VL.one (RA w1 (by rw[w2];exact hq) w3 w4)⟩))
  .rw[aY.1 hc];exact⟨WE.to (k:=1) (WE.leaf (by simp)) (by omega),v0.2⟩
  .exact VL.one (c:=(v.1.1,v.1.2.1,(1,bs [],([]:List ByteArray),0,0,([]:List AV),()),v.1.2.2.2.1,v.1.2.2.2.2.1,())) (RA w1 (show eH v.1.2.1=true by rw[w2];exact hq) a6g w4)
  .rw[aY.1 hc];exact v0
 obtain⟨_,_,L,a,s5,l,⟨⟩⟩:=j
 obtain⟨rfl,rfl,hd,hk,hl,hw,hv⟩:=hj
 dsimp only at hd hk hl hw hv ⊢
 refine T.loop (λs=>n=s.1/\p=s.2.1/\(1<=s.2.2.1/\s.2.2.1<=n+1)/\bZ s.2.2.2.1 s.2.2.2.2.1/\s5=s.2.2.2.2.2.1/\(List.length (α:=ByteArray) s.2.2.2.2.2.2.1:Int)<=s.2.2.1/\(1<=List.length (α:=DS1) s.2.2.2.2.2.2.2.1/\(List.length (α:=DS1) s.2.2.2.2.2.2.2.1:Int)<=s.2.2.1)/\(∀c∈s.2.2.2.2.2.2.2.1,WC c)/\VL s.2.2.2.2.2.2.2.1) (λs=>(n+1-s.2.2.1).toNat) ⟨rfl,rfl,⟨by simp,by dsimp only;omega⟩,hd,rfl,by simp,⟨by dsimp only;omega,by dsimp only;omega⟩,hw,hv⟩ ?_
 clear hv hw hl hd
 rintro⟨_,_,k,L,a,_,nm,l,⟨⟩⟩ ⟨rfl,rfl,⟨k0,k1⟩,hd,rfl,hn,⟨l0,l1⟩,hw,hv⟩
 dsimp only at k0 k1 hd hn l0 l1 hw hv ⊢
 refine T.cnd (λhc=>?_) (λhc=>T.out ⟨hd,⟨by dsimp only;omega,hw⟩,l0,hv⟩)
 simp only[bsX,eq_self]at hc
 refine T.aU (show m87 _ _=some _ from rfl) (T.cnd (λ_=>?_) (λ_=>T.out ⟨hd,⟨by dsimp only;omega,hw⟩,l0,hv⟩))
 refine T.call (Bq hd (by omega) (by omega) (by omega)) (λx ⟨x0,_,_⟩=>T.call (Lg _ _ hp) (λy _=>T.call (YK _ _ _ _ (by omega) hk x0) (λz ⟨z0,z1,z2⟩=>?_)))
 have hcb:CB (([]++l)++[z.1]):=⟨by simp;omega,kX hw z0⟩
 have hz:(List.length (α:=ByteArray) z.2.2.2.1:Int)<=k:=by rw[z2];exact hn
 refine T.grd (dR.mpr ⟨Er z2,rfl⟩) (T.grd (by rw[jh];simp;omega) (T.grd (by rw[jh];simp;omega) (T.call (LJ _ _ hk.sb hcb) (λe he=>T.cnd (λ_=>T.go ⟨rfl,rfl,⟨?_,?_⟩,z1,rfl,?_,⟨l0,?_⟩,hw,hv⟩ ?_) (λhne=>T.cnd (λ_=>T.grd (by rw[jh];simp;omega) (T.go ⟨rfl,rfl,⟨?_,?_⟩,z1,rfl,?_,⟨?_,?_⟩,kX hw z0,he (yh.mp hne)⟩ ?_)) (λ_=>T.go ⟨rfl,rfl,⟨?_,?_⟩,z1,rfl,?_,⟨?_,?_⟩,kX hw z0,he (yh.mp hne)⟩ ?_))))))
 all_goals dsimp only
 all_goals(try rw[bC (by omega) (by omega)])
 all_goals(try simp only[ak,bf,fF])
 all_goals omega
end
section
attribute [local irreducible] m48 m50
theorem YB{f t:Int}{rm:List ByteArray}{xc:List DS1}(h1:zN (f,t,())=true)(h2:rm.length<=40)(h3:∀w∈rm,eH w=true)(h4:rm.Nodup)(h5:xc.length<=40)(h6:∀c∈xc,iH c=true):oD ((f,t,()),rm,xc,())=true:=by
 unfold oD lM
 dsimp only
 rw[h1,bX h2,aG.2 h3,IZ.mpr h4,bX h5,aG.2 h6];rfl
def RM(cl:List DS1)(i:Int)(rm:List ByteArray):Prop:=rm.Nodup/\∀w∈rm,∃j,0<=j/\j<i/\w=(atI cl j zS1).2.1
theorem RM.up{cl:List DS1}{i:Int}{rm:List ByteArray}(h:RM cl i rm):RM cl (i+1) rm:=⟨h.1,λw hw=>by
 obtain⟨j,j0,j1,e⟩:=h.2 w hw
 exact⟨j,j0,by omega,e⟩⟩
theorem RM.add{cl:List DS1}{i:Int}{rm:List ByteArray}(h:RM cl i rm)(hv:VL cl)(h0:0<=i)(h1:i<(cl.length:Int)):RM cl (i+1) (rm++[(atI cl i zS1).2.1]):=by
 refine⟨?_,kX h.up.2 ⟨i,h0,by omega,rfl⟩⟩
 refine nC.2 ⟨h.1,by simp,λw hw v hv2 e=>?_⟩
 rw[aY]at hv2
 obtain⟨j,j0,j1,e2⟩:=h.2 w hw
 exact(hv i h0 h1).2 j j0 j1 (by rw[<- e2,e,hv2])
theorem YJ{c:DS1}(h:iH c=true):eH c.2.1=true:=(dR.mp (dR.mp h).2).1
theorem RM.nm{cl:List DS1}{i:Int}{rm:List ByteArray}(h:RM cl i rm)(hv:VL cl)(h1:i<=(cl.length:Int)):∀w∈rm,eH w=true:=λw hw=>by
 obtain⟨j,j0,j1,rfl⟩:=h.2 w hw
 exact YJ (hv j j0 (by omega)).1
theorem Qn{L:List Int}{a:Int}(s:DS6)(b:Bool)(hs:SK s)(h:bZ L a):T (m22 s 6 b L a) (λy=>(CW 7 y.2.2.1/\1<=List.length y.2.2.1/\VL y.2.2.1)/\List.length (α:=DS3) y.2.2.2.1<=2/\∀x∈y.2.2.2.1,EW x/\oD x=true):=by
 unfold m22
 refine T.call (FN _ _ _ hs h (by omega) (by omega) (by decide) (by kernel_rfl)) (λu ⟨u0,u1,u2,u3⟩=>T.call (gJ u0 (by omega) (by omega)) (λv ⟨v0,v1,v2⟩=>?_))
 obtain⟨s5,⟨⟩⟩:=s
 refine T.loop (λs=>(0<=s.2.1/\s.2.1<=2)/\bZ s.2.2.1 s.2.2.2.1/\s5=s.2.2.2.2.1/\CW 7 s.2.2.2.2.2.1/\(1<=List.length (α:=DS1) s.2.2.2.2.2.1/\VL s.2.2.2.2.2.1)/\(List.length (α:=DS3) s.2.2.2.2.2.2.1:Int)+s.2.1<=2/\∀x∈s.2.2.2.2.2.2.1,EW x/\oD x=true) (λs=>s.2.1.toNat) ⟨⟨v1,by dsimp only;omega⟩,v0,rfl,u1,⟨u2,u3⟩,by simp;omega,λx hx=>absurd hx bY⟩ ?_
 rintro⟨b,k,L,a,_,cl,en,⟨⟩⟩ ⟨⟨k0,k1⟩,hd,rfl,hc,⟨hl,hv⟩,he,hw⟩
 dsimp only at k0 k1 hd hc hl hv he hw ⊢
 refine T.cnd (λhg=>?_) (λ_=>T.out ⟨⟨hc,hl,hv⟩,by dsimp only;omega,hw⟩)
 simp only[bsX,eq_self]at hg
 refine T.call (a1b hd) (λp ⟨hp,hp0⟩=>T.cnd (λ_=>T.go ⟨⟨?_,?_⟩,hp,rfl,hc,⟨hl,hv⟩,?_,hw⟩ ?_) (λhf=>?_))
 .dsimp only;rw[dB (by omega) (by omega)];omega
 .dsimp only;rw[dB (by omega) (by omega)];omega
 .dsimp only;rw[dB (by omega) (by omega)];omega
 .dsimp only;rw[dB (by omega) (by omega)];omega
 have b8t:zN (p.1,jC p.2.1 876599,())=true:=by
  simp only[bsX,eq_self]at hf
  unfold jC at *
  unfold zN
  dsimp only
  rw[gG.mpr hp0,bQ.mpr hf,gG.mpr (show min p.2.1 876599<=876600 by omega),gG.mpr (show min p.2.1 876599<=876599 by omega)];rfl
 have hq2:(m86 (dx (dx (bs [101]) (bsI ([IntKind.wrap .u8 (aN .i64 48 k)]:List Int))) (bs [45])) 0).elim false (λy=>eH y.1)=true:=by
  have:k=1\/k=2:=by omega
  rcases this with rfl|rfl<;>(show((_:Bool)=true))<;>kernel_rfl
 have h1:∀z:Int,(bsI [z]).size=1:=λz=>Qd [z]
 have h2:ByteArray.size (bs [101])=1:=rfl
 have h3:ByteArray.size (bs [45])=1:=rfl
 refine T.grd (Ga (by omega) (by rw[h1];omega)) (T.grd (Ga (by rw[Dp,h1];omega) (by omega)) ?_)
 refine T.call (FN _ _ _ hs hp (by omega) (by omega) (by rw[Dp,Dp,h1];omega) hq2) (λu ⟨u0,u1,u2,u3⟩=>?_)
 refine T.loop (λq=>k=q.2.1/\0<=q.2.2.1/\bZ q.2.2.2.1 q.2.2.2.2.1/\s5=q.2.2.2.2.2.1/\cl=q.2.2.2.2.2.2.2.2.1/\en=q.2.2.2.2.2.2.2.2.2.1/\(List.length (α:=ByteArray) q.2.2.2.2.2.2.2.2.2.2.1:Int)<=q.2.2.1/\(q.2.2.1<=7/\q.2.2.1<=(List.length cl:Int))/\CW 7 q.2.2.2.2.2.2.2.2.2.2.2.1/\(∀c∈q.2.2.2.2.2.2.2.2.2.2.2.1,iH c=true)/\RM cl q.2.2.1 q.2.2.2.2.2.2.2.2.2.2.1/\zN (q.2.2.2.2.2.2.1,q.2.2.2.2.2.2.2.1,())=true) (λq=>((List.length cl:Int)-q.2.2.1).toNat) ⟨rfl,by simp,u0,rfl,rfl,rfl,by simp,⟨by simp,by dsimp only;omega⟩,u1,u3.all,⟨tX,λw hw=>absurd hw bY⟩,b8t⟩ ?_
 have hc7:=hc.1
 rintro⟨b,_,i,L,a,_,f,t,_,_,rm,xc,⟨⟩⟩ ⟨rfl,i0,hd,rfl,rfl,rfl,i1,⟨i2,i3⟩,hx,hy,hr,hp2⟩
 dsimp only at i0 hd i1 i2 i3 hx hy hr hp2 ⊢
 refine T.cnd (λhi=>?_) (λhi=>?_)<;>simp only[bsX,eq_self]at hi
 .have hn:i.toNat<cl.length:=by omega
  have ea:aN .i64 i 1=i+1:=bC (by omega) (by omega)
  refine T.call (gJ hd (by omega) (by omega)) (λv ⟨v0,_,_⟩=>T.cnd (λ_=>T.grd (by rw[bV,aX];omega) (T.grd (by rw[tO];exact hn) (T.grd (by rw[jh];simp;omega) (T.go ⟨rfl,?_,v0,rfl,rfl,rfl,?_,⟨?_,?_⟩,hx,hy,ea.symm▸hr.add hv i0 hi,hp2⟩ ?_)))) (λ_=>T.go ⟨rfl,?_,v0,rfl,rfl,rfl,?_,⟨?_,?_⟩,hx,hy,ea.symm▸hr.up,hp2⟩ ?_))
  all_goals dsimp only
  all_goals rw[bC (by omega) (by omega)]
  all_goals(try simp only[ak,bf,fF])
  all_goals omega
 refine T.map (T.call (gJ hd (by omega) (by omega)) (λv ⟨v0,_,_⟩=>?_))
 have fin:∀(j:Bool×Int×List Int×Int×List DS5×Int×Int×List ByteArray×List DS1×List DS1×List DS3×Unit),(k=j.2.1/\bZ j.2.2.1 j.2.2.2.1/\s5=j.2.2.2.2.1/\oD ((j.2.2.2.2.2.1,j.2.2.2.2.2.2.1,()),j.2.2.2.2.2.2.2.1,j.2.2.2.2.2.2.2.2.1,())=true/\List.length (α:=ByteArray) j.2.2.2.2.2.2.2.1<=1000/\CW 7 j.2.2.2.2.2.2.2.2.1/\cl=j.2.2.2.2.2.2.2.2.2.1/\en=j.2.2.2.2.2.2.2.2.2.2.1)->T (cond (fits (List.length ([]:List DS3)+List.length j.2.2.2.2.2.2.2.2.2.2.1) 64)  (cond (fits (List.length (([]:List DS3)++j.2.2.2.2.2.2.2.2.2.2.1)+List.length ([((j.2.2.2.2.2.1,j.2.2.2.2.2.2.1,()),j.2.2.2.2.2.2.2.1,j.2.2.2.2.2.2.2.2.1,())]:List DS3)) 64)  ((m50 (j.2.2.2.2.1,()) (j.2.2.2.2.2.2.2.2.2.1,(([]:List DS3)++j.2.2.2.2.2.2.2.2.2.2.1)++([((j.2.2.2.2.2.1,j.2.2.2.2.2.2.1,()),j.2.2.2.2.2.2.2.1,j.2.2.2.2.2.2.2.2.1,())]:List DS3),())).bind λb5U=> cond (cond (iEq b5U.2.2.1 0) true (not j.1))  (some (.inl (j.1,dz .i64 j.2.1 1,j.2.2.1,j.2.2.2.1,j.2.2.2.2.1,j.2.2.2.2.2.2.2.2.2.1,(([]:List DS3)++j.2.2.2.2.2.2.2.2.2.2.1)++([((j.2.2.2.2.2.1,j.2.2.2.2.2.2.1,()),j.2.2.2.2.2.2.2.1,j.2.2.2.2.2.2.2.2.1,())]:List DS3),())))  (some (.inl (j.1,dz .i64 j.2.1 1,j.2.2.1,j.2.2.2.1,j.2.2.2.2.1,j.2.2.2.2.2.2.2.2.2.1,j.2.2.2.2.2.2.2.2.2.2.1,())))) none) none) (LQ (λs=>(0<=s.2.1/\s.2.1<=2)/\bZ s.2.2.1 s.2.2.2.1/\s5=s.2.2.2.2.1/\CW 7 s.2.2.2.2.2.1/\(1<=List.length (α:=DS1) s.2.2.2.2.2.1/\VL s.2.2.2.2.2.1)/\(List.length (α:=DS3) s.2.2.2.2.2.2.1:Int)+s.2.1<=2/\∀x∈s.2.2.2.2.2.2.1,EW x/\oD x=true) (λs=>s.2.1.toNat) k.toNat (fun(y:List Int×Int×List DS1×List DS3×Unit)=>(CW 7 y.2.2.1/\1<=List.length y.2.2.1/\VL y.2.2.1)/\List.length (α:=DS3) y.2.2.2.1<=2/\∀x∈y.2.2.2.1,EW x/\oD x=true)):=by
  rintro⟨b,_,L,a,_,f,t,rm,xc,_,_,⟨⟩⟩ ⟨rfl,d,rfl,hz,r,x,rfl,rfl⟩
  dsimp only at d hz r x ⊢
  have hE:∀e∈([]++en)++[((f,t,()),rm,xc,())],EW e/\oD e=true:=kX hw ⟨⟨r,by have:=x.1;dsimp only;omega,x.2⟩,hz⟩
  refine T.grd (by rw[jh];simp;omega) (T.grd (by rw[jh];simp;omega) (T.call (a6w _ (cl,_,()) hs.sb ⟨⟨by dsimp only;omega,hc.2⟩,by simp;omega,λe he=>(hE e he).1⟩) (λ_ _=>T.cnd (λ_=>T.go ⟨⟨?_,?_⟩,d,rfl,hc,⟨hl,hv⟩,?_,hE⟩ ?_) (λ_=>T.go ⟨⟨?_,?_⟩,d,rfl,hc,⟨hl,hv⟩,?_,hw⟩ ?_))))
  all_goals dsimp only
  all_goals rw[dB (by omega) (by omega)]
  all_goals(try simp only[ak,bf,fF])
  all_goals omega
 refine T.cnd (λ_=>T.grd (by rw[bV,aX];omega) (T.grd (by rw[tO];simp;omega) (T.grd (by rw[jh];simp) (T.join _ (T.jgo ⟨rfl,v0,rfl,YB hp2 (by dsimp only;omega) (hr.nm hv (by omega)) hr.1 (by simp) (kX (λx hx=>absurd hx bY) (hv 0 (by omega) (by omega)).1),?_,⟨by simp,?_⟩,rfl,rfl⟩) fin)))) (λ_=>T.join _ (T.jgo ⟨rfl,v0,rfl,YB hp2 (by dsimp only;omega) (hr.nm hv (by omega)) hr.1 (by have:=hx.1;dsimp only;omega) hy,?_,hx,rfl,rfl⟩) fin)
 .dsimp only;omega
 .exact kX (λx hx=>absurd hx bY) (hc.2 _ (GA _ (by simp;omega)))
 .dsimp only;omega
end
theorem mx(n:Nat)(h:n<=maxLen):n<=9223372036854775807:=h
theorem b4X:∀(n:Nat) (xs:List AV),ZN n 34 6 (.list 6 xs)->xs.length<=9223372036854775807/\∀a∈xs,qj a=true/\XE n (aV a):=by
 intro n
 induction n using Nat.strongRecOn with
 |ind n ih =>
  intro xs h
  obtain⟨T,hT,_,ys,rfl,hl,hy⟩:=VQ h
  obtain rfl:tyE=T:=aJ hT
  refine⟨hl,λa ha=>?_⟩
  obtain⟨y,hm,rfl⟩:=bT.1 ha
  obtain⟨m,hmn,hz⟩:=hy y hm
  obtain⟨_,_,hw,_,_,hr,_⟩:=hz
  obtain⟨r1,r2⟩:=ih m hmn _ hr
  refine⟨ok0 y,?_⟩
  have e:XE (m+1) y:=⟨hw.1,r1,r2⟩
  have e:=e.up (n-(m+1))
  rw[show m+1+(n-(m+1))=n by omega]at e
  exact Eq.mpr (dO (XE n) (PZ y)) e
theorem a4p{Z:Nat->Nat->AV->Prop}(hZ:∀ty sz a,Z ty sz a->∃n,ZN n ty sz a)(e:DS0)(h:OkZ Z tS0 e):XX e:=by
 obtain⟨_,_,hw,_,_,hr,_⟩:=h
 obtain⟨n,hn⟩:=hZ _ _ _ hr
 obtain⟨r1,r2⟩:=b4X n _ hn
 exact⟨n+1,hw.1,r1,r2⟩
theorem b4Y:∀(n:Nat) (xs:List AV),ZN n 63 8 (.list 8 xs)->xs.length<=9223372036854775807/\∀a∈xs,mY a=true/\XX (bG a).2.1/\XB n (bG a).2.2.1:=by
 intro n
 induction n using Nat.strongRecOn with
 |ind n ih =>
  intro xs h
  obtain⟨T,hT,_,ys,rfl,hl,hy⟩:=VQ h
  obtain rfl:tyW=T:=aJ hT
  refine⟨hl,λa ha=>?_⟩
  obtain⟨y,hm,rfl⟩:=bT.1 ha
  obtain⟨m,hmn,hz⟩:=hy y hm
  obtain⟨_,he,hr,_⟩:=hz
  obtain⟨r1,r2⟩:=ih m hmn _ hr
  refine⟨ok7 y,?_⟩
  have e:XB (m+1) y.2.2.1:=⟨r1,r2⟩
  have e:=e.up (n-(m+1))
  rw[show m+1+(n-(m+1))=n by omega]at e
  exact Eq.mpr (dO (λz:DS7=>XX z.2.1/\XB n z.2.2.1) (a2G y)) ⟨a4p (λ_ _ _ q=>⟨m,q⟩) y.2.1 he,e⟩
theorem VI(c:DS1)(h:OkT tS1 c):XCl c:=by
 obtain⟨_,_,he,hr,_,_⟩:=h
 obtain⟨n,hn⟩:=hr
 exact⟨a4p (λ_ _ _ q=>q) c.2.2.1 he,n+1,b4Y n _ hn⟩
theorem b4W(w:DS4)(h:OkT tS4 w):XW w:=by
 obtain⟨h1,h2,_⟩:=h
 refine⟨λc hc=>VI c (h1.2 c hc),λx hx=>?_⟩
 obtain⟨_,h3,h4,_⟩:=h2.2 x hx
 exact⟨h3.1,λc hc=>VI c (h4.2 c hc)⟩
theorem b0M(L:List Int)(h:L.length<=9223372036854775807):T (m10 L) (λy=>WW y.1/\1<=List.length (α:=DS1) y.1.1/\kL y.1=true):=by
 unfold m10
 have hd:bZ L 0:=⟨h,mK _⟩
 refine T.aU (show m14 L=some _ from rfl) (T.call (gJ hd (by omega) (by omega)) (λu ⟨u0,_,_⟩=>T.call (b03 _) (λs hs=>T.call (Qn _ _ hs u0) (λy ⟨⟨h1,h2,h3⟩,h4,h5⟩=>T.ret ⟨⟨⟨by have:=h1.1;dsimp only;omega,h1.2⟩,by dsimp only;omega,λx hx=>(h5 x hx).1⟩,h2,?_⟩))))
 unfold kL lM
 dsimp only
 rw[bX (by omega),bX (by have:=h1.1;omega),aG.2 h3.all,aG.2 λx hx=>(h5 x hx).2];rfl
theorem XX.leaf{a:Int}{b:ByteArray}:XX (a,b,([]:List ByteArray),0,0,([]:List AV),()):=⟨1,(WE.leaf (by simp)).x.1⟩
theorem BB.add{l:List AV}(h:WB 10 l){x:DS7}(hx:XX x.2.1)(hu:x.2.2.1=[]):BB (Fj (([]++yw l)++[x])):=by
 have hl:=(h.x:XB 10 l).up 0
 refine⟨10,?_,λa ha=>?_⟩
 .have hz:(yw l).length=l.length:=bN _
  have hq:List.length (α:=DS7) (([]++yw l)++[x])=l.length+1:=by rw[fq,ak,hz];rfl
  have:List.length (Fj (([]++yw l)++[x]))=l.length+1:=(bN _).trans hq
  have:=h.1;omega
 .obtain⟨y,hy,rfl⟩:=bT.1 ha
  refine⟨ok7 y,Eq.mpr (dO (λz:DS7=>XX z.2.1/\XB 9 z.2.2.1) (a2G y)) ?_⟩
  rcases aH.1 hy with q|q
  .rw[fq]at q
   obtain⟨b,hb,rfl⟩:=bT.1 q
   exact⟨⟨10,(h.2 b hb).2.1.x.1⟩,(h.2 b hb).2.2.x⟩
  .rw[aY.1 q]
   exact⟨hx,by rw[hu];exact⟨by simp,λa ha=>absurd ha bY⟩⟩
theorem b3S{l:List AV}(h:∀a∈l,mY a=true):a3F l=true:=aG.2 h
theorem a3j{l:List DS1}{c:DS1}{k:Nat}(h:∀c∈l,XCl c)(hc:XCl c):∀d∈l.set k c,XCl d:=λd hd=>by
 rcases rU hd with q|q
 .exact h d q
 .rw[q];exact hc
theorem a0H(a:DS4)(c:DS1)(L:List Int)(h:WW a)(h1:1<=List.length (α:=DS1) a.1)(hc:XCl c)(hd:bZ L 0):T (m13 a c L 0) (λy=>XW y.1):=by
 obtain⟨l,en,⟨⟩⟩:=a
 obtain⟨⟨w1,w2⟩,w3,w4⟩:=h
 dsimp only at h1 w1 w2 w3 w4
 have hx:XW (l,en,()):=WW.x ⟨⟨w1,w2⟩,w3,w4⟩
 unfold m13
 dsimp only
 rw[fq]
 have hl:=aX l
 refine T.grd (by rw[jh];simp;omega) (T.call (gJ hd (by omega) (by omega)) (λu ⟨u0,u1,u2⟩=>?_))
 have g1:bnd u.1 (aD l)=true:=by rw[bV];omega
 have g2:inB (Int.toNat u.1) l=true:=by rw[tO];omega
 have hw:=w2 _ (GA (n:=u.1.toNat) zS1 (by omega))
 generalize List.getD l u.1.toNat zS1=x at hw ⊢
 obtain⟨x1,x2,x3,x4,x5,⟨⟩⟩:=x
 obtain⟨x6,x7⟩:=hw
 dsimp only at x6 x7 ⊢
 have hX:XX x3:=⟨10,x6.x.1⟩
 have hB:BB x4:=⟨10,x7.x⟩
 have fin:∀{d:DS1} {z1:List Int} {z2:Int},XCl d->T (cond (bnd u.1 (aD l)) (cond (inB (Int.toNat u.1) l) (some ((List.set l (Int.toNat u.1) d,en,()),z1,z2,())) none) none) (λy:DS4×List Int×Int×Unit=>XW y.1):=λq=>T.grd g1 (T.grd g2 (T.ret ⟨a3j hx.1 q,hx.2⟩))
 refine T.grd g1 (T.grd g2 (T.call (gJ u0 (by omega) (by omega)) (λv ⟨v0,v1,v2⟩=>?_)))
 refine T.cnd (λ_=>fin hc) (λ_=>?_)
 refine T.cnd (λ_=>T.call (gJ v0 (by omega) (by omega)) (λ_ _=>fin ⟨hX,hB⟩)) (λ_=>?_)
 refine T.cnd (λ_=>T.call (gJ v0 (by omega) (by omega)) (λw ⟨_,w1,w2⟩=>T.grd (by rw[bV];exact⟨w1,w2⟩) (T.grd (by rw[tO];simp;omega) (fin ⟨hX,hB⟩)))) (λ_=>?_)
 refine T.cnd (λ_=>T.call (gJ v0 (by omega) (by omega)) (λw ⟨_,w1,w2⟩=>T.grd (by rw[bV];exact⟨w1,w2⟩) (T.grd (by rw[tO];simp;omega) (fin ⟨hX,hB⟩)))) (λ_=>?_)
 refine T.cnd (λ_=>?_) (λ_=>?_)
 .have hz:(yw x4).length=x4.length:=bN _
  have:=x7.1
  refine T.grd (dR.mpr ⟨b3S λa ha=>(x7.2 a ha).1,by rw[jh,hz];simp;omega⟩) (T.call (gJ v0 (by omega) (by omega)) (λw _=>T.grd (by rw[jh];simp[hz];omega) (fin ⟨hX,BB.add x7 XX.leaf rfl⟩)))
 refine T.cnd (λ_=>fin ⟨⟨11,(WE.mk (by simp) (by simp) (λq hq=>by rw[aY.1 hq];exact x6)).x.1⟩,hB⟩) (λ_=>?_)
 refine T.join (λj=>u.1=j.1/\bZ j.2.2.1 j.2.2.2.1/\en=j.2.2.2.2.2.1/\l=j.2.2.2.2.2.2.1/\XCl (j.2.2.2.2.2.2.2.1,j.2.2.2.2.2.2.2.2.1,(j.2.2.2.2.2.2.2.2.2.1,j.2.2.2.2.2.2.2.2.2.2.1,j.2.2.2.2.2.2.2.2.2.2.2.1,j.2.2.2.2.2.2.2.2.2.2.2.2.1,j.2.2.2.2.2.2.2.2.2.2.2.2.2.1,j.2.2.2.2.2.2.2.2.2.2.2.2.2.2.1,()),j.2.2.2.2.2.2.2.2.2.2.2.2.2.2.2.1,j.2.2.2.2.2.2.2.2.2.2.2.2.2.2.2.2.1,())) (T.cnd (λ_=>T.jgo ⟨rfl,v0,rfl,rfl,hX,hB⟩) (λ_=>T.jgo ⟨rfl,v0,rfl,rfl,hX,hB⟩)) (λj hj=>?_)
 obtain⟨_,j2,L,a,j5,_,_,j8,j9,j10,j11,j12,j13,j14,j15,j16,j17,⟨⟩⟩:=j
 obtain⟨rfl,d,rfl,rfl,hq⟩:=hj
 dsimp only at d hq ⊢
 refine T.cnd (λ_=>?_) (λ_=>fin hq)
 rw[fq]
 refine T.grd (by rw[jh];simp;omega) (T.call (gJ d (by omega) (by omega)) (λr ⟨r0,_,_⟩=>T.call (gJ r0 (by omega) (by omega)) (λs ⟨s0,_,_⟩=>T.call (gJ s0 (by omega) (by omega)) (λt ⟨_,t1,t2⟩=>?_))))
 refine T.grd (by rw[bV];exact⟨t1,t2⟩) (T.grd (by rw[tO];simp;omega) (T.grd (by rw[jh];simp;omega) (T.grd g1 (T.grd g2 (T.ret ⟨a3j hx.1 hq,kX hx.2 ⟨by simp,λc hc=>absurd hc bY⟩⟩)))))
def Byt(bs:List Int):Prop:=∀x∈bs,0<=x/\x<=255
theorem ji(s:ByteArray):(bS s).length=s.size:=by simp[bS]
theorem YT(s:ByteArray):Byt (bS s):=by
 intro x hx
 unfold bS at hx
 obtain⟨c,_,rfl⟩:=bT.1 hx
 have:=c.toNat_lt
 omega
theorem YS(s:ByteArray)(k:Nat)(h:k<(bS s).length):(bS s)[k]=sAt s (k:Int):=by
 have hk:k<s.data.size:=by rw[ji]at h;exact h
 have hk':k<s.size:=hk
 simp only[bS,List.getElem_map,Array.getElem_toList]
 unfold sAt
 have e:s.data.getD (Int.toNat (k:Int)) 0=s.data[k]:=by simp[Array.getD,hk']
 rw[e]
theorem FC(s:ByteArray)(k:Nat):sAt s (k:Int)=(bS s).getD k 0:=by
 rcases bK k (bS s).length with h|h
 .rw[a2h _ h,YS]
 .have hk:¬k<s.size:=by rw[ji]at h;exact Nat.not_lt.2 h
  unfold sAt
  simp[Array.getD,hk,List.getD,aR h]
theorem A9{a b:ByteArray}(h:bS a=bS b):a=b:=by
 have key:∀(l m:List UInt8),(l.map λc=>(c.toNat:Int))=(m.map λc=>(c.toNat:Int))->l=m:=by
  intro l
  induction l with
  |nil=>intro m h;cases m with
   |nil=>rfl
   |cons=>cases h
  |cons x l ih =>
   intro m h
   cases m with
   |nil=>cases h
   |cons y m =>
    simp only[bL,Ay]at h
    have:x=y:=Av.1 (by omega)
    rw[this,ih m h.2]
 have:=key _ _ h
 cases a;cases b
 simp at this;rw[this]
theorem Aa{xs:List Int}(h:Byt xs):bS (bsI xs)=xs:=by
 unfold bS bsI
 simp only[gX]
 have:∀x∈xs,((λc:UInt8=>(c.toNat:Int)) ∘ λn:Int=>UInt8.ofNat n.toNat) x=x:=by
  intro x hx
  have:=h x hx
  simp only[Function.comp,yx]
  omega
 conv=>rhs;rw[<- Bh xs]
 exact gN λx hx=>by rw[this x hx];rfl
theorem YR(s:ByteArray):bsI (bS s)=s:=A9 (Aa (YT s))
theorem uN(a b:ByteArray):bS (dx a b)=bS a++bS b:=by
 unfold bS dx
 rw[<- bJ]
 congr 1
theorem b1Q(l u:Nat)(s:ByteArray):bS (lW (l:Int) (u:Int) s)=((bS s).take u).drop l:=by
 unfold bS lW
 rw[<- uP,<- yX]
 congr 1
 show(s.extract l u).data.toList=_
 rw[ByteArray.data_extract,Array.toList_extract,List.drop_take]
theorem pI(a b:ByteArray):(dx a b).size=a.size+b.size:=by unfold dx;rw[ByteArray.size_append]
theorem qZ{a b:ByteArray}(h:a.size+b.size<=9223372036854775807):iK a b=true:=by unfold iK;rw[dV];exact h
theorem a6E{c:Int}(h:0<=c/\c<=255)(s:ByteArray):bS (dx (bsI [c]) s)=c::bS s:=by
 rw[uN,Aa (λx hx=>by rw[aY.1 hx];exact h)];rfl
theorem vC{a b:Int}(h:0<=a):iE a b=a%b:=by unfold iE;rw[Int.tmod_eq_emod_of_nonneg h]
def jD(u:Nat):List Int:=(Lib.decDigits u).map λc=>(c.toNat:Int)
theorem qo{u:Nat}(h:u<10):jD u=[48+(u:Int)]:=by
 unfold jD;rw[Lib.decDigits,dif_pos h]
 show[((UInt8.ofNat (48+u)).toNat:Int)]=_
 have:(UInt8.ofNat (48+u)).toNat=48+u:=by simp[yx];omega
 rw[this];simp
theorem xS{u:Nat}(h:10<=u):jD u=jD (u/10)++[48+((u%10:Nat):Int)]:=by
 unfold jD;rw[Lib.decDigits,dif_neg (by omega),bJ]
 congr 1
 show[((UInt8.ofNat (48+u%10)).toNat:Int)]=_
 have:(UInt8.ofNat (48+u%10)).toNat=48+u%10:=by simp[yx];omega
 rw[this];simp
theorem sW:∀(k u:Nat),u<10^k->(jD u).length<=max k 1
 |0,u,h=>by rw[qo (by simp at h;omega)];simp
 |k+1,u,h=>by
  by_cases q:u<10
  .rw[qo q,aT];omega
  .have:=sW k (u/10) (by rw[Nat.pow_succ]at h;omega)
   rw[xS (by omega),ak,aT]
   rcases k with _|k
   .simp at h;omega
   .omega
def dgs(x m:Nat):List Int:=if x=0 then List.replicate m 48 else List.replicate (m-(jD x).length) 48++jD x
theorem a2D{x m:Nat}(h:0<x\/0<m):dgs x m=dgs (x/10) (m-1)++[48+((x%10:Nat):Int)]:=by
 unfold dgs
 by_cases h0:x=0
 .subst h0
  obtain⟨m,rfl⟩:∃k,m=k+1:=⟨m-1,by omega⟩
  exact List.replicate_succ'
 by_cases h1:x<10
 .rw[if_neg h0,if_pos (by omega),qo h1,Nat.mod_eq_of_lt h1];rfl
 .rw[if_neg h0,if_neg (by omega),xS (by omega),ak,aT,Nat.sub_add_eq,Nat.sub_right_comm,aQ]
theorem Rx(x m:Nat):(dgs x m).length<=m+(jD x).length:=by
 unfold dgs
 split
 .simp
 .rw[ak,qz];omega
theorem a4f{x m:Nat}:∀c∈dgs x m,lJ c=true:=by
 have dg:∀u:Nat,∀c∈jD u,lJ c=true:=λu=>by
  induction u using Nat.strongRecOn with
  |ind u ih =>
   intro c hc
   by_cases h:u<10
   .rw[qo h]at hc;rw[aY.1 hc];unfold lJ;rw[dR,gG,gG];omega
   .rw[xS (by omega)]at hc
    rcases aH.1 hc with q|q
    .exact ih _ (by omega) c q
    .rw[aY.1 q];unfold lJ;rw[dR,gG,gG];omega
 intro c hc
 unfold dgs at hc
 split at hc
 .rw[gD hc];rfl
 .rcases aH.1 hc with q|q
  .rw[gD q];rfl
  .exact dg x c q
theorem GJ(n k:Nat)(hn:n<=100000000000000000)(hk:k<=4):T (uW (n:Int) (k:Int)) (λy=>bS y.1=dgs n k):=by
 unfold uW
 have hd:=Rx n k
 have h17:=sW 18 n (by omega)
 refine T.loop (λq=>∃(x:Nat) (s:ByteArray),x<=n/\dgs x (k-s.size)++bS s=dgs n k/\q=((x:Int),(k:Int),s,())) (λq=>q.1.toNat+(k-q.2.2.1.size)) ⟨n,bs [],bq _,cu _,rfl⟩ ?_
 rintro _ ⟨x,s,hx,h1,rfl⟩
 dsimp only
 have hb:=ji s
 have hs:s.size<=22:=by have:=dO List.length h1;rw[ak]at this;omega
 refine T.cnd (λhc=>?_) (λhc=>?_)<;>simp only[l5,nu,bQ,dh,ni]at hc
 .have e:IntKind.wrap .u8 (aN .i64 48 (iE (x:Int) 10))=48+((x%10:Nat):Int):=by rw[vC (by omega),bC (by omega) (by omega),Td (by omega) (by omega)];simp
  have e2:yU .i64 (x:Int) 10=((x/10:Nat):Int):=by unfold yU;rw[qY (by omega),wrap64 (by omega) (by omega)];simp
  rw[e,e2]
  have hz:(bsI [48+((x%10:Nat):Int)]).size=1:=rfl
  refine T.grd rfl (T.grd (qZ (by omega)) (T.grd rfl (T.go ⟨x/10,_,by omega,?_,rfl⟩ ?_)))
  .rw[a6E (by omega),pI,hz,Nat.add_comm 1,Nat.sub_add_eq,<- h1,a2D (x:=x) (by omega),aQ];rfl
  .dsimp only;rw[pI];omega
 .refine T.out ?_
  rw[<- h1]
  obtain rfl:x=0:=by omega
  rw[show k-s.size=0 by omega];rfl
theorem xO(n:Int):bS (je n)=if n<0 then 45::jD n.natAbs else jD n.toNat:=by
 unfold je bS Lib.itoa jD
 by_cases h:n<0
 .rw[if_pos h,if_pos h];rfl
 .rw[if_neg h,if_neg h]
theorem Ko(x:Nat):dgs x 1=jD x:=by
 unfold dgs
 by_cases h:x=0
 .subst h;rw[qo (by omega)];rfl
 .rw[if_neg h]
  have:1<=(jD x).length:=by
   by_cases q:x<10
   .rw[qo q];simp
   .rw[xS (by omega)];simp
  rw[show 1-(jD x).length=0 by omega];rfl
theorem b4L(n:Int)(h:-100000000000000000<=n/\n<=100000000000000000):UF n=some (je n,()):=by
 refine T.eq ?_
 unfold UF
 have hi:=xO n
 refine T.cnd (λhc=>?_) (λhc=>?_)<;>simp only[bQ,dh]at hc
 .rw[if_pos hc]at hi
  have e:Bc .i64 n=((n.natAbs:Nat):Int):=by unfold Bc;rw[wrap64 (by omega) (by omega)];omega
  rw[e]
  refine T.call (GJ n.natAbs 1 (by omega) (by omega)) (λy hy=>?_)
  rw[Ko]at hy
  have hs:=sW 18 n.natAbs (by omega)
  have hz:=ji y.1
  rw[hy]at hz
  refine T.grd (qZ (by have:(bs [45]).size=1:=rfl;omega)) (T.ret (dO (·,()) (A9 ?_)))
  rw[uN,hy,hi];rfl
 .rw[if_neg (by omega)]at hi
  rw[show n=((n.toNat:Nat):Int) by omega]
  refine T.call (GJ n.toNat 1 (by omega) (by omega)) (λy hy=>T.ret (dO (·,()) (A9 ?_)))
  rw[hy,Ko,show((n.toNat:Nat):Int)=n by omega,hi]
theorem Ya(n:Int)(h:-9223372036854775808<=n/\n<=9223372036854775807):yc n=some (je n,()):=by unfold yc;rw[if_pos h]
theorem a9d(n:Nat):bS (O8 (bs [48]) n)=List.replicate n 48:=by
 unfold O8
 have e:(bs [48]).data.toList=[48]:=rfl
 rw[e]
 have:∀n:Nat,Lib.repeatL [48] n=List.replicate n (48:UInt8):=by
  intro n
  induction n with
  |zero=>rfl
  |succ n ih =>
   simp[Lib.repeatL,List.replicate_succ]at ih ⊢
   exact ih
 rw[this]
 show((List.replicate n (48:UInt8)).toArray.toList.map λc=>(c.toNat:Int))=_
 simp
def Oi(n k:Nat):ByteArray:=bsI (dgs n k)
theorem JC(n k:Nat):bS (Oi n k)=dgs n k:=Aa λx hx=>by have:=a4f x hx;unfold lJ at this;rw[dR,gG,gG]at this;omega
theorem b2J(n k:Nat)(hn:n<=100000)(hk:k<=4):uW (n:Int) (k:Int)=some (Oi n k,()):=by
 refine T.eq ((GJ n k (by omega) hk).mono λy hy=>?_)
 exact dO (·,()) (A9 (by rw[JC];exact hy))
theorem a5g(n k:Nat)(hn:n<10000):(Oi n k).size<=k+4:=by
 have:=Rx n k
 have:=sW 4 n (by omega)
 rw[<- ji,JC];omega
theorem b2K(n k:Nat)(hn:n<10000)(hk:1<=k/\k<=4):yT (n:Int) (k:Int)=some (Oi n k,()):=by
 refine T.eq ?_
 unfold yT
 have hi:=xO n
 rw[if_neg (by omega),iF]at hi
 have hlen:=sW 4 n (by omega)
 have hz:(je n).size=(jD n).length:=by rw[<- ji,hi]
 refine T.aU (Ya n (by omega)) ?_
 dsimp only
 rw[ni,hz,dB (by omega) (by omega),show xQ 0 ((k:Int)-((jD n).length:Int))=((k-(jD n).length:Nat):Int) by unfold xQ;omega]
 have b8q:(bs [48]).size=1:=rfl
 refine T.aU (show JN (bs [48]) ((k-(jD n).length:Nat):Int)=some (O8 (bs [48]) (k-(jD n).length),()) by unfold JN;rw[if_pos (by rw[b8q];omega),iF]) ?_
 have hr:=a9d (k-(jD n).length)
 have hrs:(O8 (bs [48]) (k-(jD n).length)).size=k-(jD n).length:=by rw[<- ji,hr,qz]
 refine T.grd (qZ (by dsimp only;omega)) (T.ret (dO (·,()) (A9 ?_)))
 rw[uN,hr,hi,JC]
 unfold dgs
 split
 .rename_i q
  subst q
  rw[qo (by omega)]
  obtain⟨k,rfl⟩:∃j,k=j+1:=⟨k-1,by omega⟩
  exact List.replicate_succ'.symm
 .rfl
end
end Abs
end Go.Proofs.YtnhgeocdffhkjaaGreatDoor
section
namespace Go.Proofs.YtnhgeocdffhkjaaGreatDoor.Cal
def yl(y:Int):Int:=if y%4=0 then 366 else 365
def tab:List Int:=[31,28,31,30,31,30,31,31,30,31,30,31]
def len(y m:Int):Int:=if m=2/\y%4=0 then 29 else tab.getD (m-1).toNat 0
theorem RQ(y:Int):365<=yl y/\yl y<=366:=by unfold yl;split<;>omega
theorem a8O:∀k,k<12->28<=tab.getD k 0/\tab.getD k 0<=31:=by decide
theorem DX(y m:Int)(h1:1<=m)(h2:m<=12):28<=len y m/\len y m<=31:=by
 unfold len
 split
 .omega
 .exact a8O _ (by omega)
def qN:Nat->Int
 |0=>0
 |n+1=>qN n+yl (2000+n)
theorem zC(n:Nat):qN n=365*n+(n+3)/4:=by
 induction n with
 |zero=>rfl
 |succ n ih=>rw[qN,ih];unfold yl;split<;>omega
def jQ(y:Int):Nat->Int
 |0=>0
 |n+1=>jQ y n+len y (n+1)
theorem Kr(y:Int)(n:Nat)(h:n<=12):0<=jQ y n/\jQ y n<=31*n:=by
 induction n with
 |zero=>simp[jQ]
 |succ n ih=>have:=ih (by omega);have:=DX y (n+1) (by omega) (by omega);rw[jQ];omega
def okD(y m d h:Int):Bool:=decide (2000<=y)&&decide (y<=2099)&&decide (1<=m)&&decide (m<=12)&&decide (1<=d)&&decide (d<=len y m)&&decide (0<=h)&&decide (h<=23)
def hv(y m d h:Int):Int:=if okD y m d h then 24*(d-1+qN (y-2000).toNat+jQ y (m-1).toNat)+h else 0
def he(y m d h:Int):Int:=if okD y m d h then 0 else 1
end Go.Proofs.YtnhgeocdffhkjaaGreatDoor.Cal
end
section
namespace Go.Proofs.YtnhgeocdffhkjaaGreatDoor.Cal
theorem BL(y:Int):jQ y 12=yl y:=by
 by_cases h:y%4=0<;>simp[jQ,len,tab,yl,h]
theorem BK(y:Int)(i:Nat):∀j,i<j->j<=12->jQ y i+len y (i+1)<=jQ y j
 |0,h,_=>by omega
 |j+1,h,hj=>by
  rcases Nat.lt_or_eq_of_le (Nat.lt_succ_iff.1 h) with k|k
  .have:=BK y i j k (by omega)
   have:=DX y (j+1) (by omega) (by omega)
   rw[jQ];omega
  .subst k;rw[jQ];omega
def Az(n y m d:Int):Prop:=2000<=y/\y<=2099/\1<=m/\m<=12/\1<=d/\d<=len y m/\d-1+qN (y-2000).toNat+jQ y (m-1).toNat=n/24
theorem QA{y m d:Int}(h1:1<=m)(h2:m<=12)(h3:1<=d)(h4:d<=len y m):0<=d-1+jQ y (m-1).toNat/\d-1+jQ y (m-1).toNat<yl y:=by
 have a:=Kr y (m-1).toNat (by omega)
 refine⟨by omega,?_⟩
 rcases Int.lt_or_le m 12 with h|h
 .have b:=BK y (m-1).toNat 12 (by omega) (by omega)
  rw[BL,show(((m-1).toNat:Nat):Int)+1=m by omega]at b
  omega
 .have e:(m-1).toNat=11:=by omega
  have b:=BK y 11 12 (by omega) (by omega)
  rw[BL]at b
  rw[e]
  have:m=12:=by omega
  subst this
  have:len y 12=len y ((11:Nat)+1):=rfl
  omega
theorem Az.unique{n y m d y' m' d':Int}(a:Az n y m d)(b:Az n y' m' d'):y=y'/\m=m'/\d=d':=by
 obtain⟨a1,a2,a3,a4,a5,a6,a7⟩:=a
 obtain⟨b1,b2,b3,b4,b5,b6,b7⟩:=b
 have a8:=QA a3 a4 a5 a6
 have b8:=QA b3 b4 b5 b6
 have ey:y=y':=by
  have c1:=zC (y-2000).toNat
  have c2:=zC (y'-2000).toNat
  have c3:yl y<=366:=(RQ y).2
  have c4:yl y'<=366:=(RQ y').2
  have c5:y%4≠0->yl y=365:=λh=>by simp[yl,h]
  have c6:y'%4≠0->yl y'=365:=λh=>by simp[yl,h]
  omega
 subst ey
 have em:(m-1).toNat=(m'-1).toNat:=by
  rcases Nat.lt_trichotomy (m-1).toNat (m'-1).toNat with h|h|h
  .have:=BK y (m-1).toNat (m'-1).toNat h (by omega)
   rw[show(((m-1).toNat:Nat):Int)+1=m by omega]at this
   omega
  .exact h
  .have:=BK y (m'-1).toNat (m-1).toNat h (by omega)
   rw[show(((m'-1).toNat:Nat):Int)+1=m' by omega]at this
   omega
 have em':m=m':=by omega
 subst em'
 exact⟨rfl,rfl,by omega⟩
theorem OB(y r:Int)(h0:0<=r):∀N,N<=12->r<jQ y N->∃j:Nat,j<N/\jQ y j<=r/\r<jQ y (j+1)
 |0,_,h=>by simp[jQ]at h;omega
 |N+1,hN,h=>by
  rcases Int.lt_or_le r (jQ y N) with k|k
  .obtain⟨j,a,b,c⟩:=OB y r h0 N (by omega) k
   exact⟨j,by omega,b,c⟩
  .exact⟨N,by omega,k,h⟩
theorem b1J(n:Int)(h0:0<=n)(h1:n<=876599):∃y m d,Az n y m d:=by
 have hk:∃k:Nat,k=(4*(n/24)/1461).toNat:=⟨_,rfl⟩
 obtain⟨k,hk⟩:=hk
 have c1:=zC k
 have c2:=zC (k+1)
 have hk1:qN k<=n/24/\n/24<qN (k+1)/\k<=99:=by omega
 have hr:n/24-qN k<jQ (2000+k) 12:=by rw[BL];have:=hk1.2.1;rw[qN]at this;omega
 obtain⟨j,hj,hj1,hj2⟩:=OB (2000+k) (n/24-qN k) (by omega) 12 (by omega) hr
 rw[jQ]at hj2
 refine⟨2000+k,j+1,n/24-qN k-jQ (2000+k) j+1,by omega,by omega,by omega,by omega,by omega,by omega,?_⟩
 rw[show((2000:Int)+k-2000).toNat=k by omega,show((j:Int)+1-1).toNat=j by omega]
 omega
end Go.Proofs.YtnhgeocdffhkjaaGreatDoor.Cal
end
namespace Go.Proofs.YtnhgeocdffhkjaaGreatDoor
namespace Abs
noncomputable section
theorem a6L(y:Int)(h:0<=y):JR y=some (Cal.yl y,()):=by
 unfold JR Cal.yl
 rw[vC h]
 by_cases q:y%4=0
 .rw[if_pos q,q];rfl
 .rw[if_neg q,show iEq (y%4) 0=false by rw[iT];exact q];rfl
theorem a8N(k:Nat):atI ([31,28,31,30,31,30,31,31,30,31,30,31]:List Int) (k:Int) 0=Cal.tab.getD k 0:=by
 unfold atI Cal.tab;rw[iF]
theorem a3P(y m:Int)(hy:0<=y)(h:1<=m/\m<=12):Gq y m=some (Cal.len y m,()):=by
 refine T.eq ?_
 unfold Gq Cal.len
 rw[vC hy]
 refine T.grd rfl ?_
 refine T.cnd (λhc=>?_) (λhc=>?_)<;>simp only[xU,zD,lK,iT]at hc
 .rw[if_pos hc];exact T.ret rfl
 .rw[if_neg (by omega)]
  rw[dB (by omega) (by omega)]
  refine T.grd (by rw[bV];omega) (T.ret ?_)
  obtain⟨k,hk⟩:∃k:Nat,m-1=(k:Int):=⟨(m-1).toNat,by omega⟩
  rw[hk,a8N,iF]
theorem b0Z(y:Int)(h:2000<=y/\y<=2099):Un y=some (decide (y%4=0),()):=by
 refine T.eq ?_
 unfold Un
 rw[vC (by omega),vC (by omega),vC (by omega)]
 refine T.grd rfl (T.grd rfl ?_)
 refine T.cnd (λhc=>?_) (λhc=>?_)<;>simp only[lK,iT]at hc
 .refine T.grd rfl (T.ret ?_)
  congr 1
  rw[bX hc,l5,nG,lK];omega
 .refine T.ret ?_
  rw[dQ hc]
theorem a3O(y m:Int)(hy:2000<=y/\y<=2099)(h:1<=m/\m<=12):OG y m=some (Cal.len y m,()):=by
 refine T.eq ?_
 unfold OG Cal.len
 rw[b0Z y hy]
 have hm:m=1\/m=2\/m=3\/m=4\/m=5\/m=6\/m=7\/m=8\/m=9\/m=10\/m=11\/m=12:=by omega
 rcases hm with rfl|rfl|rfl|rfl|rfl|rfl|rfl|rfl|rfl|rfl|rfl|rfl<;>first|exact T.ret rfl|skip
 by_cases q:y%4=0
 .rw[if_pos ⟨rfl,q⟩,bX q];exact T.ret rfl
 .rw[if_neg (λk=>q k.2),dQ q];exact T.ret rfl
theorem a6u{n y m d:Int}(h0:0<=n)(h1:n<=876599)(hc:Cal.Az n y m d):Uv n=some ((y,m,d,()),n%24,0,()):=by
 refine T.eq ?_
 unfold Uv OL
 refine T.bind (T.ret ?_)
 refine T.cf (by simp only[rO,xU,gG];omega) ?_
 refine T.grd rfl ?_
 have hq:yU .i64 n 24=n/24:=by unfold yU;rw[qY h0,wrap64 (by omega) (by omega)]
 rw[hq]
 refine T.loop (λq=>∃Y M D:Int,2000<=Y/\1<=M/\M<=12/\0<=D/\D+Cal.qN (Y-2000).toNat+Cal.jQ Y (M-1).toNat=n/24/\q=(n,D,Y,M,0,0,0,())) (λq=>q.2.1.toNat) ⟨2000,1,n/24,by omega,by omega,by omega,by omega,by show n/24+0+0=_;omega,rfl⟩ ?_
 rintro _ ⟨Y,M,D,y0,m0,m1,d0,he,rfl⟩
 dsimp only
 have hm:=Cal.Kr Y (M-1).toNat (by omega)
 have hcy:=Cal.zC (Y-2000).toNat
 have y1:Y<=2099:=by
  rcases Ag 2099 Y with q|q
  .exfalso;omega
  .exact q
 have hl:=Cal.DX Y M m0 m1
 refine T.aU (a3O Y M ⟨y0,y1⟩ ⟨m0,m1⟩) ?_
 refine T.cnd (λhc1=>?_) (λhc1=>?_)<;>simp only[gG,kT]at hc1
 .refine T.aU (a3O Y M ⟨y0,y1⟩ ⟨m0,m1⟩) ?_
  dsimp only
  rw[bC (by omega) (by omega),dB (by omega) (by omega),bC (by omega) (by omega)]
  refine T.cnd (λhc2=>?_) (λhc2=>?_)<;>simp only[bQ,dh]at hc2
  .obtain rfl:M=12:=by omega
   refine T.go ⟨Y+1,1,D-Cal.len Y 12,by omega,by omega,by omega,by omega,?_,rfl⟩ (by dsimp only;omega)
   have e1:(Y+1-2000).toNat=(Y-2000).toNat+1:=by omega
   have e2:Cal.qN ((Y-2000).toNat+1)=Cal.qN (Y-2000).toNat+Cal.yl Y:=by rw[Cal.qN];congr 2;omega
   have e3:Cal.jQ Y 12=Cal.jQ Y 11+Cal.len Y 12:=by rw[show(12:Nat)=11+1 from rfl,Cal.jQ];rfl
   have e4:((12:Int)-1).toNat=11:=rfl
   have e5:Cal.jQ (Y+1) ((1:Int)-1).toNat=0:=rfl
   rw[Cal.BL]at e3
   rw[e1,e2,e5]
   rw[e4]at he
   omega
  .refine T.go ⟨Y,M+1,D-Cal.len Y M,by omega,by omega,by omega,by omega,?_,rfl⟩ (by dsimp only;omega)
   have e1:(M+1-1).toNat=(M-1).toNat+1:=by omega
   have e2:Cal.jQ Y ((M-1).toNat+1)=Cal.jQ Y (M-1).toNat+Cal.len Y M:=by rw[Cal.jQ];congr 2;omega
   rw[e1,e2];omega
 .refine T.iD ?_
  refine T.grd rfl (T.ret ?_)
  have hc2:Cal.Az n Y M (D+1):=⟨y0,y1,m0,m1,by omega,by omega,by omega⟩
  obtain⟨rfl,rfl,rfl⟩:=hc.unique hc2
  rw[bC (by omega) (by omega),vC h0]
theorem a6v{n y m d:Int}(h0:0<=n)(h1:n<=876599)(hc:Cal.Az n y m d):Uo n=some ((y,m,d,()),n%24,0,()):=by
 refine T.eq ?_
 unfold Uo a1L
 refine T.bind (T.ret ?_)
 refine T.cf (by simp only[rO,xU,gG];omega) ?_
 refine T.grd rfl ?_
 have hq:yU .i64 n 24=n/24:=by unfold yU;rw[qY h0,wrap64 (by omega) (by omega)]
 rw[hq]
 refine T.aU (a6L 2000 (by omega)) ?_
 refine T.loop (λq=>∃Y D:Int,2000<=Y/\Y<=2100/\0<=D/\D+Cal.qN (Y-2000).toNat=n/24/\q=(n,D,Y,1,Cal.yl Y,0,0,0,())) (λq=>q.2.1.toNat) ⟨2000,n/24,by omega,by omega,by omega,by show n/24+0=_;omega,rfl⟩ ?_
 rintro _ ⟨Y,D,y0,y9,d0,he,rfl⟩
 dsimp only
 have hcy:=Cal.zC (Y-2000).toNat
 have hyl:=Cal.RQ Y
 have y1:Y<=2099:=by
  rcases Ag 2099 Y with q|q
  .exfalso;omega
  .exact q
 refine T.cnd (λhc1=>?_) (λhc1=>?_)<;>simp only[gG,kT]at hc1
 .rw[bC (by omega) (by omega),dB (by omega) (by omega)]
  refine T.aU (a6L (Y+1) (by omega)) ?_
  refine T.go ⟨Y+1,D-Cal.yl Y,by omega,by omega,by omega,?_,rfl⟩ (by dsimp only;omega)
  have e1:(Y+1-2000).toNat=(Y-2000).toNat+1:=by omega
  have e2:Cal.qN ((Y-2000).toNat+1)=Cal.qN (Y-2000).toNat+Cal.yl Y:=by rw[Cal.qN];congr 2;omega
  rw[e1,e2];omega
 refine T.iD ?_
 refine T.aU (a3P Y 1 (by omega) (by omega)) ?_
 refine T.loop (λq=>∃M E:Int,1<=M/\M<=12/\0<=E/\E+Cal.jQ Y (M-1).toNat=D/\q=(n,E,Y,M,Cal.len Y M,0,0,0,())) (λq=>q.2.1.toNat) ⟨1,D,by omega,by omega,by omega,by show D+0=_;omega,rfl⟩ ?_
 rintro _ ⟨M,E,m0,m1,e0,hE,rfl⟩
 dsimp only
 have hl:=Cal.DX Y M m0 m1
 have hcm:=Cal.Kr Y (M-1).toNat (by omega)
 refine T.cnd (λhc2=>?_) (λhc2=>?_)<;>simp only[gG,kT]at hc2
 .have e2:Cal.jQ Y ((M-1).toNat+1)=Cal.jQ Y (M-1).toNat+Cal.len Y M:=by rw[Cal.jQ];congr 2;omega
  have hM:M<=11:=by
   rcases Ag 11 M with q|q
   .exfalso
    obtain rfl:M=12:=by omega
    have e3:Cal.jQ Y 12=Cal.yl Y:=Cal.BL Y
    have e4:((12:Int)-1).toNat+1=12:=rfl
    rw[e4,e3]at e2
    omega
   .exact q
  rw[bC (by omega) (by omega),dB (by omega) (by omega)]
  refine T.aU (a3P Y (M+1) (by omega) (by omega)) ?_
  refine T.go ⟨M+1,E-Cal.len Y M,by omega,by omega,by omega,?_,rfl⟩ (by dsimp only;omega)
  rw[show(M+1-1).toNat=(M-1).toNat+1 by omega,e2];omega
 .refine T.iD ?_
  refine T.grd rfl (T.ret ?_)
  have hc3:Cal.Az n Y M (E+1):=⟨y0,y1,m0,m1,by omega,by omega,by omega⟩
  obtain⟨rfl,rfl,rfl⟩:=hc.unique hc3
  rw[bC (by omega) (by omega),vC h0]
theorem a2q(n:Int)(h0:0<=n)(h1:n<=876599):∃s:ByteArray,s.size<=40/\Gr n=some (s,0,())/\UE n=some (s,0,()):=by
 obtain⟨y,m,d,hc⟩:=Cal.b1J n h0 h1
 have hc':=hc
 obtain⟨y0,y1,m0,m1,d0,d1,_⟩:=hc'
 have hl:=Cal.DX y m m0 m1
 have pad:∀(x:Int) (k:Nat),0<=x->x<10000->1<=k/\k<=4->∃s:ByteArray,s.size<=8/\yT x (k:Int)=some (s,())/\uW x (k:Int)=some (s,()):=λx k a b c=>by
  obtain⟨x,rfl⟩:=Int.eq_ofNat_of_zero_le a
  exact⟨Oi x k,by have:=a5g x k (by omega);omega,b2K x k (by omega) c,b2J x k (by omega) (by omega)⟩
 obtain⟨vy,z1,a1,b1⟩:=pad y 4 (by omega) (by omega) (by omega)
 obtain⟨vm,z2,a2,b2⟩:=pad m 2 (by omega) (by omega) (by omega)
 obtain⟨vd,z3,a3,b3⟩:=pad d 2 (by omega) (by omega) (by omega)
 obtain⟨vh,z4,a4,b4⟩:=pad (n%24) 2 (by omega) (by omega) (by omega)
 have s45:(bs [45]).size=1:=rfl
 have s84:(bs [84]).size=1:=rfl
 have ff:∀{a b:ByteArray},a.size<=100->b.size<=100->iK a b=true:=λh1 h2=>qZ (by omega)
 have g6:dx (dx (dx (dx (dx vy (bs [45])) vm) (bs [45])) vd) (dx (bs [84]) vh)=dx (dx (dx (dx (dx (dx vy (bs [45])) vm) (bs [45])) vd) (bs [84])) vh:=A9 (by simp only[uN,aQ])
 have a1:yT y 4=some (vy,()):=a1
 have a2:yT m 2=some (vm,()):=a2
 have a3:yT d 2=some (vd,()):=a3
 have a4:yT (n%24) 2=some (vh,()):=a4
 have b1:uW y 4=some (vy,()):=b1
 have b2:uW m 2=some (vm,()):=b2
 have b3:uW d 2=some (vd,()):=b3
 have b4:uW (n%24) 2=some (vh,()):=b4
 unfold Gr UE
 rw[a6v h0 h1 hc,a6u h0 h1 hc]
 simp(disch:=first|omega|(simp only[pI];omega)) only[iO,a1,a2,a3,a4,b1,b2,b3,b4,ff,vG,g6]
 by_cases hh:n%24=0
 .rw[hh]
  refine⟨_,?_,rfl,rfl⟩
  simp only[pI];omega
 .rw[show iNe (n%24) 0=true by rw[nG];exact hh,show iLt 0 (n%24)=true by rw[bQ];omega]
  refine⟨_,?_,rfl,rfl⟩
  simp only[pI];omega
def mkL:List (List UInt8):=[[59],[58],[44],[40],[41]]
def jK(t:aB):Prop :=
 (t.1=1/\lX t.2.1=true/\t.2.2.1=0)\/(t.1=2/\t.2.1=bs []/\-17592186044416<=t.2.2.1/\t.2.2.1<=17592186044416)\/(t.1=3/\t.2.1=bs []/\0<=t.2.2.1/\t.2.2.1<=876599)\/(t.1=4/\t.2.2.1=0/\∃c∈mkL,t.2.1=bs c)
def tT(t:aB):ByteArray:=((m76 t).getD (bs [],0,())).1
theorem Ch(s:ByteArray):sEq s s=true:=by rw[I4]
theorem X5{s b:ByteArray}(h:¬sAt s 0=sAt b 0):sEq s b=false:=by rw[I5];rintro rfl;exact h rfl
structure Gd (t:aB):Prop where
 w:DW t=some (tT t,0,())
 r:m76 t=some (tT t,0,())
 sz:(tT t).size<=41
 mrk:∀c∈mkL,sEq (tT t) (bs c)=cond (iEq t.1 4) (sEq t.2.1 (bs c)) false
theorem Gd.of{t:aB}{s:ByteArray}(h1:DW t=some (s,0,()))(h2:m76 t=some (s,0,()))(h3:s.size<=41)(h4:∀c∈mkL,sEq s (bs c)=cond (iEq t.1 4) (sEq t.2.1 (bs c)) false):Gd t/\tT t=s:=by
 have e:tT t=s:=by unfold tT;rw[h2];rfl
 exact⟨⟨by rw[e];exact h1,by rw[e];exact h2,by rw[e];exact h3,by rw[e];exact h4⟩,e⟩
theorem OC{s:ByteArray}(h:97<=sAt s 0\/(48<=sAt s 0/\sAt s 0<=57)\/sAt s 0=45\/sAt s 0=64):∀c∈mkL,sEq s (bs c)=false:=λc hc=>X5 (by
 simp only[mkL,bE,bY,or_false]at hc
 have e:∀u:UInt8,sAt (bs [u]) 0=(u.toNat:Int):=λu=>rfl
 rcases hc with rfl|rfl|rfl|rfl|rfl<;>(rw[e];simp;omega))
theorem Nz{s:ByteArray}(h:lX s=true):(1<=s.size/\s.size<=16)/\97<=sAt s 0/\GU s=true:=by
 unfold lX at h
 split at h
 .cases h
 .simp only[dR,isLet,gG]at h
  exact⟨by omega,h.1.1.1,h.2⟩
theorem BJ(u:Nat):48<=(jD u).getD 0 0/\(jD u).getD 0 0<=57/\1<=(jD u).length:=by
 induction u using Nat.strongRecOn with
 |ind u ih =>
  by_cases h:u<10
  .rw[qo h];simp;omega
  .have:=ih (u/10) (by omega)
   rw[xS (by omega),bn,aL (by omega),<- bn,ak]
   omega
theorem Ra(n:Int):(48<=sAt (je n) 0/\sAt (je n) 0<=57)\/sAt (je n) 0=45:=by
 have h:=FC (je n) 0
 rw[xO]at h
 have h:sAt (je n) 0=_:=h
 rw[h]
 split
 .right;rfl
 .left;have:=BJ n.toNat;omega
theorem a10{n:Int}(h0:-17592186044416<=n)(h1:n<=17592186044416):(je n).size<=20:=by
 have a:=sW 18 n.natAbs (by omega)
 have b:=sW 18 n.toNat (by omega)
 rw[<- ji,xO]
 split
 .rw[bf];omega
 .omega
theorem Jv{t:aB}(h:jK t):Gd t/\((t.1=2/\tT t=je t.2.2.1)\/t.1=3\/((t.1=1\/t.1=4)/\tT t=t.2.1)):=by
 rcases h with⟨k,h2,h3⟩|⟨k,h2,h3,h4⟩|⟨k,h2,h3,h4⟩|⟨k,h2,c,hc,h3⟩
 .obtain⟨⟨a1,a2⟩,a3,_⟩:=Nz h2
  refine(λq=>⟨q.1,.inr (.inr ⟨.inl k,q.2⟩)⟩) (Gd.of (s:=t.2.1) ?_ ?_ (by omega) (λc hc=>by rw[k];exact OC (.inl a3) c hc))
  .unfold DW;rw[k,h3,Ny,h2];rfl
  .unfold m76;rw[k,h3,Wh,h2];rfl
 .refine(λq=>⟨q.1,.inl ⟨k,q.2⟩⟩) (Gd.of (s:=je t.2.2.1) ?_ ?_ (by have:=a10 h3 h4;omega) (λc hc=>by rw[k];exact OC (by have:=Ra t.2.2.1;omega) c hc))
  .unfold DW;rw[k,h2,Ch,Ya _ (by omega),show iLt t.2.2.1 (-17592186044416)=false by rw[dh];omega,show iLt 17592186044416 t.2.2.1=false by rw[dh];omega];rfl
  .unfold m76 a1R;rw[k,h2,Ch,b4L _ (by omega),show iLe (-17592186044416) t.2.2.1=true by rw[gG];omega,show iLe t.2.2.1 17592186044416=true by rw[gG];omega];rfl
 .obtain⟨s,z,e1,e2⟩:=a2q t.2.2.1 h3 h4
  have f:iK (bs [64]) s=true:=qZ (by have:(bs [64]).size=1:=rfl;omega)
  have ha:sAt (dx (bs [64]) s) 0=64:=by have:=FC (dx (bs [64]) s) 0;rw[uN]at this;exact this
  refine(λq=>⟨q.1,.inr (.inl k)⟩) (Gd.of (s:=dx (bs [64]) s) ?_ ?_ (by rw[pI];have:(bs [64]).size=1:=rfl;omega) (λc hc=>by rw[k];exact OC (by omega) c hc))
  .unfold DW;rw[k,h2,Ch,e1];simp only[iO,f];rfl
  .unfold m76;rw[k,h2,Ch,e2];simp only[iO,f];rfl
 .have hz:t.2.1.size=1:=by rw[h3];simp only[mkL,bE,bY,or_false]at hc;rcases hc with rfl|rfl|rfl|rfl|rfl<;>rfl
  have g:DV (sAt t.2.1 0)=some (true,())/\UD t.2.1=some (true,()):=by
   rw[h3]
   simp only[mkL,bE,bY,or_false]at hc
   rcases hc with rfl|rfl|rfl|rfl|rfl<;>exact⟨rfl,by unfold UD;simp only[Ch];simp⟩
  refine(λq=>⟨q.1,.inr (.inr ⟨.inr k,q.2⟩)⟩) (Gd.of (s:=t.2.1) ?_ ?_ (by omega) (λc hc=>by rw[k];rfl))
  .have hl:=ni t.2.1
   unfold DW
   rw[k,h2,show iNe (sLen t.2.1) 1=false by rw[yh];omega,g.1,show bnd 0 (sLen t.2.1)=true by rw[bV];omega];rfl
  .unfold m76;rw[k,h2,g.2];rfl
theorem C8{t:aB}(h:jK t):Gd t:=(Jv h).1
def apt(p t:aB):Bool:=cond (cond (iEq p.1 4) (sEq p.2.1 (bs [40])) false) false (cond (iNe t.1 4) true (sEq t.2.1 (bs [40])))
theorem b4Z(p t:aB):UH p t=some (apt p t,()):=by unfold UH apt;cases cond (iEq p.1 4) (sEq p.2.1 (bs [40])) false<;>rfl
def spc:Option aB->aB->Bool
 |none,_=>false
 |some p,t=>apt p t
def sp(p:Option aB)(t:aB):List Int:=cond (spc p t) [32] []
def Jr:Option aB->List aB->List Int
 |_,[]=>[]
 |p,t::l=>sp p t++(bS (tT t)++Jr (some t) l)
def lastT:Option aB->List aB->Option aB
 |p,[]=>p
 |_,t::l=>lastT (some t) l
theorem Jg:∀(a b:List aB) (p:Option aB),Jr p (a++b)=Jr p a++Jr (lastT p a) b
 |[],b,p=>rfl
 |t::a,b,p=>by
  show sp p t++(bS (tT t)++Jr (some t) (a++b))=(sp p t++(bS (tT t)++Jr (some t) a))++Jr (lastT (some t) a) b
  rw[Jg,aQ,aQ]
theorem Cu:∀(a:List aB) (t:aB) (p:Option aB),lastT p (a++[t])=some t
 |[],t,p=>rfl
 |_::a,t,p=>Cu a t _
theorem FH(a:List aB)(t:aB):Jr none (a++[t])=Jr none a++(sp (lastT none a) t++bS (tT t)):=by
 rw[Jg];show _++(_++(_++[]))=_;rw[cu]
theorem a8R(p:Option aB)(t:aB):(sp p t).length<=1:=by unfold sp;cases spc p t<;>simp
theorem BP:∀(l:List aB) (p:Option aB),(∀t∈l,jK t)->(Jr p l).length<=42*l.length/\Byt (Jr p l)
 |[],_,_=>⟨dG _,λx hx=>by cases hx⟩
 |t::l,p,h=>by
  obtain⟨h1,h2⟩:=BP l (some t) λu hu=>h u (gu _ hu)
  have hz:=(C8 (h t (by simp))).sz
  have hs:=a8R p t
  refine⟨?_,λx hx=>?_⟩
  .show(sp p t++(bS (tT t)++Jr (some t) l)).length<=_
   rw[ak,ak,ji,bf];omega
  .rcases aH.1 hx with q|q
   .unfold sp at q;cases hq:spc p t<;>rw[hq]at q
    .cases q
    .rw[aY.1 q];omega
   .rcases aH.1 q with q|q
    .exact YT _ x q
    .exact h2 x q
def wm(l:List aB):ByteArray×Int×Unit:=if 4000<l.length\/16384<(Jr none l).length then(bs [],4,()) else(bsI (Jr none l),0,())
theorem Jd{α:Type}(a b:List α)(t z:α){k:Int}(h:k=(a.length:Int)):atI (a++t::b) k z=t:=by
 subst h;unfold atI;rw[iF,bn,aO (bq _),Nat.sub_self];rfl
theorem a4G(a:List aB):a=[]\/∃b p,a=b++[p]:=by
 rcases List.eq_nil_or_concat a with h|⟨b,p,h⟩
 .exact .inl h
 .exact .inr ⟨b,p,by rw[h,List.concat_eq_append]⟩
theorem a6B(c:Int)(b:List Int)(h:b.length<=1000000):m70 c b=some (b++[c],()):=by
 refine T.eq ?_
 unfold m70 EZ
 exact T.bind (T.ret (T.grd (by rw[jh,aT];dsimp only;omega) (T.ret rfl)))
theorem str_eq(s:ByteArray)(b:List Int)(h:b.length<=1000000)(hs:s.size<=1000000):m69 s b=some (sLen s,b++bS s,()):=by
 refine T.eq ?_
 unfold m69 EZ
 exact T.bind (T.ret (T.grd (by rw[jh,ji];dsimp only;omega) (T.ret rfl)))
theorem Y8(l:List aB)(ok:∀t∈l,jK t):m68 l=some (wm l):=by
 refine T.eq ?_
 unfold m68 wm
 have hL:=aX l
 refine T.cnd (λhc=>T.ret ?_) (λhc=>?_)<;>simp only[bQ,dh]at hc
 .rw[if_pos (by omega)]
 refine T.loop (λq=>∃a b,l=a++b/\q=(l,l,aD l,(a.length:Int),Jr none a,())) (λq=>l.length-q.2.2.2.1.toNat) ⟨[],l,rfl,rfl⟩ ?_
 rintro _ ⟨a,b,hab,rfl⟩
 dsimp only
 have hlen:l.length=a.length+b.length:=by rw[hab,ak]
 have hJ:=(BP a none λt ht=>ok t (by rw[hab];exact List.mem_append_left _ ht)).1
 refine T.cnd (λh1=>?_) (λh1=>?_)<;>simp only[bQ,dh]at h1
 .obtain⟨t,b,rfl⟩:∃t c,b=t::c:=by cases b with|nil=>simp at hlen;omega|cons t c=>exact⟨t,c,rfl⟩
  have g:=C8 (ok t (by rw[hab];simp))
  have hz:=g.sz
  refine T.grd (by rw[bV];omega) ?_
  have ha:atI l (a.length:Int) wS=t:=by rw[hab];exact Jd a b t _ rfl
  rw[ha]
  refine T.aU g.w (T.cf rfl ?_)
  have nx:∀r:List Int,r=Jr none (a++[t])->T (some (Sum.inl (β:=ByteArray×Int×Unit) (l,l,aD l,aN .i64 (a.length:Int) 1,r,()))) (LQ (λq=>∃a b,l=a++b/\q=(l,l,aD l,(a.length:Int),Jr none a,())) (λq=>l.length-q.2.2.2.1.toNat) (l.length-(a.length:Int).toNat) (λx=>x=if 4000<l.length\/16384<(Jr none l).length then(bs [],4,()) else(bsI (Jr none l),0,()))):=λr hr=>by
   have e:aN .i64 (a.length:Int) 1=((a++[t]).length:Int):=by rw[bC (by omega) (by omega),ak,aT];omega
   rw[e]
   refine T.go ⟨a++[t],b,by rw[hab,aQ];rfl,by rw[hr]⟩ ?_
   dsimp only;rw[ak,aT];omega
  rcases a4G a with rfl|⟨c,p,rfl⟩
  .refine T.grd rfl (T.cf rfl (T.aU (str_eq _ _ (dG _) (by dsimp only;omega)) (nx _ ?_)))
   rw[FH];rfl
  .have hlc:(c++[p]).length=c.length+1:=by rw[ak,aT]
   have hp:atI l (dz .i64 ((c++[p]).length:Int) 1) wS=p:=by
    rw[hab,aQ,List.singleton_append]
    refine Jd c (t::b) p _ ?_
    rw[ak,aT,dB (by omega) (by omega)];omega
   refine T.grd (by rw[lq,bV,dB (by omega) (by omega)];left;omega) (T.ct (by rw[bQ];omega) ?_)
   rw[hp]
   refine T.aU (b4Z p t) ?_
   have hs:∀x,apt p t=x->Jr none (c++[p]++[t])=Jr none (c++[p])++(cond x [32] []++bS (tT t)):=λx hx=>by
    rw[FH,Cu];show _++(cond (apt p t) [32] []++_)=_;rw[hx]
   refine T.cnd (λh3=>?_) (λh3=>?_)
   .refine T.aU (a6B _ _ (by omega)) (T.aU (str_eq _ _ (by rw[ak,aT];omega) (by dsimp only;omega)) (nx _ ?_))
    rw[hs true h3,aQ];rfl
   .refine T.aU (str_eq _ _ (by omega) (by dsimp only;omega)) (nx _ ?_)
    rw[hs false h3];rfl
 .obtain rfl:b=[]:=bW.1 (by omega)
  rw[cu]at hab
  subst hab
  refine T.iD ?_
  unfold m71
  refine T.bind (T.ret (T.cnd (λh2=>T.ret ?_) (λh2=>?_)))<;>simp only[bQ,dh,aX]at h2
  .rw[if_pos (by omega)]
  .rw[if_neg (by omega)]
   unfold Y2
   exact T.bind (T.ret (T.ret rfl))
def glu:Option aB->Bool
 |none=>true
 |some p=>cond (iEq p.1 4) (sEq p.2.1 (bs [40])) false
theorem b1I{p:Option aB}{t:aB}(h:jK t):(cond (cond (cond (cond (not (glu p)) (not (sEq (tT t) (bs [59]))) false) (not (sEq (tT t) (bs [58]))) false) (not (sEq (tT t) (bs [44]))) false) (not (sEq (tT t) (bs [41]))) false)=spc p t:=by
 have g:=(C8 h).mrk
 rw[g _ (by simp[mkL]),g _ (by simp[mkL]),g _ (by simp[mkL]),g _ (by simp[mkL])]
 have key:(cond (cond (cond (not (cond (iEq t.1 4) (sEq t.2.1 (bs [59])) false)) (not (cond (iEq t.1 4) (sEq t.2.1 (bs [58])) false)) false) (not (cond (iEq t.1 4) (sEq t.2.1 (bs [44])) false)) false) (not (cond (iEq t.1 4) (sEq t.2.1 (bs [41])) false)) false)=cond (iNe t.1 4) true (sEq t.2.1 (bs [40])):=by
  have h4:¬t.1=4->iEq t.1 4=false/\iNe t.1 4=true:=λq=>⟨by rw[iT];exact q,by rw[nG];exact q⟩
  rcases h with⟨k,_⟩|⟨k,_⟩|⟨k,_⟩|⟨k,_,c,hc,hs⟩
  .rw[(h4 (by omega)).1,(h4 (by omega)).2];rfl
  .rw[(h4 (by omega)).1,(h4 (by omega)).2];rfl
  .rw[(h4 (by omega)).1,(h4 (by omega)).2];rfl
  ·have no:∀ a b:UInt8,a ≠ b->sEq (bs [a]) (bs [b])=false:=fun a b q=>X5 (by
    show ¬(a.toNat:Int)=(b.toNat:Int)
    intro r;exact q (Av.1 (by omega)))
   rw[k,hs]
   simp only[mkL,bE,bY,or_false]at hc
   rcases hc with rfl|rfl|rfl|rfl|rfl<;>simp(disch:=decide) only[Ch,no]<;>rfl
 unfold glu spc apt
 cases p with
 |none=>rfl
 |some p =>
  dsimp only
  rw[<- key]
  cases cond (iEq p.1 4) (sEq p.2.1 (bs [40])) false<;>rfl
theorem b05(l:List aB)(ok:∀t∈l,jK t):m44 l=some (wm l):=by
 refine T.eq ?_
 unfold m44 wm
 have hL:=aX l
 refine T.cnd (λhc=>T.ret ?_) (λhc=>?_)<;>simp only[bQ,dh]at hc
 .rw[if_pos (by omega)]
 refine T.loop (λq=>∃a b out,l=a++b/\bS out=Jr none a/\q=(l,out,glu (lastT none a),(a.length:Int),())) (λq=>l.length-q.2.2.2.1.toNat) ⟨[],l,bs [],rfl,rfl,rfl⟩ ?_
 rintro _ ⟨a,b,out,hab,ho,rfl⟩
 dsimp only
 have hlen:l.length=a.length+b.length:=by rw[hab,ak]
 have hJ:=(BP a none λt ht=>ok t (by rw[hab];exact List.mem_append_left _ ht)).1
 have hos:out.size=(Jr none a).length:=by rw[<- ji,ho]
 refine T.cnd (λh1=>?_) (λh1=>?_)<;>simp only[bQ,dh]at h1
 .obtain⟨t,b,rfl⟩:∃t c,b=t::c:=by cases b with|nil=>simp at hlen;omega|cons t c=>exact⟨t,c,rfl⟩
  have hk:=ok t (by rw[hab];simp)
  have g:=C8 hk
  have hz:=g.sz
  refine T.grd (by rw[bV];omega) ?_
  have ha:atI l (a.length:Int) wS=t:=by rw[hab];exact Jd a b t _ rfl
  rw[ha]
  refine T.aU g.r (T.cf rfl ?_)
  have s32:(bs [32]).size=1:=rfl
  have nx:∀r:ByteArray,bS r=Jr none (a++[t])->T (some (Sum.inl (β:=ByteArray×Int×Unit) (l,r,sEq (tT t) (bs [40]),aN .i64 (a.length:Int) 1,()))) (LQ (λq=>∃a b out,l=a++b/\bS out=Jr none a/\q=(l,out,glu (lastT none a),(a.length:Int),())) (λq=>l.length-q.2.2.2.1.toNat) (l.length-(a.length:Int).toNat) (λx=>x=if 4000<l.length\/16384<(Jr none l).length then(bs [],4,()) else(bsI (Jr none l),0,()))):=λr hr=>by
   have e:aN .i64 (a.length:Int) 1=((a++[t]).length:Int):=by rw[bC (by omega) (by omega),ak,aT];omega
   rw[e,g.mrk _ (by simp[mkL])]
   refine T.go ⟨a++[t],b,r,by rw[hab,aQ];rfl,hr,by rw[Cu];rfl⟩ ?_
   dsimp only;rw[ak,aT];omega
  dsimp only
  rw[b1I hk]
  refine T.cnd (λh2=>?_) (λh2=>?_)
  .refine T.grd (qZ (by omega)) (T.grd (qZ (by rw[pI];omega)) (nx _ ?_))
   rw[uN,uN,ho,FH];unfold sp;rw[h2,aQ];rfl
  .refine T.grd (qZ (by omega)) (nx _ ?_)
   rw[uN,ho,FH];unfold sp;rw[h2];rfl
 .obtain rfl:b=[]:=bW.1 (by omega)
  rw[cu]at hab
  subst hab
  refine T.iD (T.cnd (λh2=>T.ret ?_) (λh2=>T.ret ?_))<;>simp only[bQ,dh,ni]at h2
  .rw[if_pos (by omega)]
  .rw[if_neg (by omega),<- ho,YR]
theorem Eo{s:ByteArray}{x y:List Int}{c:Int}(hb:bS s=x++c::y){k:Int}(hk:k=(x.length:Int)):sAt s k=c:=by
 subst hk
 rw[FC,hb,bn,aO (bq _),Nat.sub_self];rfl
theorem RH{s:ByteArray}{u w r:List Int}(hb:bS s=u++(w++r)){i j:Int}(hi:i=(u.length:Int))(hj:j=((u.length+w.length:Nat):Int)):bS (lW i j s)=w:=by
 subst hi hj
 rw[b1Q,hb,<- aQ,pQ (by rw[ak];exact bq _),gq (by rw[ak];exact bq _),List.drop_left]
def Stop(p:Int->Bool)(r:List Int):Prop:=∀c∈r.head?,p c=false
theorem WH(f:Int->Option (Bool×Unit))(p:Int->Bool)(hf:∀c,f c=some (p c,())){s:ByteArray}(hs:s.size<=100000){u w r:List Int}(hb:bS s=u++(w++r))(hw:∀c∈w,p c=true)(hr:Stop p r){i:Int}(hi:i=(u.length:Int)):bH (S:=ByteArray×Int×Unit×Unit) (R:=Int×Unit) (λq =>
 cond (or (bnd q.2.1 (sLen q.1)) (not (bEq (iLt q.2.1 (sLen q.1)) true)))
 (cond (iLt q.2.1 (sLen q.1))
 ((f (sAt q.1 q.2.1)).bind λy =>
 cond y.1
 (some (.inl (q.1,aN .i64 q.2.1 1,q.2.2.1,())))
 (some (.inr (q.2.1,()))))
 (some (.inr (q.2.1,())))) none)
 (s,i,(),())=some (((u.length+w.length:Nat):Int),()):=by
  refine T.eq ?_
  have hl:=ni s
  have hz:s.size=u.length+(w.length+r.length):=by rw[<- ji,hb,ak,ak]
  refine T.loop (λq=>∃a b,w=a++b/\q=(s,((u.length+a.length:Nat):Int),(),())) (λq=>s.size-q.2.1.toNat) ⟨[],w,rfl,by rw[hi];rfl⟩ ?_
  rintro _ ⟨a,b,rfl,rfl⟩
  dsimp only
  rw[ak]at hz
  have at_:∀c y,b++r=c::y->sAt s ((u.length+a.length:Nat):Int)=c:=λc y e=>Eo (x:=u++a) (y:=y) (by rw[hb,aQ,e,aQ]) (by rw[ak])
  cases b with
  | cons c b =>
    rw[bf]at hz
    refine T.grd (by rw[lq,bV];left;omega) (T.ct (by rw[bQ];omega) (T.aU (hf _) ?_))
    rw[at_ c (b++r) rfl]
    refine T.ct (hw c (by simp)) (T.go ⟨a++[c],b,by rw[aQ];rfl,?_⟩ ?_)
    .rw[bC (by omega) (by omega),ak,aT];rfl
    .dsimp only;rw[bC (by omega) (by omega)];omega
  | nil =>
    rw[fF]at hz
    cases r with
    | nil =>
      rw[fF]at hz
      refine T.grd (by rw[lq,iA,Qe,dh];right;omega) (T.cf (by rw[dh];omega) (T.out ?_))
      rw[cu]
    | cons c r =>
      rw[bf]at hz
      refine T.grd (by rw[lq,bV];left;omega) (T.ct (by rw[bQ];omega) (T.aU (hf _) ?_))
      rw[at_ c r rfl]
      refine T.cf (hr c rfl) (T.out ?_)
      rw[cu]
def vl(ds:List Int):Int:=ds.foldl (λa c=>a*10+(c-48)) 0
theorem ED(ds:List Int)(c:Int):vl (ds++[c])=vl ds*10+(c-48):=by unfold vl;rw[iX];rfl
theorem a4x(u:Nat):vl (jD u)=(u:Int):=by
 induction u using Nat.strongRecOn with
 |ind u ih =>
  by_cases h:u<10
  .rw[qo h];unfold vl;show(0:Int)*10+(48+(u:Int)-48)=_;omega
  .rw[xS (by omega),ED,ih (u/10) (by omega)];omega
theorem YG{u:Nat}{c:Int}(h:c∈jD u):48<=c/\c<=57:=by
 have:=a4f (x:=u) (m:=1) c (by rw[Ko];exact h)
 unfold lJ at this;rwa [dR,gG,gG]at this
theorem Fh:∀(b:List Int) (a:Int),0<=a->(∀c∈b,48<=c)->a<=b.foldl (λa c=>a*10+(c-48)) a
 |[],a,_,_=>mK _
 |c::b,a,h,hb=>by
  have:=hb c (by simp)
  have:=Fh b (a*10+(c-48)) (by omega) λd hd=>hb d (by simp[hd])
  rw[fu];omega
theorem LD(d:ByteArray)(ng:Bool){u:Nat}(hd:bS d=jD u)(hu:u<=17592186044416):bH (S:=Bool×ByteArray×Int×Int×Int×Unit) (R:=Int×Int×Unit) (λq =>
 cond (iLt q.2.2.2.2.1 q.2.2.2.1)
 (cond (bnd q.2.2.2.2.1 (sLen q.2.1))
 (cond (iLt 17592186044416 (aN .i64 (uY .i64 q.2.2.1 10) (IntKind.wrap .i64 (dz .u8 (sAt q.2.1 q.2.2.2.2.1) 48))))
 (some (.inr (0,1,())))
 (some (.inl (q.1,q.2.1,aN .i64 (uY .i64 q.2.2.1 10) (IntKind.wrap .i64 (dz .u8 (sAt q.2.1 q.2.2.2.2.1) 48)),q.2.2.2.1,aN .i64 q.2.2.2.2.1 1,())))) none)
 (Option.map Sum.inr (cond q.1
 (some (Bc .i64 q.2.2.1,0,()))
 (some (q.2.2.1,0,())))))
 (ng,d,0,sLen d,0,())=some (cond ng (-(u:Int)) u,0,()):=by
  refine T.eq ?_
  have hl:=ni d
  have hz:d.size=(jD u).length:=by rw[<- ji,hd]
  have hs:=sW 14 u (by omega)
  have b8X:d.size<=14:=by omega
  refine T.loop (λq=>∃a b,jD u=a++b/\q=(ng,d,vl a,sLen d,(a.length:Int),())) (λq=>d.size-q.2.2.2.2.1.toNat) ⟨[],jD u,rfl,rfl⟩ ?_
  rintro _ ⟨a,b,hab,rfl⟩
  dsimp only
  have hD:∀c∈a++b,48<=c/\c<=57:=λc hc=>YG (by rw[hab];exact hc)
  have hv:=a4x u
  rw[hab,ak]at hz
  have h0:0<=vl a:=Fh a 0 (mK _) λc hc=>(hD c (by simp[hc])).1
  cases b with
  | cons c b =>
    rw[bf]at hz
    have hc:=hD c (by simp)
    have h1:vl a * 10 + (c - 48)<=u:=by
      rw[<- hv,hab,<- ED,show a++c::b=(a++[c])++b by simp]
      unfold vl
      rw[iX (l':=b)]
      exact Fh b _ (Fh (a++[c]) 0 (mK _) λx hx=>(hD x (by rcases aH.1 hx with q|q;simp[q];simp at q;simp[q])).1) λx hx=>(hD x (by simp[hx])).1
    refine T.ct (by rw[bQ];omega) (T.grd (by rw[bV];omega) ?_)
    rw[Eo (hd.trans hab) rfl]
    have e1:IntKind.wrap .i64 (dz .u8 c 48)=c - 48:=by
      rw[show dz .u8 c 48=c-48 from Td (by omega) (by omega)];exact wrap64 (by omega) (by omega)
    have e2:aN .i64 (uY .i64 (vl a) 10) (c-48)=vl (a++[c]):=by rw[ED,Yh (by omega) (by omega),bC (by omega) (by omega)]
    rw[e1,e2]
    refine T.cf (by rw[dh,ED];omega) (T.go ⟨a++[c],b,by rw[hab];simp,?_⟩ ?_)
    .rw[bC (by omega) (by omega),ak];rfl
    .dsimp only;rw[bC (by omega) (by omega)];omega
  | nil =>
    rw[cu]at hab
    rw[fF]at hz
    rw[hab]at hv
    refine T.cf (by rw[dh];omega) (T.iD ?_)
    rw[hv]
    cases ng with
    |true=>exact T.ct rfl (T.ret (by rw[b1e (by omega) (by omega)];rfl))
    |false=>exact T.cf rfl (T.ret rfl)
theorem Rz(u:Nat):0<u->49<=(jD u).getD 0 0:=by
 induction u using Nat.strongRecOn with
 |ind u ih =>
  intro h0
  by_cases h:u<10
  .rw[qo h];simp;omega
  .have:=ih (u/10) (by omega) (by omega)
   have:=(BJ (u/10)).2.2
   rw[xS (by omega),bn,aL (by omega),<- bn];assumption
theorem QH{s:ByteArray}(h:1<=s.size):sEq s (bs [])=false:=by
 rw[I5];rintro rfl;exact absurd h (by decide)
theorem b3X(n:Int)(h0:-17592186044416<=n)(h1:n<=17592186044416):UC (je n)=some (n,0,()):=by
 have hi:=xO n
 have hl:=ni (je n)
 have hz:=ji (je n)
 have a0:=FC (je n) 0
 refine T.eq ?_
 unfold UC
 by_cases hn:n<0
 .rw[if_pos hn]at hi
  rw[hi]at a0 hz
  have a0:sAt (je n) 0=45:=a0
  rw[bf]at hz
  have hc:bS (lW 1 ((je n).size:Int) (je n))=jD n.natAbs:=RH (u:=[45]) (r:=[]) (by rw[hi,cu];rfl) rfl (by rw[aT];omega)
  have hd:=BJ n.natAbs
  have hnz:=Rz n.natAbs (by omega)
  have b0:=FC (lW 1 ((je n).size:Int) (je n)) 0
  have hzc:=ji (lW 1 ((je n).size:Int) (je n))
  have hlc:=ni (lW 1 ((je n).size:Int) (je n))
  rw[hc]at b0 hzc
  have b0:sAt (lW 1 ((je n).size:Int) (je n)) 0=(jD n.natAbs).getD 0 0:=b0
  have lp:=LD _ true hc (by omega)
  refine T.grd (by rw[bV];omega) (T.ct (by rw[lK];exact a0) (T.grd (by rw[vF];omega) ?_))
  rw[QH (by omega)]
  refine T.grd (by rw[lq,bV];left;omega) (T.cf rfl (T.cf (by rw[iT];omega) ?_))
  rw[a0,show iEq (45:Int) 45=true from rfl]
  exact T.of lp (dO (·,0,()) (by show -((n.natAbs:Nat):Int)=n;omega))
 .rw[if_neg hn]at hi
  rw[hi]at a0 hz
  have a0:sAt (je n) 0=(jD n.toNat).getD 0 0:=a0
  have hd:=BJ n.toNat
  have lp:=LD _ false hi (by omega)
  have lp:=T.of (Q:=λx=>x=(n,0,())) lp (dO (λz:Int=>(z,(0:Int),())) (show((n.toNat:Nat):Int)=n by omega))
  have e45:iEq (sAt (je n) 0) 45=false:=by rw[iT];omega
  refine T.grd (by rw[bV];omega) (T.cf e45 ?_)
  rw[QH (by omega),e45]
  refine T.grd (by rw[lq,bV];left;omega) (T.cf rfl (T.cnd (λq=>T.cf ?_ lp) (λ_=>lp)))
  rw[lK]at q
  have:n.toNat=0:=by
   rcases dW n.toNat with r|r
   .exact r
   .have:=Rz n.toNat r;omega
  rw[this,qo (by omega)]at hz
  rw[nu,dh]
  exact⟨rfl,by simp at hz;omega⟩
theorem Wj{c:Int}(h:oJ c=false):isLet c=false/\lJ c=false/\¬c=45:=by
 unfold oJ at h
 simp only[U5,iT]at h
 exact⟨h.1.1,h.1.2,h.2⟩
theorem Stop.dig{r:List Int}(h:Stop oJ r):Stop lJ r:=λc hc=>(Wj (h c hc)).2.1
theorem a2R{s:ByteArray}(h:GU s=true):∀c∈bS s,oJ c=true:=λc hc=>by
 obtain⟨k,hk,rfl⟩:=List.getElem_of_mem hc
 rw[YS]
 rw[ji]at hk
 exact aG.1 h k (bA.2 hk)
theorem a1I{c:List UInt8}(h:c∈mkL):∃u:UInt8,c=[u]/\isLet (u.toNat:Int)=false/\lJ (u.toNat:Int)=false/\¬(u.toNat:Int)=45/\¬(u.toNat:Int)=64/\¬(u.toNat:Int)=32/\¬(u.toNat:Int)=10/\¬(u.toNat:Int)=35/\DV (u.toNat:Int)=some (true,()):=by
 simp only[mkL,bE,bY,or_false]at h
 rcases h with rfl|rfl|rfl|rfl|rfl<;>exact⟨_,rfl,rfl,rfl,by decide,by decide,by decide,by decide,by decide,rfl⟩
theorem a4z {t:aB} (h:jK t) (h3:¬ t.1=3) {s:ByteArray} (hs:s.size<=100000) {u r:List Int} (hb:bS s=u ++ (bS (tT t) ++ r)) (hr:t.1=4\/Stop oJ r) :
  m79 s (u.length:Int)=some ((t.1,t.2.1,t.2.2.1,(u.length:Int),()),((u.length+(tT t).size:Nat):Int),0,())/\(1<=(tT t).size/\¬sAt s (u.length:Int)=32/\¬sAt s (u.length:Int)=10/\¬sAt s (u.length:Int)=35):=by
 have hl:=ni s
 have hz:s.size=u.length+((tT t).size+r.length):=by rw[<- ji,hb,ak,ak,ji]
 have hwl:=ji (tT t)
 have cut:∀j:Int,j=((u.length+(tT t).size:Nat):Int)->lW (u.length:Int) j s=tT t:=λj hj=>A9 (RH hb rfl (by rw[hwl];exact hj))
 have hall:=(Jv h).2
 have first:∀{c:Int} {y:List Int},bS (tT t)=c::y->sAt s (u.length:Int)=c:=fun{c y} e=>Eo (y:=y++r) (by rw[hb,e];rfl) rfl
 obtain⟨c,y,e⟩:∃c y,bS (tT t)=c::y/\1<=(tT t).size:=by
  have h1:1<=(tT t).size:=by
   rcases h with⟨k,k2,_⟩|⟨k,_⟩|⟨k,_⟩|⟨k,_,c,hc,hcs⟩
   .rcases hall with⟨q,_⟩|q|⟨_,q⟩
    .omega
    .omega
    .rw[q];exact(Nz k2).1.1
   .rcases hall with⟨_,q⟩|q|⟨q,_⟩
    .rw[q,<- ji,xO]
     split
     .rw[bf];omega
     .exact(BJ _).2.2
    .omega
    .omega
   .exact absurd k h3
   .rcases hall with⟨q,_⟩|q|⟨_,q⟩
    .omega
    .omega
    .obtain⟨v,rfl,_⟩:=a1I hc
     rw[q,hcs];exact bq _
  cases e:bS (tT t) with
  |nil=>rw[e]at hwl;simp at hwl;omega
  |cons c y=>exact⟨c,y,rfl,h1⟩
 obtain⟨e,h1⟩:=e
 have f:=first e
 have a0:sAt (tT t) 0=c:=by have:=FC (tT t) 0;rw[e]at this;exact this
 rcases h with⟨k,k2,k3⟩|⟨k,k2,k3,k4⟩|⟨k,_⟩|⟨k,k2,d,hd,hds⟩
 .have q:tT t=t.2.1:=by rcases hall with⟨q,_⟩|q|⟨_,q⟩;omega;omega;exact q
  obtain⟨w1,w2,w3⟩:=Nz k2
  rw[<- q]at w2 w3
  refine⟨T.eq ?_,h1,by omega,by omega,by omega⟩
  unfold m79
  refine T.grd (by rw[bV];omega) (T.aU (Cr _) (T.ct ?_ (T.aU (WH OT oJ a3c hs hb (a2R w3) (hr.resolve_left (by omega)) rfl) ?_)))
  .show isLet (sAt s (u.length:Int))=true
   rw[f,<- a0]
   unfold lX at k2;split at k2
   .cases k2
   .simp only[dR]at k2;rw[q];exact k2.1.1
  rw[hwl]
  dsimp only
  rw[cut _ rfl]
  refine T.grd (by rw[vF];omega) (T.aU (Ny _) ?_)
  rw[q,k2]
  exact T.cf rfl (T.grd (by rw[vF];rw[<- q];omega) (T.ret (by rw[k,k3])))
 .have q:tT t=je t.2.2.1:=by rcases hall with⟨_,q⟩|q|⟨q,_⟩;exact q;omega;omega
  have ha:=Ra t.2.2.1
  rw[<- q,a0]at ha
  have hy:∀x∈y,lJ x=true:=λx hx=>by
   have hi:=xO t.2.2.1
   rw[<- q,e]at hi
   have:x∈jD t.2.2.1.natAbs\/x∈jD t.2.2.1.toNat:=by
    split at hi
    .left;rw[<- (List.cons.inj hi).2];exact hx
    .right;rw[<- hi];exact gu _ hx
   unfold lJ;rw[dR,gG,gG]
   rcases this with r|r<;>exact YG r
  refine⟨T.eq ?_,h1,by omega,by omega,by omega⟩
  unfold m79
  rw[f]
  have hyl:y.length+1=(tT t).size:=by rw[<- hwl,e,bf]
  refine T.grd (by rw[bV];omega) (T.aU (Cr _) (T.cf ?_ (T.aU (show Co c=some (lJ c,()) from J2 c) (T.ct ?_ (T.aU (WH Co lJ J2 (u:=u++[c]) hs (by rw[hb,e];simp) hy (hr.resolve_left (by omega)).dig (by rw[bC (by omega) (by omega),ak,aT];rfl)) ?_)))))
  .show isLet c=false
   unfold isLet;rw[pW,kT];omega
  .show cond (lJ c) true (iEq c 45)=true
   rw[l5,lK];unfold lJ;rw[dR,gG,gG];omega
  rw[ak,aT,show u.length+1+y.length=u.length+(tT t).size by omega]
  dsimp only
  rw[cut _ rfl]
  refine T.grd (by rw[vF];omega) ?_
  rw[q]
  exact T.aU (b3X _ k3 k4) (T.cf rfl (T.ret (by rw[k,k2])))
 .exact absurd k h3
 .have q:tT t=t.2.1:=by rcases hall with⟨q,_⟩|q|⟨_,q⟩;omega;omega;exact q
  obtain⟨v,rfl,n1,n2,n3,n4,n5,n6,n7,n8⟩:=a1I hd
  have hc:c=(v.toNat:Int):=by rw[q,hds]at a0;exact a0.symm
  subst hc
  have hsz:(tT t).size=1:=by rw[q,hds];rfl
  refine⟨T.eq ?_,h1,by rw[f];exact n5,by rw[f];exact n6,by rw[f];exact n7⟩
  unfold m79
  rw[f]
  refine T.grd (by rw[bV];omega) (T.aU (Cr _) (T.cf n1 (T.aU (show Co _=some (lJ _,()) from J2 _) (T.cf (by rw[nu,iT];exact⟨n2,n3⟩) (T.cf (by rw[iT];exact n4) (T.aU n8 (T.ct rfl ?_)))))))
  rw[bC (by omega) (by omega),cut _ (by rw[hsz];rfl)]
  exact T.grd (by rw[vF];omega) (T.ret (by rw[hsz,q,k,k2];rfl))
def strip(t:aB):Int×ByteArray×Int:=(t.1,t.2.1,t.2.2.1)
theorem Wy{t:aB}(h4:¬t.1=4)(b:List aB)(ok:∀u∈b,jK u):Stop oJ (Jr (some t) b):=by
 cases b with
 |nil=>intro c hc;cases hc
 |cons u b =>
  intro c hc
  have hc:c∈(cond (apt t u) [32] []++(bS (tT u)++Jr (some u) b)).head?:=hc
  unfold apt at hc
  rw[show iEq t.1 4=false by rw[iT];exact h4]at hc
  by_cases q:u.1=4
  .rcases ok u (by simp) with⟨k,_⟩|⟨k,_⟩|⟨k,_⟩|⟨_,k2,d,hd,hds⟩
   .omega
   .omega
   .omega
   have e:tT u=u.2.1:=by rcases(Jv (ok u (by simp))).2 with⟨q,_⟩|q|⟨_,q⟩;omega;omega;exact q
   obtain⟨v,rfl,n1,n2,n3,_⟩:=a1I hd
   rw[e,hds]at hc
   cases hx:cond (iNe u.1 4) true (sEq (bs [v]) (bs [40])) with
   |true=>simp only[qO,hx,vG]at hc;cases hc;rfl
   |false =>
    simp only[qO,hx]at hc
    cases hc
    unfold oJ;rw[U5,U5,iT];exact⟨⟨n1,n2⟩,n3⟩
  .rw[show iNe u.1 4=true by rw[nG];exact q]at hc
   cases hc;rfl
theorem WX(l:List aB)(ok:∀t∈l,jK t/\¬t.1=3)(h1:l.length<=4000)(h2:(Jr none l).length<=16384):T (m45 (bsI (Jr none l))) (λy=>y.2.2.1=0/\y.1.map strip=l.map strip):=by
 have hb:bS (bsI (Jr none l))=Jr none l:=Aa (BP l none λt ht=>(ok t ht).1).2
 generalize bsI (Jr none l)=s at hb
 have hl:=ni s
 have hz:s.size=(Jr none l).length:=by rw[<- ji,hb]
 unfold m45
 refine T.cf (by rw[dh];omega) ?_
 refine T.loop (λq=>∃a b u v toks,l=a++b/\toks.map strip=a.map strip/\Jr none l=u++v/\(v=Jr (lastT none a) b\/∃t c,b=t::c/\v=bS (tT t)++Jr (some t) c)/\q=(s,(u.length:Int),toks,())) (λq=>s.size-q.2.1.toNat) ⟨[],l,[],Jr none l,[],rfl,rfl,rfl,.inl rfl,rfl⟩ ?_
 rintro _ ⟨a,b,u,v,toks,hab,ht,huv,hv,rfl⟩
 dsimp only
 have hzu:s.size=u.length+v.length:=by rw[hz,huv,ak]
 have hla:l.length=a.length+b.length:=by rw[hab,ak]
 have htl:toks.length=a.length:=by have:=dO List.length ht;simpa using this
 cases b with
 |nil =>
  have hv0:v=[]:=by rcases hv with q|⟨t,c,q,_⟩;exact q;cases q
  subst hv0
  rw[cu]at hab
  rw[fF]at hzu
  exact T.cf (by rw[dh];omega) (T.out ⟨rfl,by rw[ht,hab]⟩)
 |cons t b =>
  have okt:=ok t (by rw[hab];simp)
  have okb:∀x∈b,jK x:=λx hx=>(ok x (by rw[hab];simp[hx])).1
  by_cases hq:v=bS (tT t)++Jr (some t) b
  case neg =>
   rcases hv with q|⟨t',c,q,r⟩
   .have q:v=sp (lastT none a) t++(bS (tT t)++Jr (some t) b):=q
    cases hs:spc (lastT none a) t with
    |false=>unfold sp at q;rw[hs]at q;exact absurd q hq
    |true =>
     unfold sp at q;rw[hs]at q
     have q:v=32::(bS (tT t)++Jr (some t) b):=q
     rw[q,bf]at hzu
     refine T.ct (by rw[bQ];omega) (T.grd (by rw[bV];omega) (T.ct (by rw[lK];exact Eo (hb.trans (huv.trans (by rw[q]))) rfl) (T.go ⟨a,t::b,u++[32],bS (tT t)++Jr (some t) b,toks,hab,ht,by rw[huv,q];simp,.inr ⟨t,b,rfl,rfl⟩,?_⟩ ?_)))
     .rw[bC (by omega) (by omega),ak];rfl
     .dsimp only;rw[bC (by omega) (by omega)];omega
   .cases q;exact absurd r hq
  have hb2:bS s=u++(bS (tT t)++Jr (some t) b):=by rw[hb,huv,hq]
  have hst:t.1=4\/Stop oJ (Jr (some t) b):=by
   by_cases q:t.1=4
   .exact .inl q
   .exact .inr (Wy q b okb)
  obtain⟨e1,e2,e3,e4,e5⟩:=a4z okt.1 okt.2 (by omega) hb2 hst
  rw[hq,ak,ji]at hzu
  rw[bf]at hla
  refine T.ct (by rw[bQ];omega) (T.grd (by rw[bV];omega) (T.cf (by rw[iT];exact e3) (T.cf (by rw[iT];exact e4) (T.cf (by rw[iT];exact e5) (T.aU e1 (T.cf rfl (T.cf (by rw[iT,aX];omega) (T.grd (by rw[jh,aT];omega) ?_))))))))
  dsimp only
  have fin:T (some (Sum.inl (β:=List aB×Int×Int×Unit) (s,((u.length+(tT t).size:Nat):Int),toks++[(t.1,t.2.1,t.2.2.1,(u.length:Int),())],()))) (LQ (λq=>∃a b u v toks,l=a++b/\toks.map strip=a.map strip/\Jr none l=u++v/\(v=Jr (lastT none a) b\/∃t c,b=t::c/\v=bS (tT t)++Jr (some t) c)/\q=(s,(u.length:Int),toks,())) (λq=>s.size-q.2.1.toNat) (s.size-(u.length:Int).toNat) (λy=>y.2.2.1=0/\y.1.map strip=l.map strip)):=by
   refine T.go ⟨a++[t],b,u++bS (tT t),Jr (some t) b,toks++[(t.1,t.2.1,t.2.2.1,(u.length:Int),())],by rw[hab];simp,by simp only[bJ,ht];rfl,by rw[huv,hq,aQ],.inl (by rw[Cu]),by rw[ak,ji]⟩ ?_
   dsimp only;omega
  by_cases k2:t.1=2/\u.length+(tT t).size<s.size
  .have hs:=hst.resolve_left (by omega)
   obtain⟨c,y,hcy⟩:∃c y,Jr (some t) b=c::y:=by
    cases e:Jr (some t) b with
    |nil=>rw[e,fF]at hzu;omega
    |cons c y=>exact⟨c,y,rfl⟩
   have hc:=Wj (hs c (by rw[hcy];rfl))
   have hat:sAt s ((u.length+(tT t).size:Nat):Int)=c:=Eo (x:=u++bS (tT t)) (y:=y) (by rw[hb2,hcy,aQ]) (by rw[ak,ji])
   rw[hat]
   refine T.grd (by rw[lq,bV];left;omega) (T.ct (by rw[xU,lK,bQ];omega) (T.aU (Cr c) (T.grd (by rw[lq,bV];left;omega) (T.cf (by rw[nu,iT];exact⟨hc.1,hc.2.2⟩) fin))))
  ·have g:cond (iEq t.1 2) (iLt ((u.length + (tT t).size:Nat):Int) (sLen s)) false=false:=by
    rw[zD,iT,dh]
    by_cases q:t.1=2
    .right;omega
    .exact .inl q
   rw[g]
   exact T.grd (by rw[lq];right;rfl) (T.cf rfl fin)
def nmT(s:ByteArray):aB:=(1,s,0,0,())
def mkT(s:ByteArray):aB:=(4,s,0,0,())
def nuT(n:Int):aB:=(2,bs [],n,0,())
section
variable{α:Type}
def eU(s:List aB)(f:α->List aB):Bool->List α->List aB
 |_,[]=>[]
 |b,x::l=>cond b s []++(f x++eU s f true l)
theorem QG(s:List aB)(f:α->List aB):∀(a:List α) (x:α) (b:Bool),eU s f b (a++[x])=eU s f b a++(cond (b||iLt 0 (a.length:Int)) s []++f x)
 |[],x,b=>by
  show cond b s []++(f x++[])=_
  rw[cu,show iLt 0 (([]:List α).length:Int)=false from rfl,Bool.or_false];rfl
 |y::a,x,b=>by
  show cond b s []++(f y++eU s f true (a++[x]))=(cond b s []++(f y++eU s f true a))++_
  rw[QG s f a x true,show iLt 0 ((y::a).length:Int)=true by rw[bQ,bf];omega,Bool.true_or,Bool.or_true,aQ,aQ]
theorem sj(s:List aB)(f:α->List aB)(a:List α)(x:α):eU s f false (a++[x])=eU s f false a++(cond (iLt 0 (a.length:Int)) s []++f x):=QG s f a x false
theorem Bo{P:aB->Prop}{s:List aB}{f:α->List aB}(hs:∀t∈s,P t):∀(l:List α) (b:Bool),(∀x∈l,∀t∈f x,P t)->∀t∈eU s f b l,P t
 |[],_,_=>λt ht=>by cases ht
 |x::l,b,h=>λt ht=>by
  rcases aH.1 ht with q|q
  .cases b with
   |true=>exact hs t q
   |false=>cases q
  .rcases aH.1 q with q|q
   .exact h x (by simp) t q
   .exact Bo hs l true (λy hy=>h y (by simp[hy])) t q
theorem xg{s:List aB}{f:α->List aB}{g:α->Nat}:∀(l:List α) (b:Bool),(∀x∈l,s.length+(f x).length<=g x)->(eU s f b l).length<=(l.map g).sum
 |[],_,_=>dG _
 |x::l,b,h=>by
  have h1:=h x (by simp)
  have h2:=xg l true λy hy=>h y (by simp[hy])
  show(cond b s []++(f x++eU s f true l)).length<=_
  rw[ak,ak,bL,fU]
  have:(cond b s ([]:List aB)).length<=s.length:=by cases b<;>simp
  omega
end
def jG(op o:Int)(l:List aB):List aB:=cond (cond (iEq o 8) true (cond (iEq o 7) (iNe op 8) false)) (mkT (bs [40])::(l++[mkT (bs [41])])) l
def jP(ws:List ByteArray):List aB:=eU [mkT (bs [44])] (λw=>[nmT w]) false ws
def gZ:Nat->DS0->List aB
 |0,_=>[]
 |k+1,e=>cond (iEq e.1 1) [nmT (bs [116,114,117,101])] (cond (iEq e.1 2) [nmT (bs [102,97,108,115,101])] (cond (iEq e.1 3) [nmT e.2.1] (cond (iEq e.1 4) ([nmT e.2.1,nmT (bs [105,110]),mkT (bs [40])]++(jP e.2.2.1++[mkT (bs [41])])) (cond (iEq e.1 5) [nmT e.2.1,nmT (bs [102,114,111,109]),nuT e.2.2.2.1,nmT (bs [116,111]),nuT e.2.2.2.2.1]
  (cond (iEq e.1 6) [nmT (bs [110,111,116])] []++eU [nmT (cond (iEq e.1 7) (bs [97,110,100]) (bs [111,114]))] (λa=>jG e.1 (aV a).1 (gZ k (aV a))) false (show List AV from e.2.2.2.2.2.1))))))
theorem zP{op:Int}{nm:ByteArray}{ws:List ByteArray}{lo hi:Int}{l:List AV}(h:tK (op,nm,ws,lo,hi,l,())=true):(1<=op/\op<=8)/\(op=3\/op=4\/op=5->lX nm=true)/\(op=4->ws.length<=12/\∀w∈ws,lX w=true)/\(op=5->-1000000000<=lo/\lo<=1000000000/\-1000000000<=hi/\hi<=1000000000)/\(op=6->l.length=1)/\(op<=5->l=[]):=by
 unfold tK at h
 simp only[dR,gG]at h
 obtain⟨h1,h2,h3,h4,h5,h6⟩:=h
 have nw:∀{s:ByteArray},eH s=true->lX s=true:=λq=>(dR.mp q).1
 refine⟨⟨h1,h2⟩,?_,?_,?_,?_,?_⟩
 .rintro(rfl|rfl|rfl)<;>exact nw h3
 .rintro rfl
  have h4:uG ws=true:=h4
  unfold uG at h4
  simp only[dR,dV]at h4
  exact⟨h4.1.2,λw hw=>nw (aG.1 h4.2.1 w hw)⟩
 .rintro rfl
  have h5:(iLe (-1000000000) lo&&(iLe lo 1000000000&&(iLe (-1000000000) hi&&(iLe hi 1000000000&&iLe lo hi))))=true:=h5
  simp only[dR,gG]at h5
  exact⟨h5.1,h5.2.1,h5.2.2.1,h5.2.2.2.1⟩
 .rintro rfl
  have h6:iEq (l.length:Int) 1=true:=h6
  rw[lK]at h6;omega
 .intro q
  have h6:iEq (l.length:Int) 0=true:=by
   have:op=1\/op=2\/op=3\/op=4\/op=5:=by omega
   rcases this with rfl|rfl|rfl|rfl|rfl<;>exact h6
  rw[lK]at h6
  exact bW.1 (by omega)
theorem JD{op:Int}{P:Prop}(h:1<=op/\op<=8)(h1:op=1->P)(h2:op=2->P)(h3:op=3->P)(h4:op=4->P)(h5:op=5->P)(h6:op=6->P)(h7:op=7\/op=8->P):P:=by
 have:op=1\/op=2\/op=3\/op=4\/op=5\/op=6\/op=7\/op=8:=by omega
 rcases this with q|q|q|q|q|q|q|q
 .exact h1 q
 .exact h2 q
 .exact h3 q
 .exact h4 q
 .exact h5 q
 .exact h6 q
 .exact h7 (.inl q)
 .exact h7 (.inr q)
theorem tL{s:ByteArray}(h:lX s=true):jK (nmT s)/\¬(nmT s).1=3:=⟨.inl ⟨rfl,h,rfl⟩,by show ¬(1:Int)=3;decide⟩
theorem qK{c:List UInt8}(h:c∈mkL):jK (mkT (bs c))/\¬(mkT (bs c)).1=3:=⟨.inr (.inr (.inr ⟨rfl,rfl,c,h,rfl⟩)),by show ¬(4:Int)=3;decide⟩
theorem Ud{n:Int}(h0:-17592186044416<=n)(h1:n<=17592186044416):jK (nuT n)/\¬(nuT n).1=3:=⟨.inr (.inl ⟨rfl,rfl,h0,h1⟩),by show ¬(2:Int)=3;decide⟩
theorem MG{s:ByteArray}(h:lX s=true:=by rfl):jK (nmT s)/\¬(nmT s).1=3:=tL h
theorem wV(ws:List ByteArray):(jP ws).length<=2*ws.length:=by
 have h:=xg (s:=[mkT (bs [44])]) (f:=λw=>[nmT w]) (g:=λ_=>2) ws false (λ_ _=>by simp)
 have:∀l:List ByteArray,(l.map λ_=>2).sum=2*l.length:=λl=>by induction l with
  |nil=>rfl
  |cons a l ih=>rw[bL,fU,ih,bf];omega
 rw[this]at h;exact h
theorem EF(c:Nat){β:Type}(f:β->Nat):∀l:List β,(l.map λa=>c*f a).sum=c*(l.map f).sum
 |[]=>rfl
 |a::l=>by rw[bL,fU,EF c f l,bL,fU,Nat.mul_add]
theorem Gg(op o:Int)(l:List aB):(jG op o l).length<=l.length+2:=by
 unfold jG;cases cond (iEq o 8) true (cond (iEq o 7) (iNe op 8) false)<;>simp
theorem zy:∀(k:Nat) (e:DS0),okE k e=true->(gZ k e).length+3<=40*szE k e
 |0,e,h=>by cases h
 |k+1,(op,nm,ws,lo,hi,l,()),h=>by
  unfold okE at h
  rw[dR]at h
  obtain⟨hn,ha⟩:=h
  have ha:=aG.1 ha
  dsimp only at ha
  obtain⟨h18,_,hw,_,h6,_⟩:=zP hn
  have hp:=Bn (k+1) (op,nm,ws,lo,hi,l,())
  have hz:szE (k+1) (op,nm,ws,lo,hi,l,())=1+(List.map (λa=>szE k (aV a)) l).sum:=rfl
  refine JD h18 (λq=>?_) (λq=>?_) (λq=>?_) (λq=>?_) (λq=>?_) (λq=>?_) (λq=>?_)
  .subst q;show 1+3<=_;omega
  .subst q;show 1+3<=_;omega
  .subst q;show 1+3<=_;omega
  .subst q
   show([nmT nm,nmT (bs [105,110]),mkT (bs [40])]++(jP ws++[mkT (bs [41])])).length+3<=_
   have:=wV ws
   have:=(hw rfl).1
   simp;omega
  .subst q;show 5+3<=_;omega
  all_goals
   have hs:∀s:List aB,s.length=1->(eU s (λa=>jG op (aV a).1 (gZ k (aV a))) false l).length<=(l.map λa=>40*szE k (aV a)).sum:=λs h1=>xg l false λa hm=>by
    have a1:=zy k _ (ha a hm)
    have a2:=Gg op (aV a).1 (gZ k (aV a))
    omega
   rw[EF 40]at hs
   rw[hz]
  .subst q
   show([nmT (bs [110,111,116])]++eU _ (λa=>jG 6 (aV a).1 (gZ k (aV a))) false l).length+3<=_
   have:=hs [nmT (bs [111,114])] rfl
   rw[ak,aT]
   exact bD (Nat.add_le_add_right (Nat.add_le_add_left this _) _) (by omega)
  .have:gZ (k+1) (op,nm,ws,lo,hi,l,())=eU [nmT (cond (iEq op 7) (bs [97,110,100]) (bs [111,114]))] (λa=>jG op (aV a).1 (gZ k (aV a))) false l:=by rcases q with rfl|rfl<;>rfl
   rw[this]
   have:=hs [nmT (cond (iEq op 7) (bs [97,110,100]) (bs [111,114]))] rfl
   omega
theorem Wq:∀(k:Nat) (e:DS0),okE k e=true->∀t∈gZ k e,jK t/\¬t.1=3
 |0,e,h=>by cases h
 |k+1,(op,nm,ws,lo,hi,l,()),h=>by
  unfold okE at h
  rw[dR]at h
  obtain⟨hn,ha⟩:=h
  have ha:=aG.1 ha
  dsimp only at ha
  obtain⟨h18,h3,hw,h5,h6,_⟩:=zP hn
  have one:∀{s:ByteArray},lX s=true->∀t∈[nmT s],jK t/\¬t.1=3:=λh t ht=>by rw[aY.1 ht];exact tL h
  refine JD h18 (λq=>?_) (λq=>?_) (λq=>?_) (λq=>?_) (λq=>?_) (λq=>?_) (λq=>?_)
  .subst q;exact one rfl
  .subst q;exact one rfl
  .subst q;exact one (h3 (.inl rfl))
  .subst q
   intro t ht
   have ht:t∈[nmT nm,nmT (bs [105,110]),mkT (bs [40])]++(jP ws++[mkT (bs [41])]):=ht
   simp only[aH,bE,bY,or_false]at ht
   rcases ht with(rfl|rfl|rfl)|q|rfl
   .exact tL (h3 (.inr (.inl rfl)))
   .exact MG
   .exact qK (by simp[mkL])
   .exact Bo (P:=λt=>jK t/\¬t.1=3) (λu hu=>by rw[aY.1 hu];exact qK (by simp[mkL])) ws false (λw hm=>one ((hw rfl).2 w hm)) t q
   .exact qK (by simp[mkL])
  .subst q
   intro t ht
   have ht:t∈[nmT nm,nmT (bs [102,114,111,109]),nuT lo,nmT (bs [116,111]),nuT hi]:=ht
   obtain⟨a,b,c,d⟩:=h5 rfl
   simp only[bE,bY,or_false]at ht
   rcases ht with rfl|rfl|rfl|rfl|rfl
   .exact tL (h3 (.inr (.inr rfl)))
   .exact MG
   .exact Ud (by omega) (by omega)
   .exact MG
   .exact Ud (by omega) (by omega)
  all_goals
   have hs:∀s:ByteArray,lX s=true->∀t∈eU [nmT s] (λa=>jG op (aV a).1 (gZ k (aV a))) false l,jK t/\¬t.1=3:=λs h1=>Bo (one h1) l false λa hm t ht=>by
    have a1:=Wq k _ (ha a hm)
    unfold jG at ht
    cases hc:cond (iEq (aV a).1 8) true (cond (iEq (aV a).1 7) (iNe op 8) false)<;>rw[hc]at ht
    .exact a1 t ht
    .rcases bE.1 ht with rfl|q
     .exact qK (by simp[mkL])
     .rcases aH.1 q with q|q
      .exact a1 t q
      .rw[aY.1 q];exact qK (by simp[mkL])
  .subst q
   intro t ht
   rcases aH.1 (show t∈[nmT (bs [110,111,116])]++eU [nmT (bs [111,114])] (λa=>jG 6 (aV a).1 (gZ k (aV a))) false l from ht) with q|q
   .exact one rfl t q
   .exact hs (bs [111,114]) rfl t q
  .rcases q with rfl|rfl
   .exact hs (bs [97,110,100]) rfl
   .exact hs (bs [111,114]) rfl
theorem Wo:∀{k:Nat} {e:DS0},okE k e=true->∀d,gZ (k+d) e=gZ k e/\okE (k+d) e=true
 |0,_,h,_=>by cases h
 |k+1,e,h,d=>by
  have hk:=(Fq (Fu h) d).2.2
  refine⟨?_,by rw[hk];exact h⟩
  unfold okE at h
  have ha:=aG.1 (dR.mp h).2
  rw[show k+1+d=(k+d)+1 by omega]
  have:∀(s:List aB) (op:Int) (l:List AV) (b:Bool),(∀a∈l,okE k (aV a)=true)->eU s (λa=>jG op (aV a).1 (gZ (k+d) (aV a))) b l=eU s (λa=>jG op (aV a).1 (gZ k (aV a))) b l:=λs op l=>by
   induction l with
   |nil=>intro b _;rfl
   |cons a l ih =>
    intro b hl
    show _++(jG op (aV a).1 (gZ (k+d) (aV a))++_)=_++(jG op (aV a).1 (gZ k (aV a))++_)
    rw[(Wo (hl a (by simp)) d).1,ih true λx hx=>hl x (by simp[hx])]
  unfold gZ
  rw[this _ _ _ _ ha]
end
end Abs
end Go.Proofs.YtnhgeocdffhkjaaGreatDoor
