/- Merged and trimmed by a program: W1 V1 V2 V3 V4 V5 W2 W3 W4 W5 W6 W7 W8 W9 MA MB MC MD ME F0 F1 Plain CivP F2 F3 F4 F5 F6. -/
import Derived.Test.YtnhgeocdffhkjaaGreatDoorZHH
import Derived.Below
set_option linter.unusedVariables false
set_option linter.unusedSimpArgs false
set_option linter.defProp false
namespace Go.Proofs.YtnhgeocdffhkjaaGreatDoor
namespace Abs
noncomputable section
theorem T.iter{α β:Type}{F:(α->Option β)->α->Option β}(P:Nat->α->Prop)(Q:Nat->α->β->Prop)(h:∀n x,P (n+1) x->∀self:α->Option β,(∀y,P n y->T (self y) (Q n y))->T (F self x) (Q (n+1) x))(h0:∀x,¬P 0 x):∀n x,P n x->T (eH F n x) (Q n x):=by
 intro n
 induction n with
 |zero=>intro x hx;exact absurd hx (h0 x)
 |succ n ih=>intro x hx;exact h n x hx _ λy hy=>ih y hy
abbrev Bd(n:Nat):Prop:=n<=1000000000
theorem oW(s:ByteArray):sLen s=(s.size:Int):=rfl
def bsX:=And.intro @bS (And.intro @cO (And.intro @eG (And.intro @jZ (And.intro @kg (And.intro @dI (And.intro @mM (And.intro @uh (And.intro @bT (And.intro @b6M (And.intro @y8 (And.intro @b6f (And.intro @jD (And.intro @Kh (And.intro @nS (And.intro @a5c (And.intro @a5d (And.intro @b5N (And.intro @gJ (And.intro @sD (And.intro @dx (And.intro @qj (And.intro @lg (And.intro @b0j (And.intro @qE (And.intro @rT (And.intro @mE (And.intro @lH (And.intro @b3r (And.intro @Qy (And.intro @b3s (And.intro @b3t (And.intro @or_true (And.intro @true_or (And.intro @and_true (And.intro @true_and (And.intro @or_false (And.intro @false_or (And.intro @and_false (And.intro @false_and (And.intro @not_true_eq_false (And.intro @not_false_eq_true (And.intro @Bool.true_eq_false (And.intro @Bool.false_eq_true (And.intro @aW (@oW)))))))))))))))))))))))))))))))))))))))))))))
def arX:=And.intro @bf (And.intro @dG (And.intro @IY (And.intro @aW (And.intro @List.length_append.{0} (And.intro @List.length_cons.{0} (And.intro @List.length_nil.{0} (And.intro @List.length_set.{0} (And.intro @List.length_take.{0} (And.intro @List.length_drop.{0} (@List.length_replicate.{0}))))))))))
def dA(L:List Int)(a:Int):Prop:=L.length<=9223372036854775807/\0<=a
theorem b4t(x:Int){n:Int}(hn:0<n):-n<x.tmod n/\x.tmod n<n:=⟨by have:=Int.lt_tmod_of_pos x hn;omega,tK x hn⟩
theorem a3S(x:Int){n:Int}(hn:0<n)(hn2:n<=4611686018427387904):0<=jC (aR .i64 (jC x n) n) n/\jC (aR .i64 (jC x n) n) n<n:=by
 have h:=b4t x hn
 have e:aR .i64 (jC x n) n=x.tmod n+n:=bf (by simp only[jC];omega) (by simp only[jC];omega)
 rw[e]
 simp only[jC]
 exact⟨Aw _ (by omega),tK _ hn⟩
theorem jB{L:List Int}{a n:Int}(h:dA L a)(hn:0<n)(hn2:n<=4611686018427387904):T (m24 n L a) (λy=>dA y.2.1 y.2.2.1/\0<=y.1/\y.1<n):=by
 obtain⟨h1,h2⟩:=h
 unfold m24
 have hL:=aW L
 refine T.cnd (λhc=>T.ret ⟨⟨h1,h2⟩,by omega,hn⟩) (λhc=>?_)
 rw[jZ]at hc
 have e1:dQ .i64 (aR .i64 a 1) 1=a:=by rw[bf (by omega) (by omega),dG (by omega) (by omega)];omega
 rw[e1]
 refine T.grd (by rw[bT];omega) (T.grd (by rw[mM];omega) (T.grd (by rw[mM];omega) (T.ret ⟨⟨h1,?_⟩,a3S _ hn hn2⟩)))
 show 0<=aR .i64 a 1
 rw[bf (by omega) (by omega)];omega
theorem a03(x:Int){n:Int}(hn:0<n)(hn2:n<=4611686018427387904):T (m11 x n) (λy=>0<=y.1/\y.1<n):=by
 unfold m11
 exact T.grd (by rw[mM];omega) (T.grd (by rw[mM];omega) (T.ret (a3S _ hn hn2)))
theorem Bw{L:List Int}{a l u:Int}(h:dA L a)(h0:0<=l)(h1:l<=u)(h2:u<=1000000):T (m88 l u L a) (λy=>dA y.2.1 y.2.2.1/\l<=y.1/\y.1<=u):=by
 unfold m88
 have e:aR .i64 (dQ .i64 u l) 1=u-l+1:=by rw[dG (by omega) (by omega),bf (by omega) (by omega)]
 rw[e]
 repeat' (first|(refine T.call (jB (by assumption) (by first|omega|(simp(disch:=omega) only[arX];omega)) (by first|omega|(simp(disch:=omega) only[arX];omega))) (λ_ ⟨_,_,_⟩=>?_))|(refine T.grd ?_ ?_)|(refine T.cnd (λhc=>?_) (λhc=>?_)<;>try simp only[bsX,eq_self]at hc)|(refine T.kW ?_)|(refine T.go ?_ ?_)|(refine T.out ?_)|(refine T.jgo ?_)|(refine T.pV ?_)|(refine T.sZ ?_)|(refine T.ret ?_))
 refine⟨by assumption,?_,?_⟩<;>(rw[bf (by omega) (by omega)];omega)
theorem Wq{L:List Int}{a n:Int}(h:dA L a)(h0:0<=n)(h1:n<=4611686018427387903):T (Ei n L a) (λy=>dA y.2.1 y.2.2.1/\0<=y.1/\y.1<=n):=by
 unfold Ei
 have e:aR .i64 n 1=n+1:=bf (by omega) (by omega)
 rw[e]
 unfold jv
 repeat' (first|(refine T.call (jB (by assumption) (by first|omega|(simp(disch:=omega) only[arX];omega)) (by first|omega|(simp(disch:=omega) only[arX];omega))) (λ_ ⟨_,_,_⟩=>?_))|(refine T.grd ?_ ?_)|(refine T.cnd (λhc=>?_) (λhc=>?_)<;>try simp only[bsX,eq_self]at hc)|(refine T.kW ?_)|(refine T.go ?_ ?_)|(refine T.out ?_)|(refine T.jgo ?_)|(refine T.pV ?_)|(refine T.sZ ?_)|(refine T.ret ?_))
 all_goals refine⟨by assumption,?_⟩
 all_goals simp(disch:=omega) only[dG]
 all_goals omega
theorem b2E{L:List Int}{a:Int}(h:dA L a):T (m90 L a) (λy=>dA y.2.1 y.2.2.1/\0<=y.1/\y.1<=876599):=by
 unfold m90
 repeat' (first|(refine T.call (jB (by assumption) (by first|omega|(simp(disch:=omega) only[arX];omega)) (by first|omega|(simp(disch:=omega) only[arX];omega))) (λ_ ⟨_,_,_⟩=>?_))|(refine T.grd ?_ ?_)|(refine T.cnd (λhc=>?_) (λhc=>?_)<;>try simp only[bsX,eq_self]at hc)|(refine T.kW ?_)|(refine T.go ?_ ?_)|(refine T.out ?_)|(refine T.jgo ?_)|(refine T.pV ?_)|(refine T.sZ ?_)|(refine T.ret ?_))
 all_goals refine⟨by assumption,?_⟩
 all_goals(try simp(disch:=omega) only[dG])
 all_goals omega
theorem a1B{L:List Int}{a:Int}(h:dA L a):T (m49 L a) (λy=>dA y.2.2.1 y.2.2.2.1/\0<=y.1):=by
 unfold m49
 repeat' (first|(refine T.call (b2E (by assumption)) (λ_ ⟨_,_,_⟩=>?_))|(refine T.grd ?_ ?_)|(refine T.cnd (λhc=>?_) (λhc=>?_)<;>try simp only[bsX,eq_self]at hc)|(refine T.kW ?_)|(refine T.go ?_ ?_)|(refine T.out ?_)|(refine T.jgo ?_)|(refine T.pV ?_)|(refine T.sZ ?_)|(refine T.ret ?_))
 exact⟨by assumption,by unfold jv;omega⟩
section
variable{S R:Type}{step:S->Option (S⊕R)}{Q:R->Prop}
theorem T.pass(n:Int)(P:Int->Prop)(mk:Int->S)(hn:0<=n)(h:∀k,0<=k->k<n->(∀j,0<=j->j<k->P j)->T (step (mk k)) (LQ (λs=>s=mk (k+1)/\P k) (λ_=>0) 1 Q))(he:(∀j,0<=j->j<n->P j)->T (step (mk n)) (LQ (λ_=>False) (λ_=>0) 0 Q)):T (bK step (mk 0)) Q:=by
 have key:∀(d:Nat) (k:Int),0<=k->k+d=n->(∀j,0<=j->j<k->P j)->T (bK step (mk k)) Q:=by
  intro d
  induction d with
  |zero =>
   intro k _ hk hp
   obtain rfl:k=n:=by omega
   obtain⟨r,h1,h2⟩:=he hp
   cases r with
   |inl s=>exact absurd h2.1 id
   |inr r=>exact⟨r,vD h1,h2⟩
  |succ d ih =>
   intro k h0 hk hp
   obtain⟨r,h1,h2⟩:=h k h0 (by omega) hp
   cases r with
   |inl s =>
    obtain⟨⟨rfl,h3⟩,_⟩:=h2
    rw[JZ h1]
    refine ih (k+1) (by omega) (by omega) λj j0 j1=>?_
    rcases Int.lt_or_eq_of_le (show j<=k by omega) with q|rfl
    .exact hp j j0 q
    .exact h3
   |inr r=>exact⟨r,vD h1,h2⟩
 exact key n.toNat 0 (mU _) (by omega) λj _ _=>by omega
end
theorem at_mem{α:Type}{xs:List α}{n:Int}(z:α)(h0:0<=n)(h1:n<(xs.length:Int)):atI xs n z∈xs:=by
 unfold atI
 have h:n.toNat<xs.length:=by omega
 rw[bB,ah h]
 exact jA h
theorem EF{α:Type}{l:List α}{z x:α}(h:x∈l):∃k:Int,0<=k/\k<(l.length:Int)/\atI l k z=x:=by
 obtain⟨k,hk,rfl⟩:=nM.1 h
 exact⟨k,by omega,by omega,by unfold atI;rw[bB,fG,ah hk];rfl⟩
theorem wJ{α:Type}{l:List α}{p:α->Bool}{z:α}{k:Int}(h0:0<=k)(h1:k<(l.length:Int))(h:p (atI l k z)=false):l.all p=false:=by
 cases q:l.all p with
 |false=>rfl
 |true=>rw[aD.1 q _ (at_mem z h0 h1)]at h;cases h
theorem uo{α:Type}{l:List α}{p:α->Bool}{z:α}(h:∀k:Int,0<=k->k<(l.length:Int)->p (atI l k z)=true):l.all p=true:=by
 refine aD.2 λx hx=>?_
 obtain⟨k,h0,h1,rfl⟩:=EF (z:=z) hx
 exact h k h0 h1
theorem T.round{S:Type}{s s':S}{b:Bool}{R:Type}{r:R}{P:Prop}{Q:R->Prop}(hs:s'=s)(hp:b=true->P)(hq:b=false->Q r):T (cond (not b) (some (Sum.inr r)) (some (Sum.inl s'))) (LQ (λq=>q=s/\P) (λ_=>0) 1 Q):=by
 cases b with
 |false=>exact T.out (hq rfl)
 |true=>exact T.go ⟨hs,hp rfl⟩ (by omega)
theorem T.a3n{S α:Type}{step:S->Option (S⊕(Bool×Unit))}(l:List α)(z:α)(p:α->Bool)(mk:Int->S)(h:∀k:Int,0<=k->k<(l.length:Int)->T (step (mk k)) (LQ (λs=>s=mk (k+1)/\p (atI l k z)=true) (λ_=>0) 1 (λr=>p (atI l k z)=false/\r=(false,()))))(he:step (mk (l.length:Int))=some (.inr (true,()))):bK step (mk 0)=some (l.all p,()):=by
 refine T.eq (T.pass (l.length:Int) (λk=>p (atI l k z)=true) mk (by omega) (λk h0 h1 _=>?_) (λhp=>⟨_,he,by show(true,())=_;rw[uo hp]⟩))
 refine(h k h0 h1).mono λr hr=>?_
 cases r with
 |inl s=>exact hr
 |inr r=>exact hr.2.trans (by rw[wJ h0 h1 hr.1])
def isLet(c:Int):Bool:=iLe 97 c&&iLe c 122
def iq(c:Int):Bool:=iLe 48 c&&iLe c 57
def p9(c:Int):Bool:=isLet c||iq c||iEq c 45
theorem Ak(c:Int):m80 c=some (isLet c,()):=by unfold m80 isLet;cases iLe 97 c<;>rfl
theorem a4t(c:Int):UD c=some (isLet c,()):=Ak c
theorem D8(c:Int):UC c=some (iq c,()):=by unfold UC iq;cases iLe 48 c<;>rfl
theorem a3G(c:Int):Pt c=some (p9 c,()):=by
 unfold Pt p9
 rw[Ak,show zR c=some (iq c,()) from D8 c]
 simp only[iL]
 cases isLet c<;>cases iq c<;>rfl
def H7(s:ByteArray):Bool:=(List.range s.size).all λk=>p9 (sAt s (k:Int))
theorem SE{s:ByteArray}{k:Int}(h0:0<=k)(h1:k<(s.size:Int))(h:p9 (sAt s k)=false):H7 s=false:=by
 cases q:H7 s with
 |false=>rfl
 |true =>
  have:=aD.1 q k.toNat (bL.2 (by omega))
  rw[gQ h0,h]at this;cases this
theorem QG{s:ByteArray}(h:∀k:Int,0<=k->k<(s.size:Int)->p9 (sAt s k)=true):H7 s=true :=
 aD.2 λk hk=>h k (by omega) (by have:=bL.1 hk;omega)
def lS(s:ByteArray):Bool:=if s.size=0\/16<s.size then false else isLet (sAt s 0)&&!iEq (sAt s ((s.size:Int)-1)) 45&&H7 s
theorem a9t(s:ByteArray)(hs:s.size<=16):T (m77 s 0 ()) (λy=>iEq y.1 (sLen s)=H7 s):=by
 unfold m77
 have hl:=oW s
 refine T.pass (s.size:Int) (λk=>p9 (sAt s k)=true) (λk=>(s,k,(),())) (by omega) (λk h0 h1 _=>?_) (λhp=>?_)
 .dsimp only
  refine T.grd (by rw[lg,bT];left;omega) (T.ct (by rw[bS];omega) (T.aN (a3G _) (T.cnd (λh=>T.go ⟨?_,h⟩ (by omega)) (λh=>T.out ?_))))
  .rw[bf (by omega) (by omega)]
  .show iEq k (sLen s)=_
   rw[SE h0 h1 h,dI];omega
 .dsimp only
  refine T.grd (by rw[lg,gJ,Qy,cO];right;omega) (T.cf (by rw[cO];omega) (T.out ?_))
  show iEq (s.size:Int) (sLen s)=_
  rw[QG hp,kg];omega
theorem NK(s:ByteArray):m95 s=some (lS s,()):=by
 refine T.eq ?_
 unfold m95 lS
 have hl:=oW s
 by_cases hz:s.size=0\/16<s.size
 .rw[if_pos hz]
  have hc:cond (iEq (sLen s) 0) true (iLt 16 (sLen s))=true:=by rw[mE,kg,bS];omega
  rw[hc]
  exact T.grd (by rw[lg,gJ];exact .inr rfl) (T.grd (by rw[lg,gJ];exact .inr rfl) (T.ret rfl))
 rw[if_neg hz]
 have hc:cond (iEq (sLen s) 0) true (iLt 16 (sLen s))=false:=by rw[lH,dI,cO];omega
 have hb:∀b:Bool,or (bnd ((s.size:Int)-1) (sLen s)) b=true:=λb=>by rw[lg,bT];left;omega
 rw[hc,show dQ .i64 (sLen s) 1=(s.size:Int)-1 by rw[dG (by omega) (by omega),hl]]
 refine T.grd (by rw[lg,bT];left;omega) (T.cf rfl (T.aN (Ak _) (T.grd (hb _) ?_)))
 obtain⟨y,e,hy⟩:=a9t s (by omega)
 rw[e]
 dsimp only[Option.bind_some]
 rw[hy]
 cases isLet (sAt s 0)<;>cases iEq (sAt s ((s.size:Int)-1)) 45<;>exact T.ret rfl
theorem a8V(s:ByteArray):UM s=some (lS s,()):=by
 refine T.eq ?_
 unfold UM lS
 have hl:=oW s
 by_cases hz:s.size=0\/16<s.size
 .rw[if_pos hz]
  have hc:cond (iLt (sLen s) 1) true (iLt 16 (sLen s))=true:=by rw[mE,bS,bS];omega
  rw[hc]
  exact T.grd (by rw[lg,gJ];exact .inr rfl) (T.grd (by rw[lg,gJ];exact .inr rfl) (T.ret rfl))
 rw[if_neg hz]
 have hc:cond (iLt (sLen s) 1) true (iLt 16 (sLen s))=false:=by rw[lH,cO,cO];omega
 have hb:∀b:Bool,or (bnd ((s.size:Int)-1) (sLen s)) b=true:=λb=>by rw[lg,bT];left;omega
 rw[hc,show dQ .i64 (sLen s) 1=(s.size:Int)-1 by rw[dG (by omega) (by omega),hl]]
 refine T.grd (by rw[lg,bT];left;omega) (T.cf rfl (T.aN (a4t _) (T.grd (hb _) (T.cnd (λh=>T.ret ?_) (λh=>?_)))))
 .rw[mE,gJ]at h
  dsimp only at h
  rcases h with h|h<;>rw[h]
  .rfl
  .cases isLet (sAt s 0)<;>rfl
 rw[lH,sD]at h
 dsimp only at h
 rw[h.1,h.2]
 refine T.pass (s.size:Int) (λk=>p9 (sAt s k)=true) (λk=>(s,k,())) (by omega) (λk h0 h1 _=>?_) (λhp=>?_)
 .dsimp only
  have hk:∀b:Bool,or (bnd k (sLen s)) b=true:=λb=>by rw[lg,bT];left;omega
  have he:p9 (sAt s k)=(isLet (sAt s k)||iq (sAt s k)||iEq (sAt s k) 45):=rfl
  refine T.ct (by rw[bS];omega) (T.grd (by rw[bT];omega) (T.aN (a4t _) (T.grd (hk _) (T.cnd (λq=>T.aN (D8 _) (T.grd (hk _) (T.cnd (λr=>T.out ?_) (λr=>T.go ⟨?_,?_⟩ (by omega))))) (λq=>T.grd (hk _) (T.go ⟨?_,?_⟩ (by omega)))))))
  .rw[qE,gJ,mM]at r
   rw[gJ]at q
   dsimp only at r q
   rw[q,r.1,dI.mpr r.2]at he
   rw[SE h0 h1 he];rfl
  .rw[bf (by omega) (by omega)]
  .rw[rT,sD,uh]at r
   dsimp only at r
   rw[he]
   rcases r with r|r
   .rw[r];cases isLet (sAt s k)<;>rfl
   .rw[r];cases isLet (45:Int)<;>cases iq (45:Int)<;>rfl
  .rw[bf (by omega) (by omega)]
  .rw[sD]at q
   dsimp only at q
   rw[he,q];rfl
 .exact T.cf (by rw[cO];show sLen s<=(s.size:Int);omega) (T.out (by rw[QG hp];rfl))
theorem Zh(a b:Bool):(cond a (some (true,())) (some (b,())):Option (Bool×Unit))=some (a||b,()):=by cases a<;>rfl
def U3(s:ByteArray):Bool:=(Gs s).elim false λy=>y.1
theorem a3R(s:ByteArray):Gs s=some (U3 s,()):=by
 have h:∃b,Gs s=some (b,()):=by
  unfold Gs
  simp only[Zh]
  exact⟨_,rfl⟩
 obtain⟨b,h⟩:=h
 unfold U3
 rw[h];rfl
theorem b4r(s:ByteArray):m96 s=some (U3 s,()):=(show m96 s=Gs s from rfl).trans (a3R s)
def dR(s:ByteArray):Bool:=lS s&&!U3 s
theorem zO(s:ByteArray):m54 s=some (dR s,()):=by
 unfold m54 dR
 rw[NK,b4r]
 cases lS s<;>rfl
theorem Ec(s:ByteArray):m57 s=some (dR s,()):=by
 unfold m57 dR
 rw[a8V,a3R]
 cases lS s<;>rfl
theorem GZ{α:Type}{l:List α}{z:α}{k:Nat}(h:k<l.length):atI l (k:Int) z=l[k]:=by
 unfold atI;rw[bB,fG,ah h];rfl
theorem JJ(l:List ByteArray)(h:l.length<=9223372036854775807):m29 l=some (l.all dR,()):=by
 unfold m29
 have hl:=aW l
 refine T.a3n l ByteArray.empty dR (λk=>(l,k,())) (λk h0 h1=>?_) ?_
 .dsimp only
  refine T.ct (by rw[bS];omega) (T.grd (by rw[bT];omega) (T.aN (Ec _) (T.round ?_ id (λq=>⟨q,rfl⟩))))
  rw[bf (by omega) (by omega)]
 .dsimp only
  rw[cO.mpr (by omega)];rfl
open Classical in
def dst(l:List ByteArray):Bool:=decide l.Nodup
theorem D6{l:List ByteArray}:(dst l=true)=l.Nodup:=by unfold dst;rw[eT]
theorem a4D{l:List ByteArray}:(dst l=false)=¬l.Nodup:=by unfold dst;rw[jm]
theorem xG{l:List ByteArray}(z:ByteArray):l.Nodup↔∀i:Int,0<=i->i<(l.length:Int)->∀j,0<=j->j<i->¬atI l i z=atI l j z:=by
 unfold List.Nodup
 rw[List.pairwise_iff_getElem]
 constructor
 .intro h i i0 i1 j j0 j1 q
  have:=h j.toNat i.toNat (by omega) (by omega) (by omega)
  rw[<- GZ (z:=z),<- GZ (z:=z),gQ i0,gQ j0]at this
  exact this q.symm
 .intro h i j hi hj hij q
  refine h (j:Int) (by omega) (by omega) (i:Int) (by omega) (by omega) ?_
  rw[GZ hi,GZ hj,q]
theorem D7(l:List ByteArray)(h:l.length<=9223372036854775807):m30 l=some (dst l,()):=by
 refine T.eq ?_
 unfold m30
 have hl:=aW l
 have no:∀i:Int,0<=i->i<(l.length:Int)->∀j,0<=j->j<i->sEq (atI l i ByteArray.empty) (atI l j ByteArray.empty)=true->dst l=false:=λi i0 i1 j j0 j1 q=>by
  rw[a4D]
  exact λhn=>(xG ByteArray.empty).1 hn i i0 i1 j j0 j1 (vX.mp q)
 refine T.pass (l.length:Int) (λi=>∀j,0<=j->j<i->¬atI l i ByteArray.empty=atI l j ByteArray.empty) (λk=>(l,k,())) (by omega) (λi i0 i1 _=>?_) (λhp=>?_)
 .dsimp only
  refine T.ct (by rw[bS];omega) ?_
  refine T.pass i (λj=>¬atI l i ByteArray.empty=atI l j ByteArray.empty) (λj=>(l,i,j,())) i0 (λj j0 j1 _=>?_) (λhp=>?_)
  .dsimp only
   refine T.ct (by rw[bS];exact j1) (T.grd (by rw[bT];omega) (T.grd (by rw[bT];omega) (T.cnd (λq=>T.out (show((false,()):Bool×Unit)=(dst l,()) by rw[no i i0 i1 j j0 j1 q])) (λq=>T.go ⟨?_,EX.mp q⟩ (by omega)))))
   rw[bf (by omega) (by omega)]
  .dsimp only
   exact T.cf (by rw[cO];omega) (T.out ⟨⟨by rw[bf (by omega) (by omega)],hp⟩,Nat.zero_lt_one⟩)
 .dsimp only
  exact T.cf (by rw[cO];omega) (T.out (by rw[D6.mpr ((xG ByteArray.empty).2 λi i0 i1=>hp i i0 i1)]))
def GI(l:List ByteArray)(w:ByteArray):Bool:=l.any λx=>sEq w x
theorem zi(l:List ByteArray)(w:ByteArray)(h:l.length<=9223372036854775807):m55 l w=some (GI l w,()):=by
 refine T.eq ?_
 unfold m55
 have hl:=aW l
 have key:T (m97 l w) (λy=>iLe 0 y.1=GI l w):=by
  unfold m97
  refine T.pass (l.length:Int) (λk=>sEq w (atI l k ByteArray.empty)=false) (λk=>(l,w,aA l,k,())) (by omega) (λk h0 h1 _=>?_) (λhp=>?_)
  .dsimp only
   refine T.ct (by rw[bS];omega) (T.grd (by rw[bT];omega) (T.cnd (λq=>T.out ?_) (λq=>T.go ⟨?_,q⟩ (by omega))))
   .rw[eG.mpr h0]
    exact(iO.2 ⟨_,at_mem _ h0 h1,q⟩).symm
   .rw[bf (by omega) (by omega)]
  .dsimp only
   refine T.cf (by rw[cO];omega) (T.out ?_)
   rw[show iLe 0 (-1)=false from rfl]
   refine(qm.2 λx hx=>?_).symm
   obtain⟨k,h0,h1,rfl⟩:=EF (z:=ByteArray.empty) hx
   rw[hp k h0 h1];exact Bool.false_ne_true
 exact T.call key λy q=>T.ret (by rw[q])
theorem Ka{l:List ByteArray}{k:Int}(h0:0<=k)(h1:k<=(l.length:Int)){w:ByteArray}:(GI (rD 0 k l) w=false)=∀j,0<=j->j<k->¬w=atI l j ByteArray.empty:=by
 rw[show rD 0 k l=l.take k.toNat from rfl]
 unfold GI
 rw[qm,eq_iff_iff]
 constructor
 .intro h j j0 j1 q
  have hj:j.toNat<(l.take k.toNat).length:=by rw[jR];omega
  refine h _ (jA hj) ?_
  rw[vX,q,List.getElem_take]
  conv=>lhs;rw[<- gQ j0]
  exact GZ _
 .intro h x hx q
  obtain⟨j,hj,rfl⟩:=nM.1 hx
  have hj2:j<k.toNat/\j<l.length:=by rw[jR]at hj;omega
  refine h (j:Int) (by omega) (by omega) ?_
  rw[vX.mp q,List.getElem_take,GZ hj2.2]
def rO(l:List ByteArray):Bool:=decide (1<=l.length/\l.length<=12)&&(l.all dR&&dst l)
theorem Kc{l:List ByteArray}(hp:∀k:Int,0<=k->k<(l.length:Int)->dR (atI l k ByteArray.empty)=true/\∀j,0<=j->j<k->¬atI l k ByteArray.empty=atI l j ByteArray.empty):(l.all dR&&dst l)=true:=by
 rw[uo λk h0 h1=>(hp k h0 h1).1,D6.mpr ((xG ByteArray.empty).2 λi i0 i1=>(hp i i0 i1).2)];rfl
theorem RJ{l:List ByteArray}{k:Int}(h0:0<=k)(h1:k<(l.length:Int))(h:dR (atI l k ByteArray.empty)=false):(l.all dR&&dst l)=false:=by
 rw[wJ h0 h1 h];rfl
theorem RN{l:List ByteArray}{k:Int}(h0:0<=k)(h1:k<(l.length:Int))(h:GI (rD 0 k l) (atI l k ByteArray.empty)=true):(l.all dR&&dst l)=false:=by
 have:dst l=false:=by
  rw[a4D]
  intro hn
  have:=(xG ByteArray.empty).1 hn k h0 h1
  rw[<- Ka h0 (by omega),h]at this
  cases this
 rw[this];cases l.all dR<;>rfl
theorem a4U(l:List ByteArray):JN l=some (rO l,()):=by
 refine T.eq ?_
 unfold JN rO
 have hl:=aW l
 refine T.cnd (λhc=>T.ret ?_) (λhc=>?_)<;>simp only[bsX,eq_self]at hc
 .rw[dM (by omega)];rfl
 rw[bW (by omega),iD]
 refine T.pass (l.length:Int) (λk=>dR (atI l k ByteArray.empty)=true/\∀j,0<=j->j<k->¬atI l k ByteArray.empty=atI l j ByteArray.empty) (λk=>(l,l,aA l,k,())) (by omega) (λk h0 h1 _=>?_) (λhp=>?_)
 .dsimp only
  have hc:(rD 0 k l).length<=9223372036854775807:=by rw[show rD 0 k l=l.take k.toNat from rfl,jR];omega
  refine T.ct (by rw[bS];omega) (T.grd (by rw[bT];omega) (T.aN (zO _) ?_))
  refine T.grd (by rw[lg,nS];left;omega) (T.cnd (λq=>T.out ?_) (λq=>T.aN (zi _ _ hc) ?_))
  .rw[RJ h0 h1 (gJ.mp q)]
  refine T.cnd (λr=>T.out ?_) (λr=>T.go ⟨?_,sD.mp q,(Ka h0 (by omega)).mp r⟩ (by omega))
  .rw[RN h0 h1 r]
  .rw[bf (by omega) (by omega)]
 .exact T.cf (by rw[cO];show aA l<=(l.length:Int);omega) (T.out (by rw[Kc hp]))
def EG(op n:Int):Bool:=cond (iEq op 6) (iEq n 1) (cond (iEq op 7) (iLe 2 n) (cond (iEq op 8) (iLe 2 n) (iEq n 0)))
def zJ(op lo hi:Int):Bool:=cond (iEq op 5) (iLe (-1000000000) lo&&(iLe lo 1000000000&&(iLe (-1000000000) hi&&(iLe hi 1000000000&&iLe lo hi)))) (iEq lo 0&&iEq hi 0)
def zC(op:Int)(ws:List ByteArray):Bool:=cond (iEq op 4) (rO ws) (decide (ws.length=0))
def JK(op:Int)(nm:ByteArray):Bool:=cond (cond (cond (iEq op 3) true (iEq op 4)) true (iEq op 5)) (dR nm) (sEq nm (bs []))
def qY(e:DS0):Bool:=iLe 1 e.1&&(iLe e.1 8&&(JK e.1 e.2.1&&(zC e.1 e.2.2.1&&(zJ e.1 e.2.2.2.1 e.2.2.2.2.1&&EG e.1 (List.length (α:=AV) e.2.2.2.2.2.1:Int)))))
theorem NZ(a:Bool)(x y:Bool):(cond a (some (x,())) (some (y,())):Option (Bool×Unit))=some (cond a x y,()):=by cases a<;>rfl
theorem a9l(op lo hi n:Int):(cond (iEq op 5) ((yO lo).bind λy=>cond y.1 (some (false,())) ((yO hi).bind λz=>cond (cond z.1 true (iLt hi lo)) (some (false,())) (cond (iEq op 6) (some (iEq n 1,())) (cond (iEq op 7) (some (iLe 2 n,())) (cond (iEq op 8) (some (iLe 2 n,())) (some (iEq n 0,()))))))) (cond (cond (iNe lo 0) true (iNe hi 0)) (some (false,())) (cond (iEq op 6) (some (iEq n 1,())) (cond (iEq op 7) (some (iLe 2 n,())) (cond (iEq op 8) (some (iLe 2 n,())) (some (iEq n 0,())))))))=some (zJ op lo hi&&EG op n,()):=by
 have far:∀k:Int,yO k=some (!(iLe (-1000000000) k&&iLe k 1000000000),()):=λk=>by
  unfold yO;congr 2;rw[dz,mE,bS,bS,gJ,qj,jZ,jZ];omega
 rw[far,far]
 simp only[iL,NZ]
 unfold zJ
 rw[show iLt hi lo=!iLe lo hi by rw[dz,bS,gJ,jZ],show iNe lo 0=!iEq lo 0 by rw[dz,mM,gJ,dI],show iNe hi 0=!iEq hi 0 by rw[dz,mM,gJ,dI]]
 congr 2
 unfold EG
 generalize cond (iEq op 6) _ _=a
 cases iEq op 5<;>cases iLe (-1000000000) lo<;>cases iLe lo 1000000000<;>cases iLe (-1000000000) hi<;>cases iLe hi 1000000000<;>cases iLe lo hi<;>cases iEq lo 0<;>cases iEq hi 0<;>rfl
theorem a9m(op lo hi:Int):(cond (iEq op 5) ((Bb lo).bind λy=>cond y.1 ((Bb hi).bind λz=>some (cond z.1 (iLe lo hi) false,())) (some (false,()))) (some (cond (iEq lo 0) (iEq hi 0) false,())))=some (zJ op lo hi,()):=by
 unfold Bb zJ
 simp only[iL,NZ]
 congr 2
 cases iEq op 5<;>cases iLe (-1000000000) lo<;>cases iLe lo 1000000000<;>cases iLe (-1000000000) hi<;>cases iLe hi 1000000000<;>cases iLe lo hi<;>cases iEq lo 0<;>cases iEq hi 0<;>rfl
theorem W9{ws:List ByteArray}:iLt 0 (aA ws)=!decide (ws.length=0):=by rw[dz,bS,gJ,jm,aW];omega
theorem b9f(op:Int)(ws:List ByteArray)(h:ws.length<=9223372036854775807)(x:DS0):T (cond (iEq op 4) (cond (cond (iLt (aA ws) 1) true (iLt 12 (aA ws))) (some (.inr (false,()))) ((m29 ws).bind λy=>cond (not y.1) (some (.inr (false,()))) ((m30 ws).bind λz=>cond (not z.1) (some (.inr (false,()))) (some (.inl x))))) (cond (iLt 0 (aA ws)) (some (.inr (false,()))) (some (.inl x)))) (JQ (λj=>j=x/\zC op ws=true) (λy:Bool×Unit=>zC op ws=false/\y=(false,()))):=by
 unfold zC
 cases iEq op 4
 .rw[W9]
  cases decide (ws.length=0)
  .exact T.pV ⟨rfl,rfl⟩
  .exact T.jgo ⟨rfl,rfl⟩
 .have hw:cond (iLt (aA ws) 1) true (iLt 12 (aA ws))=!decide (1<=ws.length/\ws.length<=12):=by rw[dz,mE,bS,bS,gJ,jm,aW];omega
  unfold rO
  rw[hw,JJ _ h,D7 _ h]
  cases decide (1<=ws.length/\ws.length<=12)<;>cases ws.all dR<;>cases dst ws<;>first|exact T.pV ⟨rfl,rfl⟩|exact T.jgo ⟨rfl,rfl⟩
theorem b9g(op:Int)(ws:List ByteArray)(x:DS0):T (cond (iEq op 4) ((JN ws).bind λy=>cond (not y.1) (some (.inr (false,()))) (some (.inl x))) (cond (iLt 0 (aA ws)) (some (.inr (false,()))) (some (.inl x)))) (JQ (λj=>j=x/\zC op ws=true) (λy:Bool×Unit=>zC op ws=false/\y=(false,()))):=by
 unfold zC
 cases iEq op 4
 .rw[W9]
  cases decide (ws.length=0)
  .exact T.pV ⟨rfl,rfl⟩
  .exact T.jgo ⟨rfl,rfl⟩
 .rw[a4U]
  cases rO ws
  .exact T.pV ⟨rfl,rfl⟩
  .exact T.jgo ⟨rfl,rfl⟩
theorem KZ{o:Option (DS0⊕(Bool×Unit))}{f:DS0->Option (Bool×Unit)}{x:DS0}{w b:Bool}(h:T o (JQ (λj=>j=x/\w=true) (λy=>w=false/\y=(false,()))))(hf:f x=some (b,())):lV o f=some (w&&b,()):=by
 refine T.eq (T.join (λj=>j=x/\w=true) (h.mono λr hr=>?_) (λj ⟨he,hw⟩=>?_))
 .cases r with
  |inl s=>exact hr
  |inr r=>rw[hr.2,hr.1];rfl
 .rw[he,hf,hw];exact T.ret rfl
theorem b1B(e:DS0)(h:List.length (α:=ByteArray) e.2.2.1<=9223372036854775807):Uv e=some (qY e,()):=by
 obtain⟨op,nm,ws,lo,hi,l,⟨⟩⟩:=e
 have j:=λf hf=>KZ (f:=f) (b:=zJ op lo hi&&EG op (List.length l:Int)) (b9f op ws h (op,nm,ws,lo,hi,l,())) hf
 unfold Uv qY JK
 dsimp only
 rw[j _ (by exact a9l op lo hi _),Ec]
 rw[show iLt op 1=!iLe 1 op by rw[dz,bS,gJ,jZ],show iLt 8 op=!iLe op 8 by rw[dz,bS,gJ,jZ]]
 cases iLe 1 op<;>cases iLe op 8<;>cases cond (cond (iEq op 3) true (iEq op 4)) true (iEq op 5)<;>cases dR nm<;>cases sEq nm (bs [])<;>rfl
theorem b4k{op:Int}(h1:1<=op)(h8:op<=8):(atI opsL op (ByteArray.empty,false,0,0,0,())).2.1=cond (cond (iEq op 3) true (iEq op 4)) true (iEq op 5):=by
 have:op=1\/op=2\/op=3\/op=4\/op=5\/op=6\/op=7\/op=8:=by omega
 rcases this with rfl|rfl|rfl|rfl|rfl|rfl|rfl|rfl<;>rfl
theorem b4l{op n:Int}(h1:1<=op)(h8:op<=8)(h0:0<=n):cond (iLt n (atI opsL op (ByteArray.empty,false,0,0,0,())).2.2.1) true (iLt (atI opsL op (ByteArray.empty,false,0,0,0,())).2.2.2.1 n)=!(EG op n&&iLe n 300):=by
 have c1:cond (iLt n 0) true (iLt 0 n)=!(iEq n 0&&iLe n 300):=by rw[dz,mE,bS,bS,gJ,qj,dI,jZ];omega
 have c2:cond (iLt n 1) true (iLt 1 n)=!(iEq n 1&&iLe n 300):=by rw[dz,mE,bS,bS,gJ,qj,dI,jZ];omega
 have c3:cond (iLt n 2) true (iLt 300 n)=!(iLe 2 n&&iLe n 300):=by rw[dz,mE,bS,bS,gJ,qj,jZ,jZ]
 have:op=1\/op=2\/op=3\/op=4\/op=5\/op=6\/op=7\/op=8:=by omega
 rcases this with rfl|rfl|rfl|rfl|rfl|rfl|rfl|rfl
 .exact c1
 .exact c1
 .exact c1
 .exact c1
 .exact c1
 .exact c2
 .exact c3
 .exact c3
theorem b1C(e:DS0):P8 e=some (qY e&&iLe (List.length (α:=AV) e.2.2.2.2.2.1:Int) 300,()):=by
 obtain⟨op,nm,ws,lo,hi,l,⟨⟩⟩:=e
 have j:=λf hf=>KZ (f:=f) (b:=zJ op lo hi) (b9g op ws (op,nm,ws,lo,hi,l,())) hf
 by_cases hr:1<=op/\op<=8
 .unfold P8 qY JK
  dsimp only
  rw[j _ (by exact a9m op lo hi),zO]
  have hn:=b4k hr.1 hr.2
  have ha:=b4l hr.1 hr.2 (n:=(List.length l:Int)) (by omega)
  skip
  rw[aW,ha,hn,eG.mpr hr.1,eG.mpr hr.2,lH.mpr ⟨cO.mpr hr.1,cO.mpr hr.2⟩,show bnd op ((9:Nat):Int)=true by rw[bT];omega]
  cases EG op (List.length l:Int)<;>cases iLe (List.length l:Int) 300<;>cases cond (cond (iEq op 3) true (iEq op 4)) true (iEq op 5)<;>cases dR nm<;>cases sEq nm (bs [])<;>cases zC op ws<;>cases zJ op lo hi<;>rfl
 .have e1:cond (iLt op 1) true (iLt 8 op)=true:=by rw[mE,bS,bS];omega
  unfold P8 qY
  dsimp only
  rw[e1]
  rcases Int.lt_or_le op 1 with q|q
  .rw[jZ.mpr q];rfl
  .rw[eG.mpr q,jZ.mpr (show 8<op by omega)];rfl
def sm(f:AV->Nat)(l:List AV)(k:Nat):Nat:=((l.take k).map f).sum
theorem ET{f:AV->Nat}{l:List AV}{k:Int}(z:AV)(h0:0<=k)(h1:k<(l.length:Int)):sm f l (k+1).toNat=sm f l k.toNat+f (atI l k z):=by
  have h:k.toNat<l.length:=by omega
  unfold sm
  rw[show(k+1).toNat=k.toNat+1 by omega,List.take_add_one,ah h,aU,jH]
  have : atI l k z = l[k.toNat] := by conv => lhs; rw [<- gQ h0]
                                      exact GZ h
  rw[this];simp
theorem Ia{f:AV->Nat}{l:List AV}:sm f l l.length=(l.map f).sum:=by unfold sm;rw[mI]
theorem I9{f:AV->Nat}:∀(l:List AV) (k:Nat),sm f l k<=(l.map f).sum
 |[],k=>by unfold sm;simp
 |a::l,0=>by unfold sm;simp
 |a::l,k+1=>by have:=I9 (f:=f) l k;unfold sm at *;rw[List.take_succ_cons,bg,bg,fM,fM];omega
theorem O5(M:Nat)(f:AV->Nat):∀(l:List AV) (k c:Nat),min (c+sm (λa=>min (f a) M) l k) M=min (c+sm f l k) M
 |[],k,c=>by unfold sm;simp
 |a::l,0,c=>by unfold sm;simp
 |a::l,k+1,c=>by
  have h1:=O5 M f l k (c+min (f a) M)
  have h2:sm (λa=>min (f a) M) (a::l) (k+1)=min (f a) M+sm (λa=>min (f a) M) l k:=by unfold sm;simp
  have h3:sm f (a::l) (k+1)=f a+sm f l k:=by unfold sm;simp
  rw[h2,h3];omega
def XE:Nat->DS0->Prop
 |0,_=>False
 |k+1,e=>List.length (α:=ByteArray) e.2.2.1<=9223372036854775807/\List.length (α:=AV) e.2.2.2.2.2.1<=9223372036854775807/\∀a∈e.2.2.2.2.2.1,qy a=true/\XE k (aQ a)
theorem XE.up:∀{k:Nat} {e:DS0},XE k e->∀d,XE (k+d) e
 |0,_,h,_=>h.elim
 |k+1,e,h,d=>by
  rw[show k+1+d=(k+d)+1 by omega]
  exact⟨h.1,h.2.1,λa ha=>⟨(h.2.2 a ha).1,(h.2.2 a ha).2.up d⟩⟩
def XX(e:DS0):Prop:=∃k,XE k e
def XA(l:List AV):Prop:=l.length<=9223372036854775807/\∀a∈l,qy a=true/\XX (aQ a)
theorem XX.out{e:DS0}(h:XX e):List.length (α:=ByteArray) e.2.2.1<=9223372036854775807/\XA e.2.2.2.2.2.1:=by
 obtain⟨k,hk⟩:=h
 cases k with
 |zero=>exact hk.elim
 |succ k=>exact⟨hk.1,hk.2.1,λa ha=>⟨(hk.2.2 a ha).1,k,(hk.2.2 a ha).2⟩⟩
theorem XA.g{l:List AV}(h:XA l){k:Int}(h0:0<=k)(h1:k<(l.length:Int)):and (bnd k (aA l)) (qy (atI l k AV.any))=true :=
 dx.mpr ⟨by rw[bT,aW];omega,(h.2 _ (at_mem _ h0 h1)).1⟩
def okE:Nat->DS0->Bool
 |0,_=>false
 |k+1,e=>qY e&&List.all (α:=AV) e.2.2.2.2.2.1 λa=>okE k (aQ a)
def dpE:Nat->DS0->Bool
 |0,_=>false
 |k+1,e=>List.all (α:=AV) e.2.2.2.2.2.1 λa=>dpE k (aQ a)
def szE:Nat->DS0->Nat
 |0,_=>1
 |k+1,e=>1+(List.map (α:=AV) (λa=>szE k (aQ a)) e.2.2.2.2.2.1).sum
theorem Bt:∀(k:Nat) (e:DS0),1<=szE k e
 |0,_=>aS _
 |k+1,e=>rG 1 _
theorem FH:∀{k:Nat} {e:DS0},okE k e=true->dpE k e=true
 |0,_,h=>h
 |k+1,e,h=>by
  unfold okE at h
  rw[dx]at h
  exact aD.2 λa ha=>FH (aD.1 h.2 a ha)
theorem FE:∀{k:Nat} {e:DS0},dpE k e=true->∀d,dpE (k+d) e=true/\szE (k+d) e=szE k e/\okE (k+d) e=okE k e
 |0,_,h,_=>by cases h
 |k+1,e,h,d=>by
  have hc:=λa ha=>FE (aD.1 h a ha) d
  rw[show k+1+d=(k+d)+1 by omega]
  refine⟨aD.2 λa ha=>(hc a ha).1,?_,?_⟩
  .unfold szE
   congr 2
   exact oz λa ha=>(hc a ha).2.1
  .unfold okE
   congr 1
   rw[dz,aD,aD]
   exact⟨λq a ha=>(hc a ha).2.2▸q a ha,λq a ha=>(hc a ha).2.2.symm▸q a ha⟩
theorem a2Q{F:Nat}{x:DS0×Int×Unit}(h:XX x.1/\0<=x.2.1/\x.2.1<=16/\x.2.1<F):T (eH (λself (x:DS0×Int×Unit)=>MB self x.1 x.2.1) F x) (λy:Bool×Unit=>y=(!dpE x.2.1.toNat x.1,())):=by
 refine T.iter (λF (x:DS0×Int×Unit)=>XX x.1/\0<=x.2.1/\x.2.1<=16/\x.2.1<F) (λ_ x (y:Bool×Unit)=>y=(!dpE x.2.1.toNat x.1,())) (λF x h self hs=>?_) (λx h=>by have:=h.2;omega) F x h
 obtain⟨⟨op,nm,ws,lo,hi,l,⟨⟩⟩,n,⟨⟩⟩:=x
 obtain⟨hx,n0,n2,n1⟩:=h
 obtain⟨_,hA⟩:=hx.out
 dsimp only at n0 n1 n2 hA ⊢
 unfold MB
 dsimp only
 have hl:=hA.1
 refine T.cnd (λhc=>T.ret ?_) (λhc=>?_)<;>simp only[bsX,eq_self]at hc
 .rw[hc];rfl
 obtain⟨m,rfl⟩:∃m:Nat,n=(m:Int)+1:=⟨n.toNat-1,by omega⟩
 rw[show((m:Int)+1).toNat=m+1 by omega]
 unfold dpE
 refine T.pass (l.length:Int) (λk=>dpE m (aQ (atI l k AV.any))=true) (λk=>((m:Int)+1,k,op,nm,ws,lo,hi,l,())) (by omega) (λk h0 h1 _=>?_) (λhp=>?_)
 .dsimp only
  refine T.ct (by rw[bS,aW];exact h1) (T.grd (hA.g h0 h1) (T.call (hs (_,_,()) ⟨(hA.2 _ (at_mem _ h0 h1)).2,?_,?_,?_⟩) (λy hy=>?_)))
  .dsimp only;rw[dG (by omega) (by omega)];omega
  .dsimp only;rw[dG (by omega) (by omega)];omega
  .dsimp only;rw[dG (by omega) (by omega)];omega
  rw[hy]
  dsimp only
  rw[dG (by omega) (by omega),show((m:Int)+1-1).toNat=m by omega]
  cases q:dpE m (aQ (atI l k AV.any)) with
  |false=>exact T.out (by show((true,()):Bool×Unit)=_;rw[wJ (p:=λa=>dpE m (aQ a)) h0 h1 q];rfl)
  |true=>exact T.go ⟨by rw[bf (by omega) (by omega)],rfl⟩ (by omega)
 .dsimp only
  exact T.cf (by rw[cO,aW];omega) (T.out (by rw[uo (p:=λa=>dpE m (aQ a)) hp];rfl))
theorem a9v{F:Nat}{x:DS0×Unit}(h:XX x.1/\dpE F x.1=true):T (eH (λself (x:DS0×Unit)=>Mx self x.1) F x) (λy:Int×Unit=>y=(((min (szE F x.1) 301:Nat):Int),())):=by
 refine T.iter (λF (x:DS0×Unit)=>XX x.1/\dpE F x.1=true) (λF x (y:Int×Unit)=>y=(((min (szE F x.1) 301:Nat):Int),())) (λF x h self hs=>?_) (λx h=>by have:=h.2;cases this) F x h
 obtain⟨⟨op,nm,ws,lo,hi,l,⟨⟩⟩,⟨⟩⟩:=x
 obtain⟨hx,hd⟩:=h
 obtain⟨_,hA⟩:=hx.out
 have hd:=aD.1 hd
 dsimp only at hA hd ⊢
 have hl:=hA.1
 unfold Mx szE
 dsimp only
 generalize hf:(λa=>szE F (aQ a))=f
 have hm:=λk c=>O5 301 f l k c
 have hle:=I9 (f:=f) l
 refine T.pass (l.length:Int) (λk=>True) (λk=>(((1+sm (λa=>min (f a) 301) l k.toNat:Nat):Int),k,op,nm,ws,lo,hi,l,())) (by omega) (λk h0 h1 _=>?_) (λhp=>?_)
 .dsimp only
  refine T.cnd (λhc=>?_) (λhc=>?_)<;>simp only[bsX,eq_self]at hc
  .refine T.grd (hA.g h0 h1) (T.call (hs (_,()) ⟨(hA.2 _ (at_mem _ h0 h1)).2,hd _ (at_mem _ h0 h1)⟩) (λy hy=>T.go ⟨?_,trivial⟩ (by omega)))
   rw[hy,bf (by omega) (by omega),bf (by omega) (by omega),ET AV.any h0 h1,<- hf]
   dsimp only
   congr 1
   omega
  .refine T.out ?_
   have:=hm k.toNat 1
   have:=hle k.toNat
   unfold jv
   rw[show min ((1+sm (λa=>min (f a) 301) l k.toNat:Nat):Int) 301=((min (1+(List.map f l).sum) 301:Nat):Int) by omega]
 .dsimp only
  refine T.cf (by rw[rT,cO,aW];left;omega) (T.out ?_)
  have:=hm l.length 1
  rw[Ia (f:=f)]at this
  unfold jv
  rw[fG,show min ((1+sm (λa=>min (f a) 301) l l.length:Nat):Int) 301=((min (1+(List.map f l).sum) 301:Nat):Int) by omega]
theorem a6k{F:Nat}{x:DS0×Unit}(h:XX x.1/\dpE F x.1=true):T (eH (λself (x:DS0×Unit)=>Mw self x.1) F x) (λy:Bool×Unit=>y=(okE F x.1,())):=by
 refine T.iter (λF (x:DS0×Unit)=>XX x.1/\dpE F x.1=true) (λF x (y:Bool×Unit)=>y=(okE F x.1,())) (λF x h self hs=>?_) (λx h=>by have:=h.2;cases this) F x h
 obtain⟨⟨op,nm,ws,lo,hi,l,⟨⟩⟩,⟨⟩⟩:=x
 obtain⟨hx,hd⟩:=h
 obtain⟨hw,hA⟩:=hx.out
 have hd:=aD.1 hd
 dsimp only at hw hA hd ⊢
 have hl:=hA.1
 unfold Mw okE
 dsimp only
 refine T.aN (b1B _ hw) ?_
 dsimp only
 cases qY (op,nm,ws,lo,hi,l,())
 .exact T.ret rfl
 refine T.cf rfl ?_
 refine T.pass (l.length:Int) (λk=>okE F (aQ (atI l k AV.any))=true) (λk=>(k,op,nm,ws,lo,hi,l,())) (by omega) (λk h0 h1 _=>?_) (λhp=>?_)
 .dsimp only
  refine T.ct (by rw[bS,aW];exact h1) (T.grd (hA.g h0 h1) (T.call (hs (_,()) ⟨(hA.2 _ (at_mem _ h0 h1)).2,hd _ (at_mem _ h0 h1)⟩) (λy hy=>?_)))
  rw[hy]
  refine T.round (by rw[bf (by omega) (by omega)]) id (λq=>?_)
  rw[wJ (p:=λa=>okE F (aQ a)) h0 h1 q];rfl
 .dsimp only
  exact T.cf (by rw[cO,aW];omega) (T.out (by rw[uo (p:=λa=>okE F (aQ a)) hp];rfl))
def je(e:DS0):Bool:=okE 16 e&&decide (szE 16 e<=300)
theorem Z8(e:DS0)(h:XX e):m98 e=some (je e,()):=by
 refine T.eq ?_
 unfold m98 je
 refine T.call (a2Q (F:=10000) (x:=(e,16,())) ⟨h,by dsimp only;omega,by dsimp only;omega,by dsimp only;omega⟩) (λy hy=>?_)
 have hy:y=(!dpE 16 e,()):=hy
 rw[hy]
 dsimp only
 cases q:dpE 16 e with
 |false =>
  have:okE 16 e=false:=by cases r:okE 16 e with
   |false=>rfl
   |true=>rw[FH r]at q;cases q
  rw[this];exact T.ret rfl
 |true =>
  obtain⟨d1,d2,d3⟩:=FE q 9984
  refine T.ct rfl (T.call (a9v (F:=10000) (x:=(e,())) ⟨h,d1⟩) (λz hz=>?_))
  rw[hz]
  have e1:szE 10000 e=szE 16 e:=d2
  dsimp only
  rw[e1]
  by_cases hs:szE 16 e<=300
  .refine T.ct (by rw[eG];omega) (T.call (a6k (F:=10000) (x:=(e,())) ⟨h,d1⟩) (λv hv=>T.ret ?_))
   rw[hv,bW hs,uX]
   exact dn (λb=>(b,())) d3
  .refine T.cf (by rw[jZ];omega) (T.ret ?_)
   rw[dM hs,Bool.and_false]
theorem a4W{F:Nat}{x:DS0×Int×Int×Unit}(h:XX x.1/\(1<=x.2.1/\x.2.1<=17/\17-x.2.1<F)/\0<=x.2.2.1/\x.2.2.1<=300):T (eH (λself (x:DS0×Int×Int×Unit)=>MC self x.1 x.2.1 x.2.2.1) F x) (λy:Bool×Int×Unit=>y.1=(okE (17-x.2.1).toNat x.1&&decide (x.2.2.1+szE (17-x.2.1).toNat x.1<=300))/\(y.1=true->y.2.1=x.2.2.1+szE (17-x.2.1).toNat x.1)):=by
 refine T.iter (λF (x:DS0×Int×Int×Unit)=>XX x.1/\(1<=x.2.1/\x.2.1<=17/\17-x.2.1<F)/\0<=x.2.2.1/\x.2.2.1<=300) (λF x (y:Bool×Int×Unit)=>y.1=(okE (17-x.2.1).toNat x.1&&decide (x.2.2.1+szE (17-x.2.1).toNat x.1<=300))/\(y.1=true->y.2.1=x.2.2.1+szE (17-x.2.1).toNat x.1)) (λF x h self hs=>?_) (λx h=>by have:=h.2.1;omega) F x h
 obtain⟨⟨op,nm,ws,lo,hi,l,⟨⟩⟩,d,s,⟨⟩⟩:=x
 obtain⟨hx,⟨d0,d1,d2⟩,s0,s1⟩:=h
 obtain⟨hw,hA⟩:=hx.out
 dsimp only at hA d0 d1 d2 s0 s1 ⊢
 have hl:=hA.1
 unfold MC
 dsimp only
 rw[bf (by omega) (by omega)]
 have no:∀{b:Bool} {z:Int},b=false->T (some (false,z,())) (λy:Bool×Int×Unit=>y.1=b/\(y.1=true->y.2.1=s+szE (17-d).toNat (op,nm,ws,lo,hi,l,()))):=λhb=>T.ret ⟨hb.symm,λq=>by cases q⟩
 refine T.cnd (λhc=>no ?_) (λhc=>?_)<;>simp only[bsX,eq_self]at hc
 .have:=Bt (17-d).toNat (op,nm,ws,lo,hi,l,PUnit.unit)
  rcases hc with q|q
  .rw[qj];right;exact dM (by omega)
  .rw[show(17-d).toNat=0 by omega];rfl
 obtain⟨r,hr⟩:∃r:Nat,(17-d).toNat=r+1:=⟨(17-d).toNat-1,by omega⟩
 rw[hr]at no ⊢
 unfold szE at no ⊢
 unfold okE
 dsimp only at no ⊢
 generalize hf:(λa=>szE r (aQ a))=f at no ⊢
 have hle:=I9 (f:=f) l
 refine T.aN (b1C _) ?_
 dsimp only
 refine T.cnd (λhn=>no ?_) (λhn=>?_)
 .rw[gJ,qj,jZ]at hn
  rcases hn with q|q
  .rw[q];rfl
  .rw[qj];right
   have:∀l:List AV,l.length<=(l.map f).sum:=λl=>by
    induction l with
    |nil=>exact bN _
    |cons a l ih=>have:=Bt r (aQ a);rw[<- hf]at *;simp at *;omega
   have:=this l
   exact dM (by omega)
 rw[sD,dx]at hn
 rw[hn.1,iD,show s+1=s+1+((sm f l (Int.toNat 0):Nat):Int) by show s+1=s+1+((sm f l 0:Nat):Int);have:sm f l 0=0:=(by unfold sm;simp);omega]
 refine T.pass (l.length:Int) (λk=>okE r (aQ (atI l k AV.any))=true/\s+1+(sm f l (k+1).toNat:Int)<=300) (λk=>(d,l,aA l,k,s+1+(sm f l k.toNat:Int),())) (by omega) (λk h0 h1 hp=>?_) (λhp=>?_)
 .dsimp only
  have hk:s+1+(sm f l k.toNat:Int)<=300:=by
   by_cases hz:k=0
   .rw[hz];show s+1+((sm f l 0:Nat):Int)<=300
    have:sm f l 0=0:=by unfold sm;simp
    omega
   .have:=(hp (k-1) (by omega) (by omega)).2
    rwa [show k-1+1=k by omega]at this
  refine T.ct (by rw[bS,aW];exact h1) (T.grd (hA.g h0 h1) (T.call (hs (aQ (atI l k AV.any),_,_,()) ⟨(hA.2 _ (at_mem _ h0 h1)).2,⟨?_,?_,?_⟩,?_,hk⟩) (λy hy=>?_)))
  .dsimp only;rw[bf (by omega) (by omega)];omega
  .dsimp only;rw[bf (by omega) (by omega)];omega
  .dsimp only;rw[bf (by omega) (by omega)];omega
  .dsimp only;omega
  dsimp only at hy
  rw[bf (by omega) (by omega),show(17-(d+1)).toNat=r by omega]at hy
  obtain⟨y1,y2⟩:=hy
  have hz:=ET (f:=f) AV.any h0 h1
  have hfk:f (atI l k AV.any)=szE r (aQ (atI l k AV.any)):=by rw[<- hf]
  cases q:y.1 with
  |false =>
   refine T.out ⟨?_,λq=>by cases q⟩
   rw[q]at y1
   show false=_
   rcases qj.mp y1.symm with w|w
   .rw[wJ (p:=λa=>okE r (aQ a)) h0 h1 w];rfl
   .have:=of_decide_eq_false w
    have:=hle (k+1).toNat
    symm;rw[qj];right
    exact dM (by omega)
  |true =>
   have y2:=y2 q
   rw[q]at y1
   obtain⟨w1,w2⟩:=dx.mp y1.symm
   have w2:=of_decide_eq_true w2
   refine T.go ⟨?_,w1,by omega⟩ (by omega)
   rw[bf (by omega) (by omega),y2]
   congr 5
   omega
 .dsimp only
  refine T.cf (by rw[cO,aW];omega) (T.out ?_)
  have ha:List.all (α:=AV) l (λa=>okE r (aQ a))=true:=uo (p:=λa=>okE r (aQ a)) λk h0 h1=>(hp k h0 h1).1
  have hz:sm f l (l.length:Int).toNat=(List.map f l).sum:=by rw[fG,Ia]
  have hk:s+1+(sm f l (l.length:Int).toNat:Int)<=300:=by
   by_cases hz:(l.length:Int)=0
   .have:sm f l 0=0:=by unfold sm;simp
    rw[hz];show s+1+((sm f l 0:Nat):Int)<=300
    omega
   .have:=(hp ((l.length:Int)-1) (by omega) (by omega)).2
    rwa [show(l.length:Int)-1+1=l.length by omega]at this
  rw[ha,iD]
  exact⟨(bW (by omega)).symm,λ_=>by dsimp only;omega⟩
theorem Qg(e:DS0)(h:XX e):m93 e=some (je e,()):=by
 refine T.eq ?_
 unfold m93 je
 refine T.call (a4W (F:=10000) (x:=(e,1,0,())) ⟨h,by dsimp only;omega,by dsimp only;omega,by dsimp only;omega⟩) (λy hy=>T.ret ?_)
 have h1:y.1=(okE 16 e&&decide ((0:Int)+(szE 16 e:Int)<=300)):=hy.1
 rw[h1]
 congr 2
 rw[decide_eq_decide];omega
def XB:Nat->List AV->Prop
 |0,_=>False
 |k+1,l=>l.length<=9223372036854775807/\∀a∈l,lN a=true/\XX (aM a).2.1/\XB k (aM a).2.2.1
theorem XB.up:∀{k:Nat} {l:List AV},XB k l->∀d,XB (k+d) l
 |0,_,h,_=>h.elim
 |k+1,l,h,d=>by
  rw[show k+1+d=(k+d)+1 by omega]
  exact⟨h.1,λa ha=>⟨(h.2 a ha).1,(h.2 a ha).2.1,(h.2 a ha).2.2.up d⟩⟩
def BB(l:List AV):Prop:=∃k,XB k l
def BA(l:List AV):Prop:=l.length<=9223372036854775807/\∀a∈l,lN a=true/\XX (aM a).2.1/\BB (aM a).2.2.1
theorem BB.out{l:List AV}(h:BB l):BA l:=by
 obtain⟨k,hk⟩:=h
 cases k with
 |zero=>exact hk.elim
 |succ k=>exact⟨hk.1,λa ha=>⟨(hk.2 a ha).1,(hk.2 a ha).2.1,k,(hk.2 a ha).2.2⟩⟩
theorem okg{l:List AV}(h:∀a∈l,lN a=true){k:Int}(h0:0<=k)(h1:k<(l.length:Int)):and (bnd k (aA l)) (lN (atI l k AV.any))=true :=
 dx.mpr ⟨by rw[bT,aW];omega,h _ (at_mem _ h0 h1)⟩
def cnB:Nat->List AV->Nat
 |0,l=>l.length
 |k+1,l=>l.length+(l.map λa=>cnB k (aM a).2.2.1).sum
theorem Sn:∀(k:Nat) (l:List AV),XB k l->∀n,k<=n->eH (λself (x:List AV×Unit)=>Gp self x.1) n (l,())=some (((min (cnB k l) 41:Nat):Int),())
 |0,_,h,_,_=>h.elim
 |k+1,l,h,n,hn=>by
  obtain⟨n,rfl⟩:∃m,n=m+1:=⟨n-1,by omega⟩
  have hs:=fun(a:AV) (ha:a∈l)=>Sn k _ (h.2 a ha).2.2 n (by omega)
  have hl:=h.1
  refine T.eq ?_
  show T (Gp (eH (λself (x:List AV×Unit)=>Gp self x.1) n) l) _
  generalize eH (λself (x:List AV×Unit)=>Gp self x.1) n=self at hs ⊢
  unfold Gp cnB
  generalize hf:(λa=>cnB k (aM a).2.2.1)=f
  have hm:=λk c=>O5 41 f l k c
  have hle:=I9 (f:=f) l
  rw[show aA l=((l.length+sm (λa=>min (f a) 41) l (Int.toNat 0):Nat):Int) by have:sm (λa=>min (f a) 41) l (Int.toNat 0)=0:=(by show sm _ l 0=0;unfold sm;simp);rw[this,aW];omega]
  refine T.pass (l.length:Int) (λk=>True) (λk=>(l,((l.length+sm (λa=>min (f a) 41) l k.toNat:Nat):Int),k,())) (by omega) (λk h0 h1 _=>?_) (λhp=>?_)
  .dsimp only
   refine T.cnd (λhc=>?_) (λhc=>?_)<;>simp only[bsX,eq_self]at hc
   .refine T.grd (okg (λa ha=>(h.2 a ha).1) h0 h1) (T.aN (hs _ (at_mem _ h0 h1)) (T.go ⟨?_,trivial⟩ (by omega)))
    rw[bf (by omega) (by omega),bf (by omega) (by omega),ET AV.any h0 h1,<- hf]
    dsimp only
    congr 2
    omega
   .refine T.out ?_
    have:=hm k.toNat l.length
    have:=hle k.toNat
    unfold jv
    rw[show min ((l.length+sm (λa=>min (f a) 41) l k.toNat:Nat):Int) 41=((min (l.length+(List.map f l).sum) 41:Nat):Int) by omega]
  .dsimp only
   refine T.cf (by rw[rT,cO,aW];left;omega) (T.out ?_)
   have:=hm l.length l.length
   rw[Ia (f:=f)]at this
   unfold jv
   rw[fG,show min ((l.length+sm (λa=>min (f a) 41) l l.length:Nat):Int) 41=((min (l.length+(List.map f l).sum) 41:Nat):Int) by omega]
theorem a6U{k:Nat}{l:List AV}(h:XB k l):m99 l=some (((min (cnB k l) 41:Nat):Int),()):=a6M k (Sn k l h)
def okB:Nat->List AV->Bool
 |0,l=>decide (l.length=0)
 |k+1,l=>l.all λa=>dR (aM a).1&&(je (aM a).2.1&&okB k (aM a).2.2.1)
theorem Vs:∀{k:Nat} {l:List AV},okB k l=true->∀d,cnB (k+d) l=cnB k l
 |0,l,h,d=>by
  have:l=[]:=bC.1 (of_decide_eq_true h)
  subst this
  cases d<;>rfl
 |k+1,l,h,d=>by
  rw[show k+1+d=(k+d)+1 by omega]
  unfold cnB
  congr 2
  exact oz λa ha=>Vs (dx.mp (dx.mp (aD.1 h a ha)).2).2 d
theorem a7g{F:Nat}{x:List AV×Int×Unit}(h:BB x.1/\0<=x.2.1/\x.2.1<=16/\x.2.1<F):T (eH (λself (x:List AV×Int×Unit)=>MJ self x.1 x.2.1) F x) (λy:Bool×Unit=>y=(okB x.2.1.toNat x.1,())):=by
 refine T.iter (λF (x:List AV×Int×Unit)=>BB x.1/\0<=x.2.1/\x.2.1<=16/\x.2.1<F) (λ_ x (y:Bool×Unit)=>y=(okB x.2.1.toNat x.1,())) (λF x h self hs=>?_) (λx h=>by have:=h.2;omega) F x h
 obtain⟨l,n,⟨⟩⟩:=x
 obtain⟨hx,n0,n2,n1⟩:=h
 have hA:=hx.out
 dsimp only at n0 n1 n2 hA ⊢
 have hl:=hA.1
 unfold MJ
 refine T.cnd (λhc=>T.ret ?_) (λhc=>?_)<;>simp only[bsX,eq_self]at hc
 .rw[hc.2]
  have:=hc.1
  show _=(decide (l.length=0),())
  rw[dM (by omega)]
 by_cases hn:n=0
 .subst hn
  have hz:l.length=0:=by omega
  have:l=[]:=bC.1 hz
  subst this
  exact⟨_,vD rfl,rfl⟩
 obtain⟨m,rfl⟩:∃m:Nat,n=(m:Int)+1:=⟨n.toNat-1,by omega⟩
 rw[show((m:Int)+1).toNat=m+1 by omega]
 unfold okB
 generalize hp:(λa=>dR (aM a).1&&(je (aM a).2.1&&okB m (aM a).2.2.1))=p
 have hk:∀a,p a=(dR (aM a).1&&(je (aM a).2.1&&okB m (aM a).2.2.1)):=λa=>by rw[<- hp]
 refine T.pass (l.length:Int) (λk=>p (atI l k AV.any)=true) (λk=>(l,(m:Int)+1,k,())) (by omega) (λk h0 h1 _=>?_) (λhp=>?_)
 .dsimp only
  have hg:=okg (λa ha=>(hA.2 a ha).1) h0 h1
  have hg2:∀b:Bool,or (and (bnd k (aA l)) (lN (atI l k AV.any))) b=true:=λb=>by rw[hg];rfl
  have hm:=hA.2 _ (at_mem AV.any h0 h1)
  have hk:=hk (atI l k AV.any)
  have no:p (atI l k AV.any)=false->((false,()):Bool×Unit)=(l.all p,()):=λq=>by rw[wJ h0 h1 q]
  refine T.ct (by rw[bS,aW];exact h1) (T.grd hg (T.aN (Ec _) (T.grd (hg2 _) (T.cnd (λq=>T.grd (hg2 _) (T.out (no ?_))) (λq=>T.aN (Z8 _ hm.2.1) (T.grd (hg2 _) (T.cnd (λr=>T.out (no ?_)) (λr=>T.call (hs (_,_,()) ⟨hm.2.2,?_,?_,?_⟩) (λy hy=>?_)))))))))
  .rw[hk,show dR (aM (atI l k AV.any)).1=false from gJ.mp q];rfl
  .rw[hk,show je (aM (atI l k AV.any)).2.1=false from gJ.mp r];cases dR (aM (atI l k AV.any)).1<;>rfl
  .dsimp only;rw[dG (by omega) (by omega)];omega
  .dsimp only;rw[dG (by omega) (by omega)];omega
  .dsimp only;rw[dG (by omega) (by omega)];omega
  rw[hy]
  dsimp only
  rw[dG (by omega) (by omega),show((m:Int)+1-1).toNat=m by omega]
  rw[show dR (aM (atI l k AV.any)).1=true from sD.mp q,show je (aM (atI l k AV.any)).2.1=true from sD.mp r]at hk
  exact T.round (by rw[bf (by omega) (by omega)]) (λw=>hk.trans w) (λw=>no (hk.trans w))
 .dsimp only
  exact T.cf (by rw[cO,aW];omega) (T.out (by rw[uo hp]))
theorem RG(f:AV->Nat):∀l:List AV,(l.map λa=>1+f a).sum=l.length+(l.map f).sum
 |[]=>rfl
 |a::l=>by rw[bg,bg,fM,fM,RG f l,aL];omega
theorem a4T{F:Nat}{x:List AV×Int×Int×Unit}(h:BB x.1/\(1<=x.2.1/\x.2.1<=17/\17-x.2.1<F)/\0<=x.2.2.1/\x.2.2.1<=40):T (eH (λself (x:List AV×Int×Int×Unit)=>Ui self x.1 x.2.1 x.2.2.1) F x) (λy:Bool×Int×Unit=>y.1=(okB (17-x.2.1).toNat x.1&&decide (x.2.2.1+cnB (17-x.2.1).toNat x.1<=40))/\(y.1=true->y.2.1=x.2.2.1+cnB (17-x.2.1).toNat x.1)):=by
 refine T.iter (λF (x:List AV×Int×Int×Unit)=>BB x.1/\(1<=x.2.1/\x.2.1<=17/\17-x.2.1<F)/\0<=x.2.2.1/\x.2.2.1<=40) (λF x (y:Bool×Int×Unit)=>y.1=(okB (17-x.2.1).toNat x.1&&decide (x.2.2.1+cnB (17-x.2.1).toNat x.1<=40))/\(y.1=true->y.2.1=x.2.2.1+cnB (17-x.2.1).toNat x.1)) (λF x h self hs=>?_) (λx h=>by have:=h.2.1;omega) F x h
 obtain⟨l,d,s,⟨⟩⟩:=x
 obtain⟨hx,⟨d0,d1,d2⟩,s0,s1⟩:=h
 have hA:=hx.out
 dsimp only at hA d0 d1 d2 s0 s1 ⊢
 have hl:=hA.1
 have hg:∀{k:Int},0<=k->k<(l.length:Int)->and (bnd k (aA l)) (lN (atI l k AV.any))=true:=λh0 h1=>okg (λa ha=>(hA.2 a ha).1) h0 h1
 unfold Ui
 by_cases hd:d=17
 .subst hd
  show T _ (λy:Bool×Int×Unit=>y.1=(decide (l.length=0)&&decide (s+(l.length:Int)<=40))/\(y.1=true->y.2.1=s+(l.length:Int)))
  refine T.pass (l.length:Int) (λk=>False) (λk=>(17,l,aA l,k,s,())) (by omega) (λk h0 h1 _=>?_) (λhp=>?_)
  .dsimp only
   refine T.ct (by rw[bS,aW];exact h1) (T.grd (hg h0 h1) (T.ct rfl (T.out ⟨?_,λq=>by cases q⟩)))
   rw[dM (by omega)];rfl
  .dsimp only
   have hz:l.length=0:=by
    rcases eD l.length with q|q
    .exact q
    .exact(hp 0 (mU _) (by omega)).elim
   refine T.cf (by rw[cO,aW];omega) (T.out ⟨?_,λ_=>by dsimp only;omega⟩)
   rw[bW hz,bW (by omega)];rfl
 obtain⟨r,hr⟩:∃r:Nat,(17-d).toNat=r+1:=⟨(17-d).toNat-1,by omega⟩
 rw[hr]
 unfold okB cnB
 rw[<- RG]
 generalize hp:(λa=>dR (aM a).1&&(je (aM a).2.1&&okB r (aM a).2.2.1))=p
 have hk:∀a,p a=(dR (aM a).1&&(je (aM a).2.1&&okB r (aM a).2.2.1)):=λa=>by rw[<- hp]
 generalize hf:(λa=>1+cnB r (aM a).2.2.1)=f
 have hfk:∀a,f a=1+cnB r (aM a).2.2.1:=λa=>by rw[<- hf]
 have hle:=I9 (f:=f) l
 have hz0:sm f l 0=0:=by unfold sm;simp
 have no:∀{k:Int} {z:Int},0<=k->k<(l.length:Int)->(p (atI l k AV.any)=false\/40<s+(sm f l (k+1).toNat:Int))->(((false,z,()):Bool×Int×Unit).1=(l.all p&&decide (s+((l.map f).sum:Int)<=40))/\(((false,z,()):Bool×Int×Unit).1=true->((false,z,()):Bool×Int×Unit).2.1=s+((l.map f).sum:Int))):=fun{k z} h0 h1 q=>by
  refine⟨?_,λq=>by cases q⟩
  rcases q with q|q
  .rw[wJ h0 h1 q];rfl
  .have:=hle (k+1).toNat
   symm;rw[qj];right
   exact dM (by omega)
 refine Eq.mpr (dn (λz=>T (bK _ (d,l,aA l,(0:Int),z,())) _) (show s=s+((sm f l (Int.toNat 0):Nat):Int) by show s=s+((sm f l 0:Nat):Int);omega)) (T.pass (l.length:Int) (λk=>p (atI l k AV.any)=true/\s+(sm f l (k+1).toNat:Int)<=40) (λk=>(d,l,aA l,k,s+(sm f l k.toNat:Int),())) (by omega) (λk h0 h1 hp=>?_) (λhp=>?_))
 .dsimp only
  have hm:=hA.2 _ (at_mem AV.any h0 h1)
  have hk:=hk (atI l k AV.any)
  have hz:=ET (f:=f) AV.any h0 h1
  have hfk:=hfk (atI l k AV.any)
  have hs0:s+(sm f l k.toNat:Int)<=40:=by
   by_cases hz:k=0
   .rw[hz];show s+((sm f l 0:Nat):Int)<=40;omega
   .have:=(hp (k-1) (by omega) (by omega)).2
    rwa [show k-1+1=k by omega]at this
  have ea:aR .i64 (s+(sm f l k.toNat:Int)) 1=s+(sm f l k.toNat:Int)+1:=bf (by omega) (by omega)
  rw[ea]
  refine T.ct (by rw[bS,aW];exact h1) (T.grd (hg h0 h1) (T.cnd (λhc=>T.out (no h0 h1 ?_)) (λhc=>?_)))<;>simp only[bsX,eq_self]at hc
  .right;omega
  refine T.aN (zO _) (T.cnd (λq=>T.out (no h0 h1 (.inl ?_))) (λq=>T.aN (Qg (aM (atI l k AV.any)).2.1 hm.2.1) (T.cnd (λw=>T.out (no h0 h1 (.inl ?_))) (λw=>T.call (hs (_,_,_,()) ⟨hm.2.2,⟨?_,?_,?_⟩,?_,?_⟩) (λy hy=>?_)))))
  .rw[hk,show dR (aM (atI l k AV.any)).1=false from gJ.mp q];rfl
  .rw[hk,show je (aM (atI l k AV.any)).2.1=false from gJ.mp w];cases dR (aM (atI l k AV.any)).1<;>rfl
  .dsimp only;rw[bf (by omega) (by omega)];omega
  .dsimp only;rw[bf (by omega) (by omega)];omega
  .dsimp only;rw[bf (by omega) (by omega)];omega
  .dsimp only;omega
  .dsimp only;omega
  rw[show dR (aM (atI l k AV.any)).1=true from sD.mp q,show je (aM (atI l k AV.any)).2.1=true from sD.mp w]at hk
  dsimp only at hy
  rw[bf (by omega) (by omega),show(17-(d+1)).toNat=r by omega]at hy
  obtain⟨y1,y2⟩:=hy
  cases e:y.1 with
  |false =>
   refine T.out (no h0 h1 ?_)
   rw[e]at y1
   rcases qj.mp y1.symm with w|w
   .left;exact hk.trans w
   .right
    have:=of_decide_eq_false w
    omega
  |true =>
   have y2:=y2 e
   rw[e]at y1
   obtain⟨w1,w2⟩:=dx.mp y1.symm
   have w2:=of_decide_eq_true w2
   refine T.go ⟨?_,hk.trans w1,by omega⟩ (by omega)
   rw[bf (by omega) (by omega),y2]
   congr 5
   omega
 .dsimp only
  refine T.cf (by rw[cO,aW];omega) (T.out ?_)
  have ha:l.all p=true:=uo λk h0 h1=>(hp k h0 h1).1
  have hz:sm f l (l.length:Int).toNat=(List.map f l).sum:=by rw[fG,Ia]
  have hk:s+(sm f l (l.length:Int).toNat:Int)<=40:=by
   by_cases hz:(l.length:Int)=0
   .rw[hz];show s+((sm f l 0:Nat):Int)<=40;omega
   .have:=(hp ((l.length:Int)-1) (by omega) (by omega)).2
    rwa [show(l.length:Int)-1+1=l.length by omega]at this
  rw[ha,iD]
  exact⟨(bW (by omega)).symm,λ_=>by dsimp only;omega⟩
def eU(k:Int):Int:=cond (iEq k 5) 1073741824 (cond (iEq k 6) 1073741824 (cond (iEq k 7) 1073741824 (cond (iEq k 10) 1073741824 (cond (iEq k 8) 1000000 0))))
theorem Ed(k:Int):yP k=some (eU k,()):=by
 unfold yP eU
 cases iEq k 5<;>cases iEq k 6<;>cases iEq k 7<;>cases iEq k 10<;>cases iEq k 8<;>rfl
theorem Fb(k:Int):0<=eU k:=by
 unfold eU
 cases iEq k 5<;>cases iEq k 6<;>cases iEq k 7<;>cases iEq k 10<;>cases iEq k 8<;>decide
theorem a8X(k:Int):T (m64 k) (λy=>sEq y.1 (bs [])=!(iLe 1 k&&iLe k 10)):=by
 unfold m64
 by_cases h:1<=k/\k<=10
 .have:k=1\/k=2\/k=3\/k=4\/k=5\/k=6\/k=7\/k=8\/k=9\/k=10:=by omega
  rcases this with rfl|rfl|rfl|rfl|rfl|rfl|rfl|rfl|rfl|rfl<;>exact⟨_,rfl,by dsimp only;kernel_rfl⟩
 .have e:(iLe 1 k&&iLe k 10)=false:=by rw[qj,jZ,jZ];omega
  rw[e]
  iterate 10 refine T.cf (by rw[dI];omega) ?_
  exact⟨_,rfl,by dsimp only;kernel_rfl⟩
def Dc(k a:Int):Bool:=cond (iEq (eU k) 0) (iEq a 0) (iLe 1 a&&iLe a (eU k))
def Jw(k:Int)(l:List AV):Bool:=decide (l.length=0)||(iEq k 3&&(okB 16 l&&decide (cnB 16 l<=40)))
def gK(c:DS1):Bool:=(iLe 1 c.1&&iLe c.1 10)&&(dR c.2.1&&(je c.2.2.1&&(Jw c.1 c.2.2.2.1&&Dc c.1 c.2.2.2.2.1)))
def XCl(c:DS1):Prop:=XX c.2.2.1/\BB c.2.2.2.1
theorem b6U(k a:Int):(cond (cond (iEq (eU k) 0) (iEq a 0) false) (some (true,())) (some (cond (cond (iLt 0 (eU k)) (iLe 1 a) false) (iLe a (eU k)) false,())):Option (Bool×Unit))=some (Dc k a,()):=by
 have:=Fb k
 unfold Dc
 generalize eU k=m at *
 rw[NZ]
 congr 2
 rw[dz]
 by_cases q:m=0
 .subst q;cases h:iEq a 0<;>simp only[bsX,eq_self]at h<;>simp[iEq,iLe,iLt,h]
 .rw[dI.mpr q]
  rw[show iLt 0 m=true by rw[bS];omega]
  cases iLe 1 a<;>cases iLe a m<;>simp
theorem Qt(c:DS1)(h:XCl c):m56 c=some (gK c,()):=by
 obtain⟨k,nm,e,l,a,⟨⟩⟩:=c
 obtain⟨h1,d,hb⟩:=h
 dsimp only at h1 hb
 have hb:=hb.up 16
 refine T.eq ?_
 unfold m56 gK
 dsimp only
 rw[show cond (iLt k 1) true (iLt 10 k)=!(iLe 1 k&&iLe k 10) by rw[dz,mE,bS,bS,gJ,qj,jZ,jZ]]
 cases iLe 1 k&&iLe k 10
 .exact T.ret rfl
 refine T.cf rfl (T.aN (Ec _) ?_)
 cases dR nm
 .exact T.ret rfl
 refine T.cf rfl (T.aN (Z8 e h1) ?_)
 cases je e
 .exact T.ret rfl
 have am:∀b:Bool,b=true->T ((yP k).bind λy=>cond (cond (iEq y.1 0) (iEq a 0) false) (some (true,())) (some (cond (cond (iLt 0 y.1) (iLe 1 a) false) (iLe a y.1) false,()))) (λy=>y=((true&&(true&&(true&&(b&&Dc k a)))),())):=λb q=>by
  refine T.aN (Ed k) ?_
  dsimp only
  rw[b6U,q];exact T.ret rfl
 refine T.cf rfl ?_
 unfold Jw
 refine T.cnd (λhc=>?_) (λhc=>am _ ?_)
 .rw[bS,aW]at hc
  rw[dM (show ¬l.length=0 by omega),uW,show iNe k 3=!iEq k 3 by rw[dz,mM,gJ,dI]]
  cases iEq k 3
  .exact T.ret rfl
  refine T.cf rfl (T.aN (a6U hb) ?_)
  have bk:a2b l 16=some (okB 16 l,()):=T.eq (a7g (F:=10000) (x:=(l,16,())) ⟨⟨_,hb⟩,by dsimp only;omega,by dsimp only;omega,by dsimp only;omega⟩)
  rw[bk]
  cases q:okB 16 l with
  |false=>exact T.cnd (λ_=>T.ret rfl) (λ_=>T.ret rfl)
  |true =>
   have e1:=Vs q d
   rw[Nat.add_comm]at e1
   rw[e1]
   by_cases hn:cnB 16 l<=40
   .rw[bW hn]
    exact T.cf (by rw[cO];omega) (am true rfl)
   .rw[dM hn]
    exact T.ct (by rw[bS];omega) (T.ret rfl)
 .rw[cO,aW]at hc
  rw[bW (show l.length=0 by omega)];rfl
theorem a8Z(k:Int)(l:List AV):Jw k l=cond (cond (iNe k 3) (iLt 0 (aA l)) false) false (okB 16 l&&decide (cnB 16 l<=40)):=by
 unfold Jw
 rw[show iNe k 3=!iEq k 3 by rw[dz,mM,gJ,dI],show iLt 0 (aA l)=!decide (l.length=0) by rw[dz,bS,gJ,jm,aW];omega]
 by_cases h:l.length=0
 .have:l=[]:=bC.1 h
  subst this
  cases iEq k 3<;>simp[okB,cnB]
 .rw[dM h]
  cases iEq k 3<;>rfl
theorem b6V(k a:Int):cond (iLt a (jv 1 (eU k))) true (iLt (eU k) a)=!Dc k a:=by
 have:=Fb k
 unfold Dc jv
 generalize eU k=m at *
 by_cases q:m=0
 .subst q
  rw[kg.mpr rfl,qR,dz,mE,bS,bS,gJ,dI];omega
 .rw[dI.mpr q,mO,dz,mE,bS,bS,gJ,qj,jZ,jZ];omega
theorem a2T(c:DS1)(h:XCl c):m52 c=some (gK c,()):=by
 obtain⟨k,nm,e,l,a,⟨⟩⟩:=c
 obtain⟨h1,h2⟩:=h
 dsimp only at h1 h2
 refine T.eq ?_
 unfold m52 gK
 dsimp only
 refine T.call (a8X k) (λy hy=>?_)
 rw[hy,a8Z]
 cases iLe 1 k&&iLe k 10
 .exact T.ret rfl
 refine T.cf rfl (T.aN (zO _) ?_)
 cases dR nm
 .exact T.ret rfl
 refine T.cf rfl (T.aN (Qg e h1) ?_)
 cases je e
 .exact T.ret rfl
 refine T.cf rfl ?_
 cases cond (iNe k 3) (iLt 0 (aA l)) false
 .refine T.cf rfl (T.aN (show m65 k=some (eU k,()) from Ed k) ?_)
  dsimp only
  rw[b6V]
  cases Dc k a
  .exact T.ret (by cases okB 16 l&&decide (cnB 16 l<=40)<;>rfl)
  refine T.cf rfl (T.call (a4T (F:=10000) (x:=(l,1,0,())) ⟨h2,by dsimp only;omega,by dsimp only;omega,by dsimp only;omega⟩) (λy hy=>T.ret ?_))
  have e1:y.1=(okB 16 l&&decide ((0:Int)+(cnB 16 l:Int)<=40)):=hy.1
  rw[e1,show decide ((0:Int)+(cnB 16 l:Int)<=40)=decide (cnB 16 l<=40) by rw[decide_eq_decide];omega]
  cases okB 16 l&&decide (cnB 16 l<=40)<;>rfl
 .exact T.ret rfl
def lX(l:List DS1):Bool:=decide (l.length<=40)&&l.all gK
theorem Lp(l:List DS1)(h:∀c∈l,XCl c):m27 l=some (lX l,()):=by
 unfold m27 lX
 have hl:=aW l
 by_cases hc:l.length<=40
 .rw[cO.mpr (by omega),bW hc,iD]
  refine T.a3n l zS1 gK (λk=>(l,k,())) (λk h0 h1=>?_) ?_
  .dsimp only
   refine T.ct (by rw[bS];omega) (T.grd (by rw[bT];omega) (T.aN (Qt _ (h _ (at_mem _ h0 h1))) (T.round ?_ id (λq=>⟨q,rfl⟩))))
   rw[bf (by omega) (by omega)]
  .dsimp only
   rw[cO.mpr (by omega)];rfl
 .rw[bS.mpr (by omega),dM hc];rfl
theorem Lr(l:List DS1)(h:∀c∈l,XCl c):m25 l=some (lX l,()):=by
 unfold m25 lX
 have hl:=aW l
 by_cases hc:l.length<=40
 .rw[cO.mpr (by omega),bW hc,iD]
  refine T.a3n l zS1 gK (λk=>(l,aA l,k,())) (λk h0 h1=>?_) ?_
  .dsimp only
   refine T.ct (by rw[bS];omega) (T.grd (by rw[bT];omega) (T.aN (a2T (atI l k zS1) (h _ (at_mem _ h0 h1))) (T.round ?_ id (λq=>⟨q,rfl⟩))))
   rw[bf (by omega) (by omega)]
  .dsimp only
   rw[cO.mpr (by omega)];rfl
 .rw[bS.mpr (by omega),dM hc];rfl
def yL(p:DS2):Bool:=cond (cond (iLe 0 p.1) (iLt p.1 p.2.1) false) (iLe p.2.1 876600) false&&iLe p.2.1 876599
def oQ(x:DS3):Bool:=(yL x.1&&decide (List.length (α:=ByteArray) x.2.1<=40))&&((List.all x.2.1 dR&&dst x.2.1)&&lX x.2.2.1)
def XEn(x:DS3):Prop:=List.length (α:=ByteArray) x.2.1<=9223372036854775807/\∀c∈x.2.2.1,XCl c
theorem XR(p:DS2)(n:Nat):cond (cond (not (cond (cond (iLe 0 p.1) (iLt p.1 p.2.1) false) (iLe p.2.1 876600) false)) true (iLt 876599 p.2.1)) true (iLt 40 (n:Int))=!(yL p&&decide (n<=40)):=by
 unfold yL
 rw[show iLt 876599 p.2.1=!iLe p.2.1 876599 by rw[dz,bS,gJ,jZ],show iLt 40 (n:Int)=!decide (n<=40) by rw[dz,bS,gJ,jm];omega]
 cases cond (cond (iLe 0 p.1) (iLt p.1 p.2.1) false) (iLe p.2.1 876600) false<;>cases iLe p.2.1 876599<;>cases decide (n<=40)<;>rfl
theorem b6A(x:DS3)(h:XEn x):m26 x=some (oQ x,()):=by
 obtain⟨⟨f,t,⟨⟩⟩,l,cs,⟨⟩⟩:=x
 obtain⟨h1,h2⟩:=h
 dsimp only at h1 h2
 have hl:=aW l
 refine T.eq ?_
 unfold m26 oQ
 refine T.aN (show m53 (f,t,())=some _ from rfl) ?_
 dsimp only
 rw[hl,XR (f,t,PUnit.unit) l.length]
 cases hc:yL (f,t,PUnit.unit)&&decide (l.length<=40)
 .exact T.ret rfl
 have hc:=of_decide_eq_true (dx.mp hc).2
 refine T.cf rfl ?_
 rw[iD]
 refine T.pass (l.length:Int) (λk=>dR (atI l k ByteArray.empty)=true/\∀j,0<=j->j<k->¬atI l k ByteArray.empty=atI l j ByteArray.empty) (λk=>(l,(l.length:Int),k,f,t,l,cs,())) (by omega) (λk h0 h1 _=>?_) (λhp=>?_)
 .dsimp only
  have hc:(rD 0 k l).length<=9223372036854775807:=by rw[show rD 0 k l=l.take k.toNat from rfl,jR];omega
  refine T.ct (by rw[bS];omega) (T.grd (by rw[bT];omega) (T.aN (zO _) ?_))
  refine T.grd (by rw[lg,nS];left;omega) (T.cnd (λq=>T.out ?_) (λq=>T.aN (zi _ _ hc) ?_))
  .rw[RJ h0 h1 (gJ.mp q)];rfl
  refine T.cnd (λr=>T.out ?_) (λr=>T.go ⟨?_,sD.mp q,(Ka h0 (by omega)).mp r⟩ (by omega))
  .rw[RN h0 h1 r];rfl
  .rw[bf (by omega) (by omega)]
 .dsimp only
  refine T.cf (by rw[cO];omega) (T.kW (T.aN (Lr cs h2) (T.ret ?_)))
  rw[Kc hp];rfl
def l8(w:DS4):Bool:=decide (List.length (α:=DS3) w.2.1<=12)&&(lX w.1&&List.all w.2.1 oQ)
def XW(w:DS4):Prop:=(∀c∈w.1,XCl c)/\∀x∈w.2.1,XEn x
theorem Wi(w:DS4)(h:XW w):m16 w=some (l8 w,()):=by
 obtain⟨cs,l,⟨⟩⟩:=w
 obtain⟨h1,h2⟩:=h
 dsimp only at h1 h2
 have hl:=aW l
 refine T.eq ?_
 unfold m16 l8
 dsimp only
 refine T.cnd (λhc=>T.ret ?_) (λhc=>?_)<;>simp only[bsX,eq_self]at hc
 .rw[dM (by omega)];rfl
 rw[bW (by omega),iD]
 refine T.aN (Lp cs h1) ?_
 cases lX cs
 .exact T.ret rfl
 refine T.cf rfl ?_
 rw[iD]
 refine T.pass (l.length:Int) (λk=>oQ (atI l k zS3)=true) (λk=>(k,cs,l,())) (by omega) (λk h0 h1 _=>?_) (λhp=>?_)
 .dsimp only
  have hx:=h2 _ (at_mem zS3 h0 h1)
  have no:oQ (atI l k zS3)=false->((false,()):Bool×Unit)=(List.all l oQ,()):=λq=>by rw[wJ h0 h1 q]
  have he:oQ (atI l k zS3)=((yL (atI l k zS3).1&&decide (List.length (α:=ByteArray) (atI l k zS3).2.1<=40))&&((List.all (atI l k zS3).2.1 dR&&dst (atI l k zS3).2.1)&&lX (atI l k zS3).2.2.1)):=rfl
  generalize atI l k zS3=x at hx no he ⊢
  obtain⟨⟨f,t,⟨⟩⟩,rm,cl,⟨⟩⟩:=x
  obtain⟨r1,r2⟩:=hx
  dsimp only at r1 r2 he ⊢
  refine T.ct (by rw[bS];omega) (T.grd (by rw[bT];omega) (T.aN (show m28 (f,t,())=some _ from rfl) ?_))
  dsimp only
  rw[aW rm,XR (f,t,PUnit.unit) rm.length]
  cases q1:yL (f,t,PUnit.unit)&&decide (rm.length<=40)
  .rw[q1]at he;exact T.out (no he)
  rw[q1]at he
  refine T.cf rfl (T.aN (JJ rm r1) ?_)
  cases q2:List.all rm dR
  .rw[q2]at he;exact T.out (no he)
  rw[q2]at he
  refine T.cf rfl (T.aN (D7 rm r1) ?_)
  cases q3:dst rm
  .rw[q3]at he;exact T.out (no he)
  rw[q3]at he
  refine T.cf rfl (T.aN (Lp cl r2) (T.round ?_ (λq=>he.trans q) (λq=>no (he.trans q))))
  rw[bf (by omega) (by omega)]
 .dsimp only
  exact T.cf (by rw[cO];omega) (T.out (by rw[uo hp]))
theorem Wj(w:DS4)(h:XW w):m15 w=some (l8 w,()):=by
 obtain⟨cs,l,⟨⟩⟩:=w
 obtain⟨h1,h2⟩:=h
 dsimp only at h1 h2
 have hl:=aW l
 refine T.eq ?_
 unfold m15 l8
 dsimp only
 refine T.cnd (λhc=>T.ret ?_) (λhc=>?_)<;>simp only[bsX,eq_self]at hc
 .rw[dM (by omega)];rfl
 rw[bW (by omega),iD]
 refine T.aN (Lr cs h1) ?_
 cases lX cs
 .exact T.ret rfl
 refine T.cf rfl ?_
 rw[iD]
 refine T.pass (l.length:Int) (λk=>oQ (atI l k zS3)=true) (λk=>(l,aA l,k,())) (by omega) (λk h0 h1 _=>?_) (λhp=>?_)
 .dsimp only
  refine T.ct (by rw[bS];omega) (T.grd (by rw[bT];omega) (T.aN (b6A (atI l k zS3) (h2 _ (at_mem _ h0 h1))) (T.round ?_ id (λq=>?_))))
  .rw[bf (by omega) (by omega)]
  .rw[wJ h0 h1 q]
 .dsimp only
  exact T.cf (by rw[cO];omega) (T.out (by rw[uo hp]))
theorem b1E(s:ByteArray):T (m57 s) (λ_=>True):=T.of (Ec s) trivial
theorem a6n(l:List ByteArray)(h:Bd l.length):T (m29 l) (λ_=>True):=T.of (JJ l (by omega)) trivial
theorem Vn(l:List ByteArray)(h:Bd l.length):T (m30 l) (λ_=>True):=T.of (D7 l (by omega)) trivial
theorem b3B(a:DS5)(h:Bd (List.length (α:=ByteArray) a.2.2.1)):T (Uy a) (λy=>True):=by
 unfold Uy
 repeat' (first|(refine T.aN (show yO _=some _ from rfl) ?_)|(refine T.call (a6n _ (by assumption)) (λ_ _=>?_))|(refine T.call (Vn _ (by assumption)) (λ_ _=>?_))|(refine T.grd ?_ ?_)|(refine T.cnd (λhc=>?_) (λhc=>?_)<;>try simp only[bsX,eq_self]at hc)|(refine T.ret ?_))
 all_goals(try dsimp only[LQ,JQ])
 all_goals(repeat' (with_reducible refine And.intro ?_ ?_))<;>first|trivial|assumption|omega|(first|(simp(disch:=omega) only[bsX,eq_self,arX];omega)|(simp(disch:=omega) only[bsX,eq_self,arX];done))
theorem a1m(a:DS6)(h:Bd (List.length a.1))(h2:∀x∈a.1,Bd (List.length (α:=ByteArray) x.2.2.1)):T (UF a) (λy=>True):=by
 unfold UF
 repeat' (first|(refine T.call (b1E _) (λ_ _=>?_))|(refine T.call (b3B _ k3) (λ_ _=>?_))|(refine T.loop (λq=>q.1=s.1/\0<=q.2.1/\List.length q.2.2.1=List.length s.2.1/\Bd (List.length (α:=ByteArray) q.2.2.2.2.2.1)/\∀x∈q.2.2.1,Bd (List.length (α:=ByteArray) x.2.2.1)) (λq=>(s.1-q.2.1).toNat) ?_ (λq ⟨k0,k1,k2,k3,k4⟩=>?_))|(refine T.loop (λs=>0<=s.1/\Bd (List.length s.2.1)/\∀x∈s.2.1,Bd (List.length (α:=ByteArray) x.2.2.1)) (λs=>((List.length s.2.1:Int)-s.1).toNat) ?_ (λs ⟨j0,j1,j2⟩=>?_))|(refine T.grd ?_ ?_)|(refine T.cnd (λhc=>?_) (λhc=>?_)<;>try simp only[bsX,eq_self]at hc)|(refine T.kW ?_)|(refine T.go ?_ ?_)|(refine T.out ?_)|(refine T.ret ?_))
 all_goals(try dsimp only[LQ,JQ])
 all_goals(repeat' (with_reducible refine And.intro ?_ ?_))<;>first|trivial|assumption|omega|(first|(simp(disch:=omega) only[bsX,eq_self,arX];omega)|(simp(disch:=omega) only[bsX,eq_self,arX];done))|exact j2 _ (at_mem _ (by omega) (by omega))
def WE:Nat->DS0->Prop
 |0,_=>False
 |k+1,e=>Bd (List.length (α:=ByteArray) e.2.2.1)/\List.length (α:=AV) e.2.2.2.2.2.1<=3/\∀a∈e.2.2.2.2.2.1,qy a=true/\WE k (aQ a)
def WA(k:Nat)(l:List AV):Prop:=∀a∈l,qy a=true/\WE k (aQ a)
def WB:Nat->List AV->Prop
 |0,_=>False
 |k+1,l=>Bd l.length/\∀a∈l,lN a=true/\WE 10 (aM a).2.1/\WB k (aM a).2.2.1
def WBA(k:Nat)(l:List AV):Prop:=∀a∈l,lN a=true/\WE 10 (aM a).2.1/\WB k (aM a).2.2.1
theorem WE.up:∀{k:Nat} {e:DS0},WE k e->∀d,WE (k+d) e
 |0,_,h,_=>h.elim
 |k+1,e,h,d=>by
  rw[show k+1+d=(k+d)+1 by omega]
  exact⟨h.1,h.2.1,λa ha=>⟨(h.2.2 a ha).1,(h.2.2 a ha).2.up d⟩⟩
theorem WB.up:∀{k:Nat} {l:List AV},WB k l->∀d,WB (k+d) l
 |0,_,h,_=>h.elim
 |k+1,l,h,d=>by
  rw[show k+1+d=(k+d)+1 by omega]
  exact⟨h.1,λa ha=>⟨(h.2 a ha).1,(h.2 a ha).2.1,(h.2 a ha).2.2.up d⟩⟩
theorem WE.to{k:Nat}{e:DS0}(h:WE k e){m:Nat}(hm:k<=m):WE m e:=by have:=h.up (m-k);rwa [show k+(m-k)=m by omega]at this
theorem WB.to{k:Nat}{l:List AV}(h:WB k l){m:Nat}(hm:k<=m):WB m l:=by have:=h.up (m-k);rwa [show k+(m-k)=m by omega]at this
def WC(c:DS1):Prop:=WE 10 c.2.2.1/\WB 10 c.2.2.2.1
theorem b1G(k:Int):T (yP k) (λy=>0<=y.1/\y.1<=1073741824):=by
 unfold yP
 repeat' (first|(refine T.grd ?_ ?_)|(refine T.cnd (λhc=>?_) (λhc=>?_)<;>try simp only[bsX,eq_self]at hc)|(refine T.ret ?_))
 all_goals(try dsimp only[LQ,JQ])
 all_goals(repeat' (with_reducible refine And.intro ?_ ?_))<;>first|trivial|assumption|omega|(first|(simp(disch:=omega) only[bsX,eq_self,arX];omega)|(simp(disch:=omega) only[bsX,eq_self,arX];done))
theorem WE.x:∀{k:Nat} {e:DS0},WE k e->XE k e/\dpE k e=true
 |0,_,h=>h.elim
 |k+1,e,h=>⟨⟨by have:=h.1;omega,by have:=h.2.1;omega,λa ha=>⟨(h.2.2 a ha).1,(h.2.2 a ha).2.x.1⟩⟩,aD.2 λa ha=>(h.2.2 a ha).2.x.2⟩
theorem WB.x:∀{k:Nat} {l:List AV},WB k l->XB k l
 |0,_,h=>h.elim
 |k+1,l,h=>⟨by have:=h.1;omega,λa ha=>⟨(h.2 a ha).1,⟨_,(h.2 a ha).2.1.x.1⟩,(h.2 a ha).2.2.x⟩⟩
theorem WC.x{c:DS1}(h:WC c):XCl c:=⟨⟨_,h.1.x.1⟩,_,h.2.x⟩
theorem a2U(a:DS1)(h:WC a):T (m56 a) (λy=>y=(gK a,())):=T.of (Qt a h.x) rfl
theorem Vo(l:List DS1)(s:ByteArray)(h:Bd l.length):T (JV l s) (λy=>y.2.1=true->0<=y.1/\y.1<(List.length l:Int)):=by
 unfold JV
 repeat' (first|(refine T.loop (λs=>0<=s.2.2.1/\s.1=l) (λs=>((List.length l:Int)-s.2.2.1).toNat) ?_ (λs ⟨j0,j1⟩=>?_))|(refine T.grd ?_ ?_)|(refine T.cnd (λhc=>?_) (λhc=>?_)<;>try simp only[bsX,eq_self]at hc)|(refine T.go ?_ ?_)|(refine T.out ?_)|(refine T.ret ?_))
 all_goals(try dsimp only[LQ,JQ])
 all_goals(repeat' (with_reducible refine And.intro ?_ ?_))<;>first|trivial|assumption|omega|(first|(simp(disch:=omega) only[bsX,eq_self,arX];omega)|(simp(disch:=omega) only[bsX,eq_self,arX];done))|(intro _;first|omega|(refine⟨by omega,?_⟩;rw[j1]at *;omega))|(rw[j1]at *;simp(disch:=omega) only[bsX,eq_self,arX];omega)|(intro q;cases q)
theorem RH(l:DS6)(s:ByteArray)(h:Bd (List.length l.1)):T (Pj l s) (λy=>y.2.1=true->0<=y.1/\y.1<(List.length l.1:Int)):=by
 unfold Pj
 repeat' (first|(refine T.loop (λs=>0<=s.2.1/\s.2.2.1=l.1) (λs=>((List.length l.1:Int)-s.2.1).toNat) ?_ (λs ⟨j0,j1⟩=>?_))|(refine T.grd ?_ ?_)|(refine T.cnd (λhc=>?_) (λhc=>?_)<;>try simp only[bsX,eq_self]at hc)|(refine T.go ?_ ?_)|(refine T.out ?_)|(refine T.ret ?_))
 all_goals(try dsimp only[LQ,JQ])
 all_goals(repeat' (with_reducible refine And.intro ?_ ?_))<;>first|trivial|assumption|omega|(first|(simp(disch:=omega) only[bsX,eq_self,arX];omega)|(simp(disch:=omega) only[bsX,eq_self,arX];done))|(intro _;first|omega|(refine⟨by omega,?_⟩;rw[j1]at *;omega))|(rw[j1]at *;simp(disch:=omega) only[bsX,eq_self,arX];omega)|(intro q;cases q)
theorem KG(l:List ByteArray)(s:ByteArray)(h:Bd l.length):T (Pf l s) (λy=>True):=by
 unfold Pf
 repeat' (first|(refine T.loop (λs=>0<=s.2.2.1/\Bd (List.length s.1)) (λs=>((List.length s.1:Int)-s.2.2.1).toNat) ?_ (λs ⟨k0,k1⟩=>?_))|(refine T.grd ?_ ?_)|(refine T.cnd (λhc=>?_) (λhc=>?_)<;>try simp only[bsX,eq_self]at hc)|(refine T.go ?_ ?_)|(refine T.out ?_)|(refine T.ret ?_))
 all_goals(try dsimp only[LQ,JQ])
 all_goals(repeat' (with_reducible refine And.intro ?_ ?_))<;>first|trivial|assumption|omega|(first|(simp(disch:=omega) only[bsX,eq_self,arX];omega)|(simp(disch:=omega) only[bsX,eq_self,arX];done))
theorem J3(l:List DS1)(s:ByteArray)(h:Bd l.length):T (m9 l s) (λy=>(y.2.1=true->0<=y.1/\y.1<(List.length l:Int))/\∀j,0<=j->j<y.1->¬(atI l j zS1).2.1=s):=by
 unfold m9
 have hl:=aW l
 refine T.pass (l.length:Int) (λk=>¬(atI l k zS1).2.1=s) (λk=>(l,s,k,())) (by omega) (λk h0 h1 hp=>?_) (λhp=>?_)
 .dsimp only
  refine T.ct (by rw[bS];omega) (T.grd (by rw[bT];omega) (T.cnd (λq=>T.out ⟨λ_=>⟨h0,h1⟩,hp⟩) (λq=>T.go ⟨?_,EX.mp q⟩ (by omega))))
  rw[bf (by omega) (by omega)]
 .dsimp only
  exact T.cf (by rw[cO];omega) (T.out ⟨λq=>Bool.noConfusion q,λj j0 j1=>by dsimp only at j1;omega⟩)
def SB(a:DS6):Prop:=Bd (List.length a.1)/\∀x∈a.1,Bd (List.length (α:=ByteArray) x.2.2.1)
def CB(l:List DS1):Prop:=l.length<=500/\∀c∈l,WC c
theorem a6l(s:DS6)(l:List DS1)(a:DS0)(h:SB s)(h2:Bd (List.length (α:=ByteArray) a.2.2.1))(h3:Bd l.length):T (Ux s l a) (λy=>True):=by
 unfold Ux
 refine T.call (RH (s.1,()) _ h.1) (λu q=>?_)
 dsimp only at q
 have hb:u.2.1=true->bnd u.1 (aA s.1)=true:=λe=>by have:=q e;rw[bT,aW];omega
 have hm:u.2.1=true->Bd (List.length (α:=ByteArray) (atI s.1 u.1 zS5).2.2.1):=λe=>h.2 _ (at_mem _ (q e).1 (q e).2)
 repeat' (first|(refine T.call (Vo _ _ h3) (λ_ _=>?_))|(refine T.call (KG _ _ (by assumption)) (λ_ _=>?_))|(refine T.loop (λs=>0<=s.1/\Bd (List.length (α:=ByteArray) s.2.2.2.1)/\Bd (List.length (α:=ByteArray) s.2.2.2.2.2.2.2.2.2.1)) (λs=>((List.length (α:=ByteArray) s.2.2.2.1:Int)-s.1).toNat) ?_ (λs ⟨j0,j1,j2⟩=>?_))|(refine T.grd ?_ ?_)|(refine T.cnd (λhc=>?_) (λhc=>?_)<;>try simp only[bsX,eq_self]at hc)|(refine T.kW ?_)|(refine T.go ?_ ?_)|(refine T.out ?_)|(refine T.jgo ?_)|(refine T.pV ?_)|(refine T.sZ ?_)|(refine T.ret ?_))
 all_goals(try dsimp only[LQ,JQ])
 all_goals(repeat' (with_reducible refine And.intro ?_ ?_))<;>first|trivial|assumption|omega|(first|(simp(disch:=omega) only[bsX,eq_self,arX];omega)|(simp(disch:=omega) only[bsX,eq_self,arX];done))|exact hb (by assumption)|exact hm (by assumption)|(cases hu:u.2.1<;>simp[hb,hu,bEq])
theorem OX{n:Nat}{x:DS6×List DS1×DS0×Unit}(h:WE n x.2.2.1/\SB x.1/\Bd (List.length x.2.1)):T (eH (λself (x:DS6×List DS1×DS0×Unit)=>MG self x.1 x.2.1 x.2.2.1) n x) (λy:Int×Unit=>True):=by
 refine T.iter (λn (x:DS6×List DS1×DS0×Unit)=>WE n x.2.2.1/\SB x.1/\Bd (List.length x.2.1)) (λ_ _ (y:Int×Unit)=>True) (λn x h self hs=>?_) (λx h=>h.1.elim) n x h
 unfold MG
 obtain⟨⟨e1,e2,e3⟩,h4,h5⟩:=h
 have e3:WA n _:=e3
 repeat' (first|(refine T.call (a6l _ _ _ h4 e1 h5) (λ_ _=>?_))|(refine T.call (hs _ ⟨(j2 _ (at_mem _ (by omega) (by omega))).2,j3,j4⟩) (λ_ _=>?_))|(refine T.loop (λs=>0<=s.2.1/\Bd (List.length s.2.2.2.2.2.2.2.2.1)/\WA n s.2.2.2.2.2.2.2.2.1/\SB (s.2.2.1,())/\Bd (List.length s.1)) (λs=>((List.length s.2.2.2.2.2.2.2.2.1:Int)-s.2.1).toNat) ?_ (λs ⟨j0,j1,j2,j3,j4⟩=>?_))|(refine T.grd ?_ ?_)|(refine T.cnd (λhc=>?_) (λhc=>?_)<;>try simp only[bsX,eq_self]at hc)|(refine T.go ?_ ?_)|(refine T.out ?_)|(refine T.ret ?_))
 all_goals(try dsimp only[LQ,JQ])
 all_goals(repeat' (with_reducible refine And.intro ?_ ?_))<;>first|trivial|assumption|omega|(first|(simp(disch:=omega) only[bsX,eq_self,arX];omega)|(simp(disch:=omega) only[bsX,eq_self,arX];done))|exact dx.mpr ⟨by rw[bT,aW];omega,(j2 _ (at_mem _ (by omega) (by omega))).1⟩
theorem a3a{n:Nat}{x:DS6×List DS1×List AV×Unit}(h:WB n x.2.2.1/\SB x.1/\Bd (List.length x.2.1)):T (eH (λself (x:DS6×List DS1×List AV×Unit)=>MF self x.1 x.2.1 x.2.2.1) n x) (λy:Int×Unit=>True):=by
 refine T.iter (λn (x:DS6×List DS1×List AV×Unit)=>WB n x.2.2.1/\SB x.1/\Bd (List.length x.2.1)) (λ_ _ (y:Int×Unit)=>True) (λn x h self hs=>?_) (λx h=>h.1.elim) n x h
 unfold MF
 obtain⟨⟨e1,e3⟩,h4,h5⟩:=h
 have e3:WBA n _:=e3
 repeat' (first|(refine T.call (OX (x:=(_,_,_,())) ⟨(j2 _ (at_mem _ (by omega) (by omega))).2.1.to (by omega),j3,j4⟩) (λ_ _=>?_))|(refine T.call (hs _ ⟨(j2 _ (at_mem _ (by omega) (by omega))).2.2,j3,j4⟩) (λ_ _=>?_))|(refine T.loop (λs=>0<=s.2.2.1/\Bd (List.length s.2.1)/\WBA n s.2.1/\SB (s.2.2.2.1,())/\Bd (List.length s.1)) (λs=>((List.length s.2.1:Int)-s.2.2.1).toNat) ?_ (λs ⟨j0,j1,j2,j3,j4⟩=>?_))|(refine T.grd ?_ ?_)|(refine T.cnd (λhc=>?_) (λhc=>?_)<;>try simp only[bsX,eq_self]at hc)|(refine T.go ?_ ?_)|(refine T.out ?_)|(refine T.ret ?_))
 all_goals(try dsimp only[LQ,JQ])
 all_goals(repeat' (with_reducible refine And.intro ?_ ?_))<;>first|trivial|assumption|omega|(first|(simp(disch:=omega) only[bsX,eq_self,arX];omega)|(simp(disch:=omega) only[bsX,eq_self,arX];done))|exact dx.mpr ⟨by rw[bT,aW];omega,(j2 _ (at_mem _ (by omega) (by omega))).1⟩
theorem b4w(l:List ByteArray)(s:ByteArray)(h:l.length<=1000000000):T (Ut l s) (λy=>List.length (α:=ByteArray) y.1<=l.length+1):=by
 unfold Ut
 refine T.loop (λs=>0<=s.2.2.2.1/\s.1.length=l.length/\(s.2.2.2.2.1.length:Int)<=s.2.2.2.1+1/\s.2.2.2.1<=(l.length:Int)/\(s.2.2.1=false->(s.2.2.2.2.1.length:Int)<=s.2.2.2.1)) (λs=>((l.length:Int)-s.2.2.2.1).toNat) ⟨by simp,rfl,by simp,by simp,by simp⟩ (λs ⟨j0,j1,j2,j5,j3⟩=>?_)
 cases hb:s.2.2.1
 .have j4:=j3 hb
  simp only[xS,qR]
  repeat' (first|(refine T.grd ?_ ?_)|(refine T.cnd (λhc=>?_) (λhc=>?_)<;>try simp only[bsX,eq_self]at hc)|(refine T.kW ?_)|(refine T.go ?_ ?_)|(refine T.out ?_)|(refine T.jgo ?_)|(refine T.pV ?_)|(refine T.sZ ?_)|(refine T.ret ?_))
  all_goals(try dsimp only[LQ,JQ])
  all_goals(repeat' (with_reducible refine And.intro ?_ ?_))<;>first|trivial|assumption|omega|(first|(simp(disch:=omega) only[bsX,eq_self,arX];omega)|(simp(disch:=omega) only[bsX,eq_self,arX];done))|exact λq=>Bool.noConfusion q|(intro _;(first|(simp(disch:=omega) only[bsX,eq_self,arX];omega)|(simp(disch:=omega) only[bsX,eq_self,arX];done)))
 .clear j3
  simp only[oV,mO]
  repeat' (first|(refine T.grd ?_ ?_)|(refine T.cnd (λhc=>?_) (λhc=>?_)<;>try simp only[bsX,eq_self]at hc)|(refine T.kW ?_)|(refine T.go ?_ ?_)|(refine T.out ?_)|(refine T.jgo ?_)|(refine T.pV ?_)|(refine T.sZ ?_)|(refine T.ret ?_))
  all_goals(try dsimp only[LQ,JQ])
  all_goals(repeat' (with_reducible refine And.intro ?_ ?_))<;>first|trivial|assumption|omega|(first|(simp(disch:=omega) only[bsX,eq_self,arX];omega)|(simp(disch:=omega) only[bsX,eq_self,arX];done))|exact λq=>Bool.noConfusion q|(intro q;rw[hb]at q;cases q)
def pw:Nat->Nat
 |0=>1
 |n+1=>4*pw n
theorem XQ:∀n,1<=pw n
 |0=>aS _
 |n+1=>by have:=XQ n;simp only[pw];omega
theorem a9R:pw 10=1048576:=by simp[pw]
theorem a2x:∀(k n:Nat) (x:List ByteArray×DS0×Unit),k<=n->WE k x.2.1->x.1.length+pw k<=1000000000->T (eH (λself (x:List ByteArray×DS0×Unit)=>Fe self x.1 x.2.1) n x) (λy:List ByteArray×Unit=>y.1.length<=x.1.length+pw k):=by
 intro k
 induction k with
 |zero=>intro n x _ h;exact h.elim
 |succ n ih =>
 intro m x hn h h4
 obtain⟨m,rfl⟩:∃m',m=m'+1:=⟨m-1,by omega⟩
 have hs:=λy=>ih m y (by omega)
 show T (Fe (eH _ m) x.1 x.2.1) _
 generalize eH (λself (x:List ByteArray×DS0×Unit)=>Fe self x.1 x.2.1) m=self at hs ⊢
 clear ih hn
 unfold Fe
 obtain⟨e1,e2,e3⟩:=h
 have e3:WA n _:=e3
 have hG:=XQ n
 simp only[pw]at h4 ⊢
 have hmul:∀i:Int,0<=i->(i+1).toNat*pw n=i.toNat*pw n+pw n:=λi hi=>by rw[show(i+1).toNat=i.toNat+1 by omega,Ac]
 have hle:∀(i:Int) (m:Nat),i<=m->i.toNat*pw n<=m*pw n:=λi m hi=>bM _ (by omega)
 repeat' (first|(refine T.call (b4w _ _ (by omega)) (λv q=>?_))|(refine T.call (hs (_,_,()) (j4 _ (at_mem _ (by omega) (by omega))).2 (by have:=hle s.2.1 2 (by omega);dsimp only;omega)) (λu q=>?_))|(refine T.loop (λs=>0<=s.2.1/\List.length s.2.2.2.2.2.2.2.1<=3/\s.2.1<=(List.length s.2.2.2.2.2.2.2.1:Int)/\WA n s.2.2.2.2.2.2.2.1/\s.1.length<=x.1.length+1+s.2.1.toNat*pw n) (λs=>(3-s.2.1).toNat) ?_ (λs ⟨j1,j2,j3,j4,j5⟩=>?_))|(refine T.grd ?_ ?_)|(refine T.cnd (λhc=>?_) (λhc=>?_)<;>try simp only[bsX,eq_self]at hc)|(refine T.kW ?_)|(refine T.go ?_ ?_)|(refine T.out ?_)|(refine T.jgo ?_)|(refine T.pV ?_)|(refine T.sZ ?_)|(refine T.ret ?_))
 all_goals(try dsimp only[LQ,JQ])
 all_goals(repeat' (with_reducible refine And.intro ?_ ?_))<;>first|trivial|assumption|omega|(first|(simp(disch:=omega) only[bsX,eq_self,arX];omega)|(simp(disch:=omega) only[bsX,eq_self,arX];done))|exact dx.mpr ⟨by rw[bT,aW];omega,(j4 _ (at_mem _ (by omega) (by omega))).1⟩|(rw[bf (by omega) (by omega),hmul _ (by omega)];dsimp only at q;omega)|(have:=hle s.2.1 3 (by omega);omega)|(simp;omega)
theorem b21(l:List ByteArray)(e:DS0)(h:WE 10 e)(h2:l.length+pw 10<=1000000000):T (a11 l e) (λy:List ByteArray×Unit=>y.1.length<=l.length+pw 10):=a2x 10 10000 (l,e,()) (by omega) h h2
theorem VF(e:DS0)(h:WE 10 e):T (Uw e) (λy=>y.1.length<=1048576):=by
 unfold Uw
 refine T.call (b21 [] _ h (by rw[a9R];simp)) (λu q=>T.ret ?_)
 rw[a9R]at q
 simpa using q
def nF:List Bool->Nat
 |[]=>0
 |b::l=>cond b 0 1+nF l
theorem b1F(n:Nat):nF (List.replicate n false)=n:=by
 induction n with
 |zero=>rfl
 |succ n ih=>rw[wO];simp only[nF,ih,mO];omega
theorem Yq:∀(l:List Bool) (i:Nat),i<l.length->l.getD i false=false->nF (l.set i true)+1=nF l
 |[],i,h,_=>by simp at h
 |b::l,0,_,h2=>by
  have:b=false:=by simpa using h2
  subst this
  simp only[List.set_cons_zero,nF,qR,mO];omega
 |b::l,i+1,h,h2=>by
  have:=Yq l i (by simpa using h) (by simpa using h2)
  simp only[List.set_cons_succ,nF];omega
theorem a5L(l:List DS1)(h:CB l):T (UE l) (λ_=>True):=by
 unfold UE
 have hl:=h.1
 refine T.grd (by rw[Kh,aW];omega) ?_
 refine T.loop (λs=>l=s.1/\s.2.2.1.length=l.length/\s.2.1.length+nF s.2.2.1<=l.length) (λs=>nF s.2.2.1) ⟨rfl,by simp[aA],by simp[aA,b1F]⟩ ?_
 rintro⟨_,s2,s3,⟨⟩⟩ ⟨rfl,e2,e3⟩
 dsimp only at e2 e3 ⊢
 refine T.loop (λq=>l=q.1/\s2=q.2.2.2.2.1/\s3=q.2.2.2.2.2.1/\0<=q.2.2.2.1/\(q.2.1=-1\/0<=q.2.1/\q.2.1<(l.length:Int)/\List.getD s3 q.2.1.toNat false=false)) (λq=>((l.length:Int)-q.2.2.2.1).toNat) ⟨rfl,rfl,rfl,by simp,.inl rfl⟩ ?_
 rintro⟨_,q2,q3,q4,_,_,⟨⟩⟩ ⟨rfl,rfl,rfl,q0,qn⟩
 dsimp only at q0 qn ⊢
 refine T.cnd (λhc=>?_) (λhc=>?_)<;>simp only[bsX,eq_self]at hc
 .refine T.grd (by rw[bT,aW];omega) (T.grd (lg.mpr (.inl (by rw[bT,aW];omega))) (T.grd (lg.mpr (.inl (by rw[y8];omega))) (T.cnd (λhd=>?_) (λhd=>?_))))<;>simp only[bsX,eq_self]at hd
  .refine T.go ⟨rfl,rfl,rfl,?_,qn⟩ ?_<;>dsimp only<;>(rw[bf (by omega) (by omega)];omega)
  refine T.grd (by rw[bT,aW];omega) ?_
  refine T.call (VF _ (h.2 _ (at_mem _ q0 (by omega))).1) (λu hu=>?_)
  refine T.loop (λr=>l=r.1/\q2=r.2.1/\q4=r.2.2.2.1/\u.1=r.2.2.2.2.2.1/\0<=r.2.2.2.2.2.2.1/\s2=r.2.2.2.2.2.2.2.1/\s3=r.2.2.2.2.2.2.2.2.1) (λr=>((List.length (α:=ByteArray) u.1:Int)-r.2.2.2.2.2.2.1).toNat) ⟨rfl,rfl,rfl,rfl,by simp,rfl,rfl⟩ ?_
  rintro⟨_,_,r3,_,r5,_,r7,_,_,⟨⟩⟩ ⟨rfl,rfl,rfl,rfl,r0,rfl,rfl⟩
  dsimp only at r0 ⊢
  refine T.cnd (λhr=>?_) (λhr=>?_)<;>simp only[bsX,eq_self]at hr
  .refine T.grd (by rw[bT,aW];omega) (T.call (Vo _ _ (by show l.length<=_;omega)) (λv w=>?_))
   have hg:v.2.1=true->bnd v.1 (aA s3)=true/\inB v.1.toNat s3=true:=λe=>by have:=w e;rw[bT,aW,y8];omega
   refine T.cnd (λ_=>T.grd ?_ (T.grd ?_ (T.go ⟨rfl,rfl,rfl,rfl,?_,rfl,rfl⟩ ?_))) (λ_=>T.go ⟨rfl,rfl,rfl,rfl,?_,rfl,rfl⟩ ?_)
   .cases hv:v.2.1 with
    |true=>rw[(hg hv).1];rfl
    |false=>exact lg.mpr (.inr rfl)
   .cases hv:v.2.1 with
    |true=>rw[(hg hv).2];rfl
    |false=>exact lg.mpr (.inr rfl)
   all_goals dsimp only
   all_goals rw[bf (by omega) (by omega)]
   all_goals omega
  .refine T.map (T.cnd (λ_=>T.ret ⟨⟨rfl,rfl,rfl,?_,.inr ⟨q0,by dsimp only;omega,hd.2⟩⟩,?_⟩) (λ_=>T.ret ⟨⟨rfl,rfl,rfl,?_,qn⟩,?_⟩))
   all_goals dsimp only
   all_goals rw[bf (by omega) (by omega)]
   all_goals omega
 .refine T.map (T.cnd (λhd=>T.cnd (λ_=>T.ret trivial) (λ_=>T.ret trivial)) (λhd=>?_))
  simp only[bsX,eq_self]at hd
  rcases qn with qn|⟨n0,n1,n2⟩
  .omega
  have hs:=Yq s3 q2.toNat (by omega) n2
  refine T.grd (by rw[jD];simp;omega) (T.grd (by rw[bT,aW];omega) (T.grd (by rw[y8];omega) (T.ret ⟨⟨rfl,by simp[e2],by simp;omega⟩,by dsimp only;omega⟩)))
theorem Vk{n:Nat}{x:List DS1×DS0×Int×Unit}(h:CB x.1/\0<=x.2.2.1/\∃k,WE k x.2.1/\k<=10/\k+11*((List.length x.1:Int)+1-x.2.2.1).toNat<=n):T (eH (λself (x:List DS1×DS0×Int×Unit)=>Mt self x.1 x.2.1 x.2.2.1) n x) (λy:Int×Unit=>0<=y.1/\y.1<=2001):=by
 refine T.iter (λn (x:List DS1×DS0×Int×Unit)=>CB x.1/\0<=x.2.2.1/\∃k,WE k x.2.1/\k<=10/\k+11*((List.length x.1:Int)+1-x.2.2.1).toNat<=n) (λ_ _ (y:Int×Unit)=>0<=y.1/\y.1<=2001) (λn x h self hs=>?_) (λx ⟨_,_,k,hk,_,hn⟩=>by cases k with|zero=>exact hk.elim|succ k=>omega) n x h
 unfold Mt
 obtain⟨hcb,h0,k,hk,hk2,hk3⟩:=h
 obtain⟨j,rfl⟩:∃j,k=j+1:=by
  cases k with
  |zero=>exact hk.elim
  |succ j=>exact⟨j,rfl⟩
 obtain⟨e1,e2,e3⟩:=hk
 have e3:WA j _:=e3
 have hb:Bd (List.length x.1):=by have:=hcb.1;omega
 repeat' (first|(refine T.call (Vo _ _ hb) (λv w=>?_))|(refine T.call (hs (_,_,_,()) ⟨hcb,(by simp(disch:=omega) only[bf];omega),10,(hcb.2 _ (at_mem _ (w (by assumption)).1 (w (by assumption)).2)).1,by omega,(by simp(disch:=omega) only[bf];omega)⟩) (λu ⟨q0,q1⟩=>?_))|(refine T.call (hs (_,_,_,()) ⟨j0▸hcb,by simp only[<- j1];exact h0,j,(j6 _ (at_mem _ (by omega) (by omega))).2,by omega,by simp only[<- j0,<- j1];omega⟩) (λu ⟨q0,q1⟩=>?_))|(refine T.loop (λs=>x.1=s.1/\x.2.2.1=s.2.1/\(0<=s.2.2.1/\s.2.2.1<=4001)/\0<=s.2.2.2.1/\List.length s.2.2.2.2.2.2.2.2.2.1<=3/\WA j s.2.2.2.2.2.2.2.2.2.1) (λs=>((List.length s.2.2.2.2.2.2.2.2.2.1:Int)-s.2.2.2.1).toNat) ?_ (λs ⟨j0,j1,⟨j2,j3⟩,j4,j5,j6⟩=>?_))|(refine T.grd ?_ ?_)|(refine T.cnd (λhc=>?_) (λhc=>?_)<;>try simp only[bsX,eq_self]at hc)|(refine T.go ?_ ?_)|(refine T.out ?_)|(refine T.ret ?_))
 all_goals(try dsimp only[LQ,JQ])
 all_goals(repeat' (with_reducible refine And.intro ?_ ?_))<;>first|trivial|assumption|omega|(first|(simp(disch:=omega) only[bsX,eq_self,arX];omega)|(simp(disch:=omega) only[bsX,eq_self,arX];done))|exact dx.mpr ⟨by rw[bT,aW];omega,(j6 _ (at_mem _ (by omega) (by omega))).1⟩|(unfold jv;omega)|(rw[bT,aW];exact w (by assumption))
theorem a4A(l:List DS1)(e:DS0)(h:CB l)(he:WE 10 e):T (Ph l e) (λy=>0<=y.1/\y.1<=2001):=by
 unfold Ph
 have hl:=h.1
 exact T.call (Vk (n:=10000) (x:=(l,e,0,())) ⟨h,mU _,10,he,by omega,by dsimp only;omega⟩) λu q=>T.ret q
theorem a6q{n:Nat}{x:List DS1×List AV×Unit}(h:WB n x.2.1/\CB x.1):T (eH (λself (x:List DS1×List AV×Unit)=>ME self x.1 x.2.1) n x) (λy:Bool×Unit=>True):=by
 refine T.iter (λn (x:List DS1×List AV×Unit)=>WB n x.2.1/\CB x.1) (λ_ _ (y:Bool×Unit)=>True) (λn x h self hs=>?_) (λx h=>h.1.elim) n x h
 unfold ME
 obtain⟨⟨e1,e3⟩,hc⟩:=h
 have e3:WBA n _:=e3
 repeat' (first|(refine T.call (a4A _ _ j3 (j2 _ (at_mem _ (by omega) (by omega))).2.1) (λ_ _=>?_))|(refine T.call (hs (_,_,()) ⟨(j2 _ (at_mem _ (by omega) (by omega))).2.2,j3⟩) (λ_ _=>?_))|(refine T.loop (λs=>0<=s.2.2.1/\Bd (List.length s.2.1)/\WBA n s.2.1/\CB s.1) (λs=>((List.length s.2.1:Int)-s.2.2.1).toNat) ?_ (λs ⟨j0,j1,j2,j3⟩=>?_))|(refine T.grd ?_ ?_)|(refine T.cnd (λhc=>?_) (λhc=>?_)<;>try simp only[bsX,eq_self]at hc)|(refine T.go ?_ ?_)|(refine T.out ?_)|(refine T.ret ?_))
 all_goals(try dsimp only[LQ,JQ])
 all_goals(repeat' (with_reducible refine And.intro ?_ ?_))<;>first|trivial|assumption|omega|(first|(simp(disch:=omega) only[bsX,eq_self,arX];omega)|(simp(disch:=omega) only[bsX,eq_self,arX];done))|exact dx.mpr ⟨by rw[bT,aW];omega,(j2 _ (at_mem _ (by omega) (by omega))).1⟩|exact lg.mpr (.inl (dx.mpr ⟨by rw[bT,aW];omega,(j2 _ (at_mem _ (by omega) (by omega))).1⟩))
def VL(l:List DS1):Prop:=∀k:Int,0<=k->k<(l.length:Int)->gK (atI l k zS1)=true/\∀j,0<=j->j<k->¬(atI l j zS1).2.1=(atI l k zS1).2.1
theorem Ls(s:DS6)(l:List DS1)(h:SB s)(h2:CB l):T (m89 s l) (λy=>y.2.1=0->VL l):=by
 unfold m89
 have hB:Bd (List.length l):=by have:=h2.1;omega
 have hl:=aW l
 obtain⟨s1,⟨⟩⟩:=s
 refine T.call (a1m _ h.1 h.2) (λu _=>T.cnd (λhc=>T.ret λq=>?_) (λ_=>T.cnd (λ_=>T.ret λq=>by cases q) (λ_=>?_)))
 .simp only[bsX,eq_self]at hc;exact absurd q hc
 refine T.pass (l.length:Int) (λk=>gK (atI l k zS1)=true/\∀j,0<=j->j<k->¬(atI l j zS1).2.1=(atI l k zS1).2.1) (λk=>(l,k,s1,())) (by omega) (λk h0 h1 _=>?_) (λhV=>?_)
 .dsimp only
  have hg:bnd k (aA l)=true:=by rw[bT];omega
  have hc:=h2.2 _ (at_mem zS1 h0 h1)
  refine T.ct (by rw[bS];omega) (T.grd hg (T.call (a2U _ hc) (λy hy=>?_)))
  rw[hy]
  have no:∀(z x:Int),¬x=0->T (some (Sum.inr (α:=List DS1×Int×List DS5×Unit) ((z,x,()):Int×Int×Unit))) (LQ (λs=>s=(l,k+1,s1,())/\(gK (atI l k zS1)=true/\∀j,0<=j->j<k->¬(atI l j zS1).2.1=(atI l k zS1).2.1)) (λ_=>0) 1 (λy:Int×Int×Unit=>y.2.1=0->VL l)):=λz x hx=>T.out λq=>absurd q hx
  refine T.cnd (λ_=>no _ _ (by decide)) (λhv=>T.grd hg (T.call (J3 _ _ hB) (λv hw=>?_)))
  refine T.cnd (λ_=>no _ _ (by decide)) (λhk=>T.grd hg (T.call (RH (s1,()) _ h.1) (λ_ _=>?_)))
  refine T.cnd (λ_=>no _ _ (by decide)) (λ_=>T.grd hg (T.call (OX (n:=10000) (x:=(_,_,_,())) ⟨hc.1.to (by omega),h,hB⟩) (λ_ _=>?_)))
  refine T.cnd (λhq=>no _ _ ?_) (λ_=>T.grd hg (T.call (a3a (n:=10000) (x:=(_,_,_,())) ⟨hc.2.to (by omega),h,hB⟩) (λ_ _=>?_)))
  .simp only[bsX,eq_self]at hq;exact hq
  refine T.cnd (λhq=>no _ _ ?_) (λ_=>T.go ⟨?_,sD.mp hv,λj j0 j1=>hw.2 j j0 ?_⟩ (by omega))
  .simp only[bsX,eq_self]at hq;exact hq
  .rw[bf (by omega) (by omega)]
  .simp only[bsX,eq_self]at hk;omega
 .have hV:VL l:=hV
  dsimp only
  refine T.cf (by rw[cO];omega) (T.kW ?_)
  repeat' (first|(refine T.call (a5L _ h2) (λ_ _=>?_))|(refine T.call (a4A _ _ i2 (i2.2 _ (at_mem _ (by omega) (by omega))).1) (λ_ _=>?_))|(refine T.call (a6q (n:=10000) (x:=(_,_,())) ⟨(i2.2 _ (at_mem _ (by omega) (by omega))).2.to (by omega),i2⟩) (λ_ _=>?_))|(refine T.loop (λr=>0<=r.2.1/\Bd (List.length r.1)/\CB r.1) (λr=>((List.length r.1:Int)-r.2.1).toNat) ?_ (λr ⟨i0,i1,i2⟩=>?_))|(refine T.grd ?_ ?_)|(refine T.cnd (λhc=>?_) (λhc=>?_)<;>try simp only[bsX,eq_self]at hc)|(refine T.kW ?_)|(refine T.go ?_ ?_)|(refine T.out ?_)|(refine T.jgo ?_)|(refine T.pV ?_)|(refine T.sZ ?_)|(refine T.ret ?_))
  all_goals(try dsimp only[LQ,JQ])
  all_goals(repeat' (with_reducible refine And.intro ?_ ?_))<;>first|trivial|assumption|omega|(first|(simp(disch:=omega) only[bsX,eq_self,arX];omega)|(simp(disch:=omega) only[bsX,eq_self,arX];done))|exact λ_=>hV
theorem kL{α:Type}{P:α->Prop}{xs:List α}{y:α}(h:∀x∈xs,P x)(hy:P y):∀x∈xs++[y],P x:=by
 intro x hx
 rcases aG.1 hx with q|q
 .exact h x q
 .rw[aV.1 q];exact hy
theorem Qd{α:Type}{xs:List α}{n:Nat}(z:α)(h:n<xs.length):List.getD xs n z∈xs:=by
 rw[bB,ah h]
 exact jA h
def CW(n:Nat)(l:List DS1):Prop:=l.length<=n/\∀c∈l,WC c
theorem CW.cb{n:Nat}{l:List DS1}(h:CW n l)(hn:n<=500):CB l:=⟨by have:=h.1;omega,h.2⟩
def EW(x:DS3):Prop:=List.length (α:=ByteArray) x.2.1<=1000/\CW 40 x.2.2.1
def WW(w:DS4):Prop:=CW 40 w.1/\List.length (α:=DS3) w.2.1<=12/\∀x∈w.2.1,EW x
theorem WW.x{w:DS4}(h:WW w):XW w:=⟨λc hc=>(h.1.2 c hc).x,λx hx=>⟨by have:=(h.2.2 x hx).1;omega,λc hc=>((h.2.2 x hx).2.2 c hc).x⟩⟩
theorem Dv(w:DS4)(h:WW w):T (m16 w) (λy=>True):=T.of (Wi w h.x) trivial
theorem b6W(l:List Int)(x:Int)(h:l.length<=1000):T (Pg l x) (λy=>List.length (α:=Int) y.1<=l.length+1):=by
 unfold Pg
 refine T.loop (λs=>0<=s.2.2.2.1/\s.1.length=l.length/\(s.2.2.2.2.1.length:Int)<=s.2.2.2.1+1/\s.2.2.2.1<=(l.length:Int)/\(s.2.2.1=false->(s.2.2.2.2.1.length:Int)<=s.2.2.2.1)) (λs=>((l.length:Int)-s.2.2.2.1).toNat) ⟨by simp,rfl,by simp,by simp,by simp⟩ (λs ⟨j0,j1,j2,j5,j3⟩=>?_)
 cases hb:s.2.2.1
 .have j4:=j3 hb
  simp only[xS,qR]
  repeat' (first|(refine T.grd ?_ ?_)|(refine T.cnd (λhc=>?_) (λhc=>?_)<;>try simp only[bsX,eq_self]at hc)|(refine T.kW ?_)|(refine T.go ?_ ?_)|(refine T.out ?_)|(refine T.jgo ?_)|(refine T.pV ?_)|(refine T.sZ ?_)|(refine T.ret ?_))
  all_goals(try dsimp only[LQ,JQ])
  all_goals(repeat' (with_reducible refine And.intro ?_ ?_))<;>first|trivial|assumption|omega|(first|(simp(disch:=omega) only[bsX,eq_self,arX];omega)|(simp(disch:=omega) only[bsX,eq_self,arX];done))|exact λq=>Bool.noConfusion q|(intro _;(first|(simp(disch:=omega) only[bsX,eq_self,arX];omega)|(simp(disch:=omega) only[bsX,eq_self,arX];done)))
 .clear j3
  simp only[oV,mO]
  repeat' (first|(refine T.grd ?_ ?_)|(refine T.cnd (λhc=>?_) (λhc=>?_)<;>try simp only[bsX,eq_self]at hc)|(refine T.kW ?_)|(refine T.go ?_ ?_)|(refine T.out ?_)|(refine T.jgo ?_)|(refine T.pV ?_)|(refine T.sZ ?_)|(refine T.ret ?_))
  all_goals(try dsimp only[LQ,JQ])
  all_goals(repeat' (with_reducible refine And.intro ?_ ?_))<;>first|trivial|assumption|omega|(first|(simp(disch:=omega) only[bsX,eq_self,arX];omega)|(simp(disch:=omega) only[bsX,eq_self,arX];done))|exact λq=>Bool.noConfusion q|(intro q;rw[hb]at q;cases q)
theorem a1z(w:DS4)(h:WW w):T (m91 w) (λy=>List.length (α:=Int) y.1<=100):=by
 unfold m91
 repeat' (first|(refine T.call (Dv _ h) (λ_ _=>?_))|(refine T.call (b6W _ _ (by omega)) (λu q=>?_))|(refine T.loop (λs=>0<=s.2.1/\List.length s.2.2.2.1<=12/\(List.length s.1:Int)<=1+2*s.2.1/\s.2.1<=12) (λs=>((List.length s.2.2.2.1:Int)-s.2.1).toNat) ?_ (λs ⟨j0,j1,j2,j3⟩=>?_))|(refine T.grd ?_ ?_)|(refine T.cnd (λhc=>?_) (λhc=>?_)<;>try simp only[bsX,eq_self]at hc)|(refine T.go ?_ ?_)|(refine T.out ?_)|(refine T.ret ?_))
 all_goals(try dsimp only[LQ,JQ])
 all_goals(repeat' (with_reducible refine And.intro ?_ ?_))<;>first|trivial|assumption|omega|(first|(simp(disch:=omega) only[bsX,eq_self,arX];omega)|(simp(disch:=omega) only[bsX,eq_self,arX];done))|exact h.2.1
theorem a6K(w:DS4)(t:Int)(h:WW w):T (m92 w t) (λy=>CW 100 y.1):=by
 unfold m92
 refine T.call (Dv _ h) (λ_ _=>T.cnd (λ_=>T.ret ⟨bN _,λc q=>by simp at q⟩) (λ_=>?_))
 refine T.aN (show a19 _=some _ from rfl) (T.cnd (λ_=>T.ret ⟨bN _,λc q=>by simp at q⟩) (λ_=>?_))
 refine T.loop (λs=>0<=s.2.1/\w.1=s.2.2.1/\w.2.1=s.2.2.2.1/\(s.2.2.2.2.1.length:Int)<=s.2.1/\s.2.1<=(List.length w.1:Int)/\∀c∈s.2.2.2.2.1,WC c) (λs=>((List.length w.1:Int)-s.2.1).toNat) ⟨by simp,rfl,rfl,by simp,by simp,λc q=>by simp at q⟩ ?_
 obtain⟨w1,w2,⟨⟩⟩:=w
 obtain⟨⟨a1,a2⟩,a3,a4⟩:=h
 dsimp only at a1 a2 a3 a4 ⊢
 rintro⟨s1,i,_,_,l,⟨⟩⟩ ⟨j0,rfl,rfl,j1,j2,j3⟩
 dsimp only at j0 j1 j2 j3 ⊢
 refine T.cnd (λhc=>?_) (λhc=>?_)<;>simp only[bsX,eq_self]at hc
 .refine T.grd (by rw[bT,aW];omega) (T.call (J3 _ _ (by omega)) (λ_ _=>T.cnd (λ_=>T.out ⟨bN _,λc q=>by simp at q⟩) (λ_=>?_)))
  refine T.grd (by rw[bT,aW];omega) (T.grd (by rw[jD];simp;omega) (T.go ⟨?_,rfl,rfl,?_,?_,kL j3 (a2 _ (at_mem _ j0 hc))⟩ ?_))
  all_goals dsimp only
  all_goals rw[bf (by omega) (by omega)]
  all_goals(try simp)
  all_goals omega
 refine T.map ?_
 refine T.loop (λs=>0<=s.2.1/\w2=s.2.2.2.1/\CW 100 s.2.2.2.2.1) (λs=>((w2.length:Int)-s.2.1).toNat) ⟨by simp,rfl,by dsimp only;omega,j3⟩ ?_
 clear j3 j2 j1 j0 hc
 rintro⟨s1,i,s3,_,l,⟨⟩⟩ ⟨j0,rfl,j1,j2⟩
 dsimp only at j0 j1 j2 ⊢
 refine T.cnd (λhc=>?_) (λhc=>T.out ⟨j1,j2⟩)<;>simp only[bsX,eq_self]at hc
 have hx:=a4 _ (at_mem zS3 j0 hc)
 generalize atI w2 i zS3=x at hx ⊢
 obtain⟨x1,rm,xc,⟨⟩⟩:=x
 obtain⟨b1,b2,b3⟩:=hx
 dsimp only at b1 b2 b3 ⊢
 refine T.grd (by rw[bT,aW];omega) (T.aN (show a18 _ _=some _ from rfl) (T.cnd (λ_=>T.go ⟨?_,rfl,j1,j2⟩ ?_) (λ_=>?_)))
 .dsimp only;rw[bf (by omega) (by omega)];omega
 .dsimp only;rw[bf (by omega) (by omega)];omega
 refine T.loop (λs=>0<=s.2.2.1/\w2=s.2.2.2.2.1/\l=s.2.2.2.2.2.1/\rm=s.2.2.2.2.2.2.2.2.1/\xc=s.2.2.2.2.2.2.2.2.2.1/\i=s.2.1) (λs=>((rm.length:Int)-s.2.2.1).toNat) ⟨by simp,rfl,rfl,rfl,rfl,rfl⟩ ?_
 rintro⟨t1,_,k,t4,_,_,t7,t8,_,_,⟨⟩⟩ ⟨k0,rfl,rfl,rfl,rfl,rfl⟩
 dsimp only at k0 ⊢
 refine T.cnd (λhk=>?_) (λhk=>?_)<;>simp only[bsX,eq_self]at hk
 .refine T.grd (by rw[bT,aW];omega) (T.call (J3 _ _ (by omega)) (λ_ _=>T.cnd (λ_=>T.out ⟨bN _,λc q=>by simp at q⟩) (λ_=>T.go ⟨?_,rfl,rfl,rfl,rfl,rfl⟩ ?_)))
  all_goals dsimp only
  all_goals rw[bf (by omega) (by omega)]
  all_goals omega
 refine T.map ?_
 clear hk k0
 refine T.loop (λs=>0<=s.2.2.1/\w2=s.2.2.2.2.1/\l=s.2.2.2.2.2.1/\rm=s.2.2.2.2.2.2.2.2.1/\xc=s.2.2.2.2.2.2.2.2.2.1/\i=s.2.1/\(s.2.2.2.2.2.2.2.2.2.2.1.length:Int)<=s.2.2.1/\s.2.2.1<=(l.length:Int)/\∀c∈s.2.2.2.2.2.2.2.2.2.2.1,WC c) (λs=>((l.length:Int)-s.2.2.1).toNat) ⟨by simp,rfl,rfl,rfl,rfl,rfl,by simp,by simp,λc q=>by simp at q⟩ ?_
 rintro⟨t1,_,k,t4,_,_,t7,t8,_,_,lf,⟨⟩⟩ ⟨k0,rfl,rfl,rfl,rfl,rfl,k1,k2,k3⟩
 dsimp only at k0 k1 k2 k3 ⊢
 refine T.cnd (λhk=>?_) (λhk=>?_)<;>simp only[bsX,eq_self]at hk
 .have hi:k.toNat<l.length:=by omega
  refine T.grd (by rw[bT,aW];omega) (T.grd (by rw[y8];exact hi) (T.call (KG _ _ (by show rm.length<=_;omega)) (λ_ _=>T.cnd (λ_=>T.grd (by rw[bT,aW];omega) (T.grd (by rw[y8];exact hi) (T.grd (by rw[jD];simp;omega) (T.go ⟨?_,rfl,rfl,rfl,rfl,rfl,?_,?_,kL k3 (j2 _ (Qd _ hi))⟩ ?_)))) (λ_=>T.go ⟨?_,rfl,rfl,rfl,rfl,rfl,?_,?_,k3⟩ ?_))))
  all_goals dsimp only
  all_goals rw[bf (by omega) (by omega)]
  all_goals(try simp)
  all_goals omega
 refine T.map ?_
 refine T.loop (λs=>0<=s.2.2.1/\w2=s.2.2.2.2.1/\xc=s.2.2.2.2.2.2.2.2.1/\i=s.2.1/\(s.2.2.2.2.2.2.2.2.2.1.length:Int)<=100+s.2.2.1/\s.2.2.1<=(xc.length:Int)/\∀c∈s.2.2.2.2.2.2.2.2.2.1,WC c) (λs=>((xc.length:Int)-s.2.2.1).toNat) ⟨by simp,rfl,rfl,rfl,by dsimp only;omega,by simp,k3⟩ ?_
 clear k0 k1 k2 k3 hk
 rintro⟨t1,_,k,t4,_,t7,t8,t9,_,lf,⟨⟩⟩ ⟨k0,rfl,rfl,rfl,k1,k2,k3⟩
 dsimp only at k0 k1 k2 k3 ⊢
 refine T.cnd (λhk=>?_) (λhk=>?_)<;>simp only[bsX,eq_self]at hk
 .refine T.grd (by rw[bT,aW];omega) (T.call (J3 _ _ (by omega)) (λ_ _=>T.cnd (λ_=>T.out ⟨bN _,λc q=>by simp at q⟩) (λ_=>?_)))
  refine T.grd (by rw[bT,aW];omega) (T.grd (by rw[jD];simp;omega) (T.go ⟨?_,rfl,rfl,rfl,?_,?_,kL k3 (b3 _ (at_mem _ k0 hk))⟩ ?_))
  all_goals dsimp only
  all_goals rw[bf (by omega) (by omega)]
  all_goals(try simp)
  all_goals omega
 refine T.map (T.cnd (λ_=>T.ret ⟨bN _,λc q=>by simp at q⟩) (λhl=>T.ret ⟨⟨?_,rfl,?_,k3⟩,?_⟩))<;>simp only[bsX,eq_self]at hl
 .dsimp only;rw[bf (by omega) (by omega)];omega
 .dsimp only;omega
 .dsimp only;rw[bf (by omega) (by omega)];omega
theorem a7a(s:DS6)(w:DS4)(hs:SB s)(h:WW w):T (m50 s w) (λy=>True):=by
 unfold m50
 repeat' (first|(refine T.call (Dv _ h) (λ_ _=>?_))|(refine T.call (a1z _ h) (λu hu=>?_))|(refine T.call (a6K _ _ j3) (λv hv=>?_))|(refine T.call (Ls _ _ j4 (hv.cb (by omega))) (λ_ _=>?_))|(refine T.loop (λs=>0<=s.2.1/\List.length s.1<=100/\WW (s.2.2.2.1,s.2.2.2.2.1,())/\SB (s.2.2.1,())) (λs=>((List.length s.1:Int)-s.2.1).toNat) ?_ (λs ⟨j0,j1,j3,j4⟩=>?_))|(refine T.grd ?_ ?_)|(refine T.cnd (λhc=>?_) (λhc=>?_)<;>try simp only[bsX,eq_self]at hc)|(refine T.go ?_ ?_)|(refine T.out ?_)|(refine T.ret ?_))
 all_goals(try dsimp only[LQ,JQ])
 all_goals(repeat' (with_reducible refine And.intro ?_ ?_))<;>first|trivial|assumption|omega|(first|(simp(disch:=omega) only[bsX,eq_self,arX];omega)|(simp(disch:=omega) only[bsX,eq_self,arX];done))
theorem RD:∀c:List ByteArray,(List.map (Ty.enc .str) (show List (Ty.den .str) from c)).map (λy=>Es .str y.cells)=c
 |[]=>rfl
 |x::c=>dn (x::·) (RD c)
theorem Kn(x:DS0):aQ (Ty.enc tS0 x)=x:=by
 obtain⟨a,b,c,d,e,f,⟨⟩⟩:=x
 exact dn (λz:List ByteArray=>(a,b,z,d,e,f,())) (RD c)
theorem NI:∀c:List ByteArray,(List.map (Ty.enc .str) (show List (Ty.den .str) from c)).all (λa=>shp .str a&&okC .str a.cells)=true
 |[]=>rfl
 |_::c=>NI c
theorem ok0(x:DS0):qy (Ty.enc tS0 x)=true:=by
 obtain⟨a,b,c,d,e,f,⟨⟩⟩:=x
 exact(dn (λz=>(true&&(true&&(true&&((true&&z)&&(true&&(true&&(true&&true)))))))) (NI c)).trans rfl
theorem Vq(x:DS7):aM (Ty.enc tS7 x)=x:=by
 obtain⟨n,y,u,⟨⟩⟩:=x
 exact dn (λz:DS0=>(n,z,u,())) (Kn y)
theorem ok7(x:DS7):lN (Ty.enc tS7 x)=true:=by
 obtain⟨n,y,u,⟨⟩⟩:=x
 exact(dn (λz=>(true&&(true&&(z&&(true&&true))))) (ok0 y)).trans rfl
theorem WE.mk{k:Nat}{a:Int}{b:ByteArray}{c:List ByteArray}{d e:Int}{l:List DS0}(hc:c.length<=1000)(hl:l.length<=3)(h:∀x∈l,WE k x):WE (k+1) (a,b,c,d,e,ou l,()):=by
 refine⟨by dsimp only;omega,bF (iY (bA _)) hl,λy hy=>?_⟩
 obtain⟨x,hx,rfl⟩:=bX.1 hy
 exact⟨ok0 x,Eq.mpr (dn (WE k) (Kn x)) (h x hx)⟩
theorem WB.mk{k:Nat}{l:List DS7}(hl:l.length<=1000)(h:∀x∈l,WE 10 x.2.1/\WB k x.2.2.1):WB (k+1) (nA l):=by
 refine⟨bF (iY (bA _)) (bF hl (by omega)),λy hy=>?_⟩
 obtain⟨x,hx,rfl⟩:=bX.1 hy
 exact⟨ok7 x,Eq.mpr (dn (λz:DS7=>WE 10 z.2.1/\WB k z.2.2.1) (Vq x)) (h x hx)⟩
theorem WE.leaf{a:Int}{b:ByteArray}{c:List ByteArray}{d e:Int}(hc:c.length<=1000):WE 1 (a,b,c,d,e,([]:List AV),()):=⟨by dsimp only;omega,by simp,λy hy=>by simp at hy⟩
theorem RB(k:Int):eU k<=1073741824:=by
 unfold eU
 cases iEq k 5<;>cases iEq k 6<;>cases iEq k 7<;>cases iEq k 10<;>cases iEq k 8<;>decide
def ndS:List ByteArray->Bool
 |[]=>true
 |a::l=>l.all (λb=>!sEq a b)&&ndS l
theorem Uh:∀l:List ByteArray,ndS l=true->l.Nodup
 |[],_=>uq
 |a::l,h=>by
  obtain⟨h1,h2⟩:=dx.mp h
  refine kM.2 ⟨λq=>?_,Uh l h2⟩
  have:=gJ.mp (aD.1 h1 a q)
  exact EX.mp this rfl
def Lf(e:DS0):Prop:=e.1<=6/\List.length (α:=AV) e.2.2.2.2.2.1=0/\e.2.1.size<=7/\List.length (α:=ByteArray) e.2.2.1<=4/\(∀w∈(show List ByteArray from e.2.2.1),w.size<=5)/\(-1000000000<=e.2.2.2.1/\e.2.2.2.1<=1000000000)/\(-1000000000<=e.2.2.2.2.1/\e.2.2.2.2.1<=1000000000)
def PX:Nat->DS0->Prop
 |0,e=>Lf e
 |k+1,e=>Lf e\/((6<=e.1/\(List.length (α:=AV) e.2.2.2.2.2.1<=1\/7<=e.1))/\List.length (α:=AV) e.2.2.2.2.2.1<=3/\∀y∈(show List AV from e.2.2.2.2.2.1),Ty.enc tS0 (aQ y)=y/\PX k (aQ y))
theorem PX.up:∀{k:Nat} {e:DS0},PX k e->PX (k+1) e
 |0,_,h=>.inl h
 |_+1,_,.inl h=>.inl h
 |_+1,_,.inr h=>.inr ⟨h.1,h.2.1,λy hy=>⟨(h.2.2 y hy).1,(h.2.2 y hy).2.up⟩⟩
theorem PX.to{k:Nat}{e:DS0}(h:PX k e){m:Nat}(hm:k<=m):PX m e:=by
 obtain⟨d,rfl⟩:=Nat.exists_eq_add_of_le hm
 clear hm
 induction d with
 |zero=>exact h
 |succ d ih=>exact ih.up
def WP(k:Nat)(e:DS0):Prop:=WE (k+1) e/\PX k e
theorem WP.to{k:Nat}{e:DS0}(h:WP k e){m:Nat}(hm:k<=m):WP m e:=⟨h.1.to (by omega),h.2.to hm⟩
theorem WP.leaf{e:DS0}(h:Lf e):WP 0 e:=by
 have hn:e.2.2.2.2.2.1=[]:=bC.1 h.2.1
 exact⟨⟨by have:=h.2.2.2.1;omega,by have:=h.2.1;omega,λy hy=>by rw[hn]at hy;cases hy⟩,h⟩
theorem Lf.k{a:Int}(ha:a<=6):Lf (a,bs [],([]:List ByteArray),0,0,([]:List AV),()):=⟨ha,rfl,(by show(bs []).size<=7;decide),by simp,λw hw=>absurd hw bJ,by dsimp only;omega,by dsimp only;omega⟩
theorem WP.mk{k:Nat}{a:Int}{b:ByteArray}{c:List ByteArray}{d e:Int}{l:List DS0}(ha:6<=a)(h7:l.length<=1\/7<=a)(hc:c.length<=1000)(hl:l.length<=3)(h:∀x∈l,WP k x):WP (k+1) (a,b,c,d,e,ou l,()):=by
 refine⟨WE.mk hc hl λx hx=>(h x hx).1,.inr ⟨⟨ha,h7.imp (bF (iY (bA _))) id⟩,bF (iY (bA _)) hl,λy hy=>?_⟩⟩
 obtain⟨x,hx,rfl⟩:=bX.1 hy
 exact⟨dn (Ty.enc tS0) (Kn x),Eq.mpr (dn (PX k) (Kn x)) (h x hx).2⟩
def VE(k:Nat)(e:DS0):Prop:=okE k e=true/\szE k e<=4^k
def EE(k:Nat)(e:DS0):Prop:=WE k e/\VE k e
theorem EE.to{k:Nat}{e:DS0}(h:EE k e){m:Nat}(hm:k<=m):EE m e:=by
 obtain⟨_,h2,h3⟩:=FE (FH h.2.1) (m-k)
 rw[show k+(m-k)=m by omega]at h2 h3
 exact⟨h.1.to hm,h3.trans h.2.1,by rw[h2];exact bF h.2.2 (Nat.pow_le_pow_right (by omega) hm)⟩
theorem EE.leaf{e:DS0}(h:qY e=true)(hl:List.length (α:=AV) e.2.2.2.2.2.1=0)(hw:List.length (α:=ByteArray) e.2.2.1<=1000):EE 1 e:=by
 have hn:e.2.2.2.2.2.1=[]:=bC.1 hl
 refine⟨⟨by omega,by omega,λy hy=>by rw[hn]at hy;cases hy⟩,?_,?_⟩
 .unfold okE;rw[h,hn];rfl
 .unfold szE;rw[hn];decide
theorem EE.mk{k:Nat}{op:Int}{l:List DS0}(ho:(op=6/\l.length=1)\/((op=7\/op=8)/\2<=l.length))(hl:l.length<=3)(h:∀x∈l,EE k x):EE (k+1) (op,bs [],([]:List ByteArray),0,0,ou l,()):=by
 have he:List.length (ou l)=l.length:=bA _
 refine⟨WE.mk (by simp) hl λx hx=>(h x hx).1,?_,?_⟩
 .unfold okE
  rw[dx]
  refine⟨?_,aD.2 λy hy=>?_⟩
  .unfold qY
   dsimp only
   have ha:EG op (List.length (ou l):Int)=true:=by
    rw[he]
    rcases ho with⟨rfl,q⟩|⟨rfl|rfl,q⟩
    .exact kg.mpr (by omega)
    .exact eG.mpr (by omega)
    .exact eG.mpr (by omega)
   rw[ha]
   rcases ho with⟨rfl,_⟩|⟨rfl|rfl,_⟩<;>(show((_:Bool)=true))<;>kernel_rfl
  .obtain⟨x,hx,rfl⟩:=bX.1 hy
   exact(dn (λz=>okE k z) (Kn x)).trans (h x hx).2.1
 .unfold szE
  have key:∀l:List DS0,(∀x∈l,EE k x)->(List.map (λa=>szE k (aQ a)) (ou l)).sum<=l.length*4^k:=by
   intro l
   induction l with
   |nil=>intro _;exact bN _
   |cons x l ih =>
    intro h
    have h1:=ih λy hy=>h y (bG _ hy)
    have h2:szE k (aQ (Ty.enc tS0 x))<=4^k:=(dn (λz=>szE k z<=4^k) (Kn x)).mpr (h x bY).2.2
    show szE k (aQ (Ty.enc tS0 x))+(List.map (λa=>szE k (aQ a)) (ou l)).sum<=(l.length+1)*4^k
    rw[Ac];omega
  have h1:=key l h
  have h2:l.length*4^k<=3*4^k:=bM _ hl
  have h3:1<=4^k:=Nat.pow_pos (by omega)
  rw[Nat.pow_succ]
  dsimp only
  omega
def EP(k:Nat)(e:DS0):Prop:=WP k e/\VE (k+1) e
theorem EP.ee{k:Nat}{e:DS0}(h:EP k e):EE (k+1) e:=⟨h.1.1,h.2⟩
theorem EP.to{k:Nat}{e:DS0}(h:EP k e){m:Nat}(hm:k<=m):EP m e:=⟨h.1.to hm,(h.ee.to (m:=m+1) (by omega)).2⟩
theorem EP.leaf{e:DS0}(h:qY e=true)(hp:Lf e):EP 0 e:=⟨.leaf hp,(EE.leaf h hp.2.1 (by have:=hp.2.2.2.1;omega)).2⟩
theorem EP.mk{k:Nat}{op:Int}{l:List DS0}(ho:(op=6/\l.length=1)\/((op=7\/op=8)/\2<=l.length))(hl:l.length<=3)(h:∀x∈l,EP k x):EP (k+1) (op,bs [],([]:List ByteArray),0,0,ou l,()) :=
 ⟨.mk (by omega) (by omega) (by simp) hl λx hx=>(h x hx).1,(EE.mk ho hl λx hx=>(h x hx).ee).2⟩
def NM(l:List ByteArray):Prop:=l.length<=1000/\∀w∈l,w.size<=7
theorem EE.s{k:Nat}{e:DS0}(h:EE k e)(hk:k<=4):je e=true:=by
 obtain⟨_,h2,h3⟩:=FE (FH h.2.1) (16-k)
 rw[show k+(16-k)=16 by omega]at h2 h3
 unfold je
 have:4^k<=4^4:=Nat.pow_le_pow_right (by omega) hk
 rw[h3,h.2.1,h2,bW (by have:=h.2.2;omega)];rfl
theorem a2C{l:List ByteArray}(h:(l.all dR&&ndS l)=true):(List.all l dR&&dst l)=true:=by
 obtain⟨h1,h2⟩:=dx.mp h
 rw[h1,D6.mpr (Uh l h2)];rfl
def xA(x:List ByteArray)(f:Int)(t:Nat):List ByteArray:=(List.range t).map fun(i:Nat)=>atI x ((f+(i:Int))%(x.length:Int)) ByteArray.empty
theorem EY(x:List ByteArray)(f:Int)(t:Nat):(xA x f t).length=t:=by unfold xA;simp
theorem a1r(x:List ByteArray)(f:Int)(t:Nat):xA x f (t+1)=xA x f t++[atI x ((f+(t:Int))%(x.length:Int)) ByteArray.empty]:=by unfold xA;rw[List.range_succ,aU];rfl
theorem X8(x:List ByteArray)(f:Int){t:Nat}{k:Int}(h0:0<=k)(h1:k<(t:Int)):atI (xA x f t) k ByteArray.empty=atI x ((f+k)%(x.length:Int)) ByteArray.empty:=by
 show List.getD (xA x f t) k.toNat ByteArray.empty=_
 rw[bB,xA,aT,wP (by omega)]
 show atI x ((f+(k.toNat:Int))%(x.length:Int)) ByteArray.empty=_
 rw[gQ h0]
theorem a9I{x:List ByteArray}{f:Int}{t:Nat}(h:(List.all x dR&&dst x)=true)(h1:1<=t)(h2:t<=x.length)(h3:x.length<=12):rO (xA x f t)=true:=by
 obtain⟨a1,a2⟩:=dx.mp h
 have hn:=(xG ByteArray.empty).1 (D6.mp a2)
 have hm:∀k:Int,0<=(f+k)%(x.length:Int)/\(f+k)%(x.length:Int)<(x.length:Int):=λk=>⟨Ay _ (by omega),yF _ (by omega)⟩
 unfold rO
 rw[EY,bW (by omega),iD]
 refine Kc λk h0 h1=>?_
 rw[EY]at h1
 rw[X8 x f h0 h1]
 refine⟨aD.1 a1 _ (at_mem _ (hm k).1 (hm k).2),λj j0 j1 q=>?_⟩
 rw[X8 x f j0 (by omega)]at q
 have ne:¬(f+k)%(x.length:Int)=(f+j)%(x.length:Int):=λe=>by
  have e:=Int.emod_eq_emod_iff_emod_sub_eq_zero.1 e
  rw[show f+k-(f+j)=k-j by omega,Int.emod_eq_of_lt (by omega) (by omega)]at e
  omega
 rcases Int.lt_or_gt_of_ne ne with w|w
 .exact hn _ (hm j).1 (hm j).2 _ (hm k).1 w q.symm
 .exact hn _ (hm k).1 (hm k).2 _ (hm j).1 w q
def AO(x:DS5):Prop:=(x.2.1=1->1<=List.length (α:=ByteArray) x.2.2.1)/\List.length (α:=ByteArray) x.2.2.1<=4/\(-1000000000<=x.2.2.2.1/\x.2.2.2.1<=x.2.2.2.2.1/\x.2.2.2.2.1<=1000000000)/\dR x.1=true/\(x.2.1=1->(List.all x.2.2.1 dR&&dst x.2.2.1)=true)/\x.1.size<=7/\∀w∈(show List ByteArray from x.2.2.1),w.size<=5
def SK(a:DS6):Prop:=(1<=List.length a.1/\List.length a.1<=6)/\∀x∈a.1,AO x
theorem SK.sb{a:DS6}(h:SK a):SB a:=⟨by have:=h.1;omega,λx hx=>by have:=(h.2 x hx).2.1;omega⟩
theorem b1X(k:Int):T (m23 k) (λy=>SK y.1):=by
 unfold m23
 refine T.call (a03 k (by omega) (by omega)) (λ_ _=>?_)
 repeat' (first|(refine T.aN (show m51=some _ from rfl) ?_)|(refine T.grd ?_ ?_)|(refine T.cnd (λhc=>?_) (λhc=>?_)<;>try simp only[bsX,eq_self]at hc)|(refine T.kW ?_)|(refine T.go ?_ ?_)|(refine T.out ?_)|(refine T.jgo ?_)|(refine T.pV ?_)|(refine T.sZ ?_)|(refine T.ret ?_))
 all_goals refine⟨by simp,λx hx=>?_⟩
 all_goals simp only[bD,bJ,or_false]at hx
 all_goals(first|(rcases hx with rfl|rfl|rfl|rfl)|(rcases hx with rfl|rfl|rfl)|(rcases hx with rfl|rfl)|subst hx)
 all_goals exact⟨by simp,by simp,by simp,by kernel_rfl,λq=>by first|(exact a2C (by kernel_rfl))|(exact absurd q (by decide)),by decide,λw hw=>by first|(exact absurd hw bJ)|(simp only[bD,bJ,or_false]at hw;(first|(rcases hw with rfl|rfl|rfl|rfl)|(rcases hw with rfl|rfl)|subst hw)<;>decide)⟩
theorem AO.w{x:DS5}(h:AO x)(e:x.2.1=1):1<=List.length (α:=ByteArray) x.2.2.1/\List.length (α:=ByteArray) x.2.2.1<=12:=⟨h.1 e,by have:=h.2.1;omega⟩
theorem a5t{ws:List ByteArray}{a:Int}(h0:0<=a)(h1:1<=ws.length):atI ws (jC a (aA ws)) ByteArray.empty∈ws:=by
 have hz:=aW ws
 have r0:0<=jC a (aA ws):=Aw _ h0
 have r1:jC a (aA ws)<aA ws:=tK _ (by omega)
 exact at_mem _ r0 (by omega)
theorem b4s{a b:Int}(h0:0<=a)(h1:0<b):0<=jC a b/\jC a b<b:=⟨Aw _ h0,tK _ h1⟩
theorem LB{s:List DS5}{i:Int}(h:SK (s,()))(h0:0<=i)(h1:i<(s.length:Int)):AO (atI s i zS5):=h.2 _ (at_mem _ h0 h1)
theorem a5s{x:List ByteArray}{f:Int}{t:Nat}(h:1<=x.length){w:ByteArray}(hw:w∈xA x f t):w∈x:=by
 unfold xA at hw
 obtain⟨i,_,rfl⟩:=bX.1 hw
 exact at_mem _ (Ay _ (by omega)) (yF _ (by omega))
theorem b3C{L:List Int}{a:Int}(s:DS6)(hs:SK s)(h:dA L a):T (Uz s L a) (λy=>EP 0 y.1/\dA y.2.1 y.2.2.1):=by
 unfold Uz
 obtain⟨s1,⟨⟩⟩:=s
 have hl:=hs.1
 dsimp only at hl ⊢
 refine T.call (jB (by assumption) (by rw[aW];omega) (by rw[aW];omega)) (λy ⟨d,y0,y1⟩=>?_)
 refine T.grd (by rw[bT];exact⟨y0,y1⟩) ?_
 have hx:=LB hs y0 (by rw[aW]at y1;exact y1)
 generalize atI s1 y.1 zS5=x at hx ⊢
 obtain⟨x1,x2,x3,x4,x5,⟨⟩⟩:=x
 obtain⟨b1,b2,⟨b3,b4,b5⟩,b6,b7,b8,b9⟩:=hx
 dsimp only at b1 b2 b3 b4 b5 b6 b7 b8 b9 ⊢
 have hz:=aW x3
 have he:aR .i64 (dQ .i64 x5 x4) 1=x5-x4+1:=by rw[dG (by omega) (by omega),bf (by omega) (by omega)]
 have nd:∀{op:Int} {ws:List ByteArray} {lo hi:Int},(op=3\/op=4\/op=5)->zC op ws=true->zJ op lo hi=true->qY (op,x1,ws,lo,hi,([]:List AV),())=true:=fun{op ws lo hi} ho hw hr=>by
  unfold qY JK
  dsimp only
  rw[hw,hr]
  rcases ho with rfl|rfl|rfl<;>(show(true&&(true&&(dR x1&&true)))=true)<;>rw[b6]<;>rfl
 refine T.cnd (λhc=>T.ret ⟨EP.leaf (nd (.inl rfl) rfl rfl) ⟨by dsimp only;omega,rfl,b8,by simp,λw hw=>absurd hw bJ,by dsimp only;omega,by dsimp only;omega⟩,d⟩) (λ_=>T.cnd (λhc=>?_) (λ_=>?_))
 .rw[kg]at hc
  have b1:=b1 hc
  have b7:=b7 hc
  refine T.call (jB d (by omega) (by omega)) (λu ⟨u0,u1,u2⟩=>T.call (Bw u0 (by omega) (by omega) (by omega)) (λv ⟨v0,v1,v2⟩=>?_))
  refine T.loop (λs=>∃t:Nat,(t:Int)<=v.1/\s=(u.1+(t:Int),v.1-(t:Int),v.2.1,v.2.2.1,0,bs [],0,0,x1,x2,x3,x4,x5,4,x1,0,0,xA x3 u.1 t,())) (λs=>s.2.1.toNat) ⟨0,by omega,by rw[show u.1+((0:Nat):Int)=u.1 by omega,show v.1-((0:Nat):Int)=v.1 by omega];rfl⟩ ?_
  rintro _ ⟨t,ht,rfl⟩
  dsimp only
  refine T.cnd (λhg=>?_) (λhg=>?_)<;>simp only[bsX,eq_self]at hg
  .have hr:jC (u.1+(t:Int)) (aA x3)=(u.1+(t:Int))%(x3.length:Int):=by rw[hz];exact Int.tmod_eq_emod_of_nonneg (by omega)
   have r0:=Ay (u.1+(t:Int)) (show(x3.length:Int)≠0 by omega)
   have r1:=yF (u.1+(t:Int)) (show 0<(x3.length:Int) by omega)
   rw[hr]
   refine T.grd (by rw[mM];omega) (T.grd (by rw[bT,hz];exact⟨r0,r1⟩) (T.grd (by rw[jD,EY];simp;omega) (T.go ⟨t+1,by omega,?_⟩ ?_)))
   .rw[bf (by omega) (by omega),dG (by omega) (by omega),a1r,show u.1+((t+1:Nat):Int)=u.1+(t:Int)+1 by omega,show v.1-((t+1:Nat):Int)=v.1-(t:Int)-1 by omega]
   .dsimp only;rw[dG (by omega) (by omega)];omega
  .refine T.out ⟨EP.leaf (nd (.inr (.inl rfl)) (show rO _=true from a9I b7 (by omega) (by omega) (by omega)) rfl) ⟨by dsimp only;omega,rfl,b8,by show List.length (xA x3 u.1 t)<=4;rw[EY];omega,λw hw=>b9 w (a5s (by omega) hw),by dsimp only;omega,by dsimp only;omega⟩,v0⟩
 ·have n5:∀ {lo hi:Int},x4<=lo->lo<=hi->hi<=x5->EP 0 (5,x1,([]:List ByteArray),lo,hi,([]:List AV),()):=fun {lo hi} p q r=>EP.leaf (nd (.inr (.inr rfl)) rfl (by
   show(iLe (-1000000000) lo&&(iLe lo 1000000000&&(iLe (-1000000000) hi&&(iLe hi 1000000000&&iLe lo hi))))=true
   rw[eG.mpr (by omega),eG.mpr (by omega),eG.mpr (by omega),eG.mpr (by omega),eG.mpr q];rfl)) ⟨by dsimp only;omega,rfl,b8,by simp,λw hw=>absurd hw bJ,by dsimp only;omega,by dsimp only;omega⟩
  rw[he]
  refine T.call (jB d (by omega) (by omega)) (λu ⟨u0,u1,u2⟩=>?_)
  refine T.join (λj=>(x4<=j.1/\j.1<=x5)/\dA j.2.1 j.2.2.1/\x1=j.2.2.2.2.2.2.2.1/\x5=j.2.2.2.2.2.2.2.2.2.2.2.1) ?_ (λj hj=>?_)
  .refine T.call (jB u0 (by omega) (by omega)) (λv ⟨v0,_,_⟩=>T.cnd (λ_=>T.call (jB v0 (by omega) (by omega)) (λw ⟨w0,w1,w2⟩=>T.jgo ⟨⟨?_,?_⟩,w0,rfl,rfl⟩)) (λ_=>T.jgo ⟨⟨?_,?_⟩,v0,rfl,rfl⟩))
   .dsimp only;unfold jv tu;rw[dG (by omega) (by omega)];omega
   .dsimp only;unfold jv tu;omega
   .dsimp only;rw[bf (by omega) (by omega)];omega
   .dsimp only;rw[bf (by omega) (by omega)];omega
  .obtain⟨lo,L,a,_,_,_,_,_,_,_,_,_,⟨⟩⟩:=j
   obtain⟨⟨l0,l1⟩,hd,rfl,rfl⟩:=hj
   dsimp only at l0 l1 hd ⊢
   have he:aR .i64 (dQ .i64 x5 lo) 1=x5-lo+1:=by rw[dG (by omega) (by omega),bf (by omega) (by omega)]
   rw[he]
   refine T.call (jB hd (by omega) (by omega)) (λv ⟨v0,v1,v2⟩=>T.call (jB v0 (by omega) (by omega)) (λw ⟨w0,_,_⟩=>T.cnd (λ_=>T.call (jB w0 (by omega) (by omega)) (λz ⟨z0,z1,z2⟩=>T.ret ⟨n5 l0 ?_ ?_,z0⟩)) (λ_=>T.ret ⟨n5 l0 ?_ ?_,w0⟩)))
   .unfold jv;rw[bf (by omega) (by omega)];omega
   .unfold jv;omega
   .rw[bf (by omega) (by omega)];omega
   .rw[bf (by omega) (by omega)];omega
def AI(ws ac:List ByteArray)(op:Int)(nm:ByteArray)(lo hi:Int):Prop:=(∀w∈ws,w.size<=5)/\(∀w∈ac,w.size<=5)/\nm.size<=7/\lo=0/\hi=0/\op=4
theorem AI.init{ws:List ByteArray}{nm:ByteArray}(h:∀w∈ws,w.size<=5)(hn:nm.size<=7):AI ws [] 4 nm 0 0:=⟨h,λw hw=>absurd hw bJ,hn,rfl,rfl,rfl⟩
theorem AI.step{ws ac:List ByteArray}{op:Int}{nm:ByteArray}{lo hi i:Int}(h:AI ws ac op nm lo hi)(h0:0<=i)(h1:1<=ws.length):AI ws (ac++[atI ws (jC i (aA ws)) ByteArray.empty]) op nm lo hi:=⟨h.1,kL h.2.1 (h.1 _ (a5t h0 h1)),h.2.2⟩
theorem AI.leaf{ws ac:List ByteArray}{op:Int}{nm:ByteArray}{lo hi:Int}(h:AI ws ac op nm lo hi)(hl:ac.length<=4):WP 0 (op,nm,ac,lo,hi,([]:List AV),()):=by
 obtain⟨_,h2,h3,rfl,rfl,rfl⟩:=h
 exact .leaf ⟨by dsimp only;omega,rfl,h3,hl,h2,by dsimp only;omega,by dsimp only;omega⟩
set_option maxHeartbeats 800000 in
theorem a7o{L:List Int}{a:Int}(s:DS6)(l:List ByteArray)(hs:SK s)(h:dA L a)(hn:NM l):T (IK s L a l) (λy=>WP 0 y.1/\dA y.2.1 y.2.2.1/\y.2.2.2.1=l):=by
 unfold IK
 obtain⟨s1,⟨⟩⟩:=s
 have hl:=hs.1
 have hn1:=hn.1
 dsimp only at hl ⊢
 refine T.cnd (λhc=>T.call (jB h (by omega) (by omega)) (λu ⟨d0,u0,u1⟩=>T.cnd (λ_=>?_) (λ_=>?_))) (λ_=>?_)
 .simp only[bsX,eq_self]at hc
  exact T.call (jB d0 (by rw[aW];omega) (by rw[aW];omega)) (λv ⟨d1,v0,v1⟩=>T.grd (by rw[bT];exact⟨v0,v1⟩) (T.grd (by rw[y8];rw[aW]at v1;omega) (T.ret ⟨WP.leaf ⟨(by dsimp only;omega),rfl,hn.2 _ (at_mem _ v0 (by rw[aW]at v1;exact v1)),by simp,λw hw=>absurd hw bJ,by dsimp only;omega,by dsimp only;omega⟩,d1,rfl⟩)))
 all_goals
  refine T.call (jB (by assumption) (by rw[aW];omega) (by rw[aW];omega)) (λy ⟨d,y0,y1⟩=>?_)
  refine T.grd (by rw[bT];exact⟨y0,y1⟩) ?_
  have hx:=LB hs y0 (by rw[aW]at y1;exact y1)
  generalize atI s1 y.1 zS5=x at hx ⊢
  obtain⟨x1,x2,x3,x4,x5,⟨⟩⟩:=x
  obtain⟨b1,b2,⟨b3,b4,b5⟩,b6,b7,b8,b9⟩:=hx
  dsimp only at b1 b2 b3 b4 b5 b8 b9 ⊢
  have hz:=aW x3
  have he:aR .i64 (dQ .i64 x5 x4) 1=x5-x4+1:=by rw[dG (by omega) (by omega),bf (by omega) (by omega)]
  repeat' (first|(refine T.call (jB (by assumption) (by first|omega|(rw[aW];first|omega|(have:=b1 (by assumption);omega))|(simp(disch:=omega) only[bf,dG];omega)) (by first|omega|(rw[aW];first|omega|(have:=b1 (by assumption);omega))|(simp(disch:=omega) only[bf,dG];omega))) (λ_ ⟨_,_,_⟩=>?_))|(refine T.call (Bw (by assumption) (by omega) (by first|omega|(rw[aW];first|omega|(have:=b1 (by assumption);omega))|(simp(disch:=omega) only[bf,dG];omega)) (by first|omega|(rw[aW];first|omega|(have:=b1 (by assumption);omega))|(simp(disch:=omega) only[bf,dG];omega))) (λ_ ⟨_,_,_⟩=>?_))|(refine T.loop (λs=>0<=s.1/\0<=s.2.1/\s.1+s.2.1<=1000/\(1<=List.length (α:=ByteArray) s.2.2.2.2.2.2.2.2.2.2.2.1/\List.length (α:=ByteArray) s.2.2.2.2.2.2.2.2.2.2.2.1<=4)/\(List.length (α:=ByteArray) s.2.2.2.2.2.2.2.2.2.2.2.2.2.2.2.2.2.2.1:Int)+s.2.1<=4/\dA s.2.2.1 s.2.2.2.1/\s.2.2.2.2.1=l/\AI s.2.2.2.2.2.2.2.2.2.2.2.1 s.2.2.2.2.2.2.2.2.2.2.2.2.2.2.2.2.2.2.1 s.2.2.2.2.2.2.2.2.2.2.2.2.2.2.1 s.2.2.2.2.2.2.2.2.2.2.2.2.2.2.2.1 s.2.2.2.2.2.2.2.2.2.2.2.2.2.2.2.2.1 s.2.2.2.2.2.2.2.2.2.2.2.2.2.2.2.2.2.1) (λs=>(s.2.1).toNat) ?_ (λs ⟨j0,j1,j2,⟨j3,j4⟩,j5,j6,j7,j8⟩=>?_))|(refine T.join (λj=>x4<=j.1/\j.1<=x5/\j.2.2.2.2.2.2.2.2.2.2.2.2.1=x5/\dA j.2.1 j.2.2.1/\j.2.2.2.1=l/\j.2.2.2.2.2.2.2.2.1.size<=7) ?_ (λ_ ⟨_,_,_,_,_,_⟩=>?_))|(refine T.grd ?_ ?_)|(refine T.cnd (λhc=>?_) (λhc=>?_)<;>try simp only[bsX,eq_self]at hc)|(refine T.kW ?_)|(refine T.go ?_ ?_)|(refine T.out ?_)|(refine T.jgo ?_)|(refine T.pV ?_)|(refine T.sZ ?_)|(refine T.ret ?_))
  all_goals(try dsimp only[LQ,JQ])
  all_goals(repeat' (with_reducible refine And.intro ?_ ?_))<;>first|trivial|assumption|exact j8.leaf (by omega)|exact WP.leaf ⟨(by dsimp only;omega),rfl,(by assumption),(by dsimp only;first|(simp;done)|omega),(λw hw=>absurd hw bJ),(by dsimp only;first|omega|(simp(disch:=omega) only[bf,dG,jv,tu]at *;(try simp(disch:=omega) only[bf]);omega)),(by dsimp only;first|omega|(simp(disch:=omega) only[bf,dG,jv,tu]at *;(try simp(disch:=omega) only[bf]);omega))⟩|exact j8.step (by omega) (by omega)|exact AI.init b9 b8|omega|(simp;done)|(have:=b1 (by assumption);omega)|(rw[bT,aW];exact b4s (by omega) (by omega))|(simp only[jv,tu];simp(disch:=omega) only[bf,dG];omega)|(first|(simp(disch:=omega) only[bsX,eq_self,arX];omega)|(simp(disch:=omega) only[bsX,eq_self,arX];done))|(have:=b1 (by assumption);simp;omega)|(simp(disch:=omega) only[bf,dG,jv,tu]at *;omega)
section
theorem ED{a b:List ByteArray}(h:b=a):Nat.beq a.length b.length=true:=by rw[h];exact Nat.beq_refl _
def PB:Nat->List AV->Prop
 |0,l=>l.length=0
 |k+1,l=>l.length<=2/\∀a∈l,Ty.enc tS7 (aM a)=a/\(aM a).1.size<=1/\PX 1 (aM a).2.1/\PB k (aM a).2.2.1
def BP(d:Int)(l:List AV):Prop:=WB (d.toNat+1) l/\PB d.toNat l
def BQ(d:Int)(q:DS7):Prop:=(WE 10 q.2.1/\WB d.toNat q.2.2.1)/\q.1.size<=1/\PX 1 q.2.1/\1<=d/\PB (d-1).toNat q.2.2.1
theorem BQ.mk{d d':Int}{n:ByteArray}{e:DS0}{l:List AV}(hn:n.size<=1)(he:WE 10 e)(hx:PX 1 e)(hd:1<=d)(h':d'=d-1)(h:BP d' l):BQ d (n,e,l,()):=by
 subst h'
 refine⟨⟨he,?_⟩,hn,hx,hd,h.2⟩
 have:=h.1
 rwa [show(d-1).toNat+1=d.toNat by omega]at this
theorem BP.mk{d:Int}{l:List DS7}(hl:l.length<=2)(h:∀q∈l,BQ d q):BP d (nA l):=by
 refine⟨.mk (by omega) λq hq=>(h q hq).1,?_⟩
 have hz:List.length (nA l)=l.length:=bA _
 by_cases h1:1<=d
 .rw[show d.toNat=(d-1).toNat+1 by omega]
  refine⟨by rw[hz];exact hl,λy hy=>?_⟩
  obtain⟨x,hx,rfl⟩:=bX.1 hy
  obtain⟨_,q1,q2,_,q4⟩:=h x hx
  exact⟨dn (Ty.enc tS7) (Vq x),Eq.mpr (dn (λz:DS7=>z.1.size<=1/\PX 1 z.2.1/\PB (d-1).toNat z.2.2.1) (Vq x)) ⟨q1,q2,q4⟩⟩
 .have:l=[]:=lZ.2 λq hq=>h1 (h q hq).2.2.2.1
  subst this
  rw[show d.toNat=0 by omega]
  rfl
theorem wxy(i:Int):(atI ([(bs [119]),(bs [120]),(bs [121])]:List ByteArray) i ByteArray.empty).size<=1:=by
 show(List.getD [(bs [119]),(bs [120]),(bs [121])] i.toNat ByteArray.empty).size<=1
 match i.toNat with
 |0=>decide
 |1=>decide
 |2=>decide
 |n+3=>exact bN _
def PCl(c:DS1):Prop:=c.2.1.size<=7/\PX 2 c.2.2.1/\PB 2 c.2.2.2.1/\(c.1=3\/c.2.2.2.1=[])
theorem PB.nil:∀k,PB k []
 |0=>rfl
 |k+1=>⟨by simp,λa ha=>absurd ha bJ⟩
theorem RX{n:Nat}{x:DS6×Int×List Int×Int×Unit}(h:SK x.1/\dA x.2.2.1 x.2.2.2.1/\x.2.1<=3/\x.2.1<=n/\1<=n):T (eH (λself (x:DS6×Int×List Int×Int×Unit)=>MI self x.1 x.2.1 x.2.2.1 x.2.2.2.1) n x) (fun(y:DS0×List Int×Int×Unit)=>EP (x.2.1-1).toNat y.1/\dA y.2.1 y.2.2.1):=by
 refine T.iter (λn (x:DS6×Int×List Int×Int×Unit)=>SK x.1/\dA x.2.2.1 x.2.2.2.1/\x.2.1<=3/\x.2.1<=n/\1<=n) (λ_ x (y:DS0×List Int×Int×Unit)=>EP (x.2.1-1).toNat y.1/\dA y.2.1 y.2.2.1) (λn x h self hs=>?_) (λx h=>by have:=h.2.2.2.2;omega) n x h
 obtain⟨⟨s1,⟨⟩⟩,d,L,a,⟨⟩⟩:=x
 obtain⟨hk,hd,h3,h4,h5⟩:=h
 dsimp only at hd h3 h4 h5 ⊢
 unfold MI
 refine T.call (jB hd (by omega) (by omega)) (λu ⟨u0,u1,u2⟩=>T.cnd (λhc=>?_) (λhc=>?_))<;>simp only[bsX,eq_self]at hc
 .refine T.call (jB u0 (by omega) (by omega)) (λv ⟨v0,_,_⟩=>T.cnd (λ_=>T.ret ⟨EP.to (EP.leaf (by show(_:Bool)=true;kernel_rfl) (Lf.k (by decide))) (by omega),v0⟩) (λ_=>T.cnd (λ_=>T.ret ⟨EP.to (EP.leaf (by show(_:Bool)=true;kernel_rfl) (Lf.k (by decide))) (by omega),v0⟩) (λ_=>T.call (b3C _ hk v0) (λw ⟨w0,w1⟩=>T.ret ⟨w0.to (by omega),w1⟩))))
 obtain⟨m,rfl⟩:∃m:Nat,d=(m:Int)+2:=⟨d.toNat-2,by omega⟩
 have hi:dQ .i64 ((m:Int)+2) 1=(m:Int)+1:=by rw[dG (by omega) (by omega)];omega
 have sf:∀(L:List Int) (a:Int),dA L a->T (self ((s1,()),(m:Int)+1,L,a,())) (λy=>EP m y.1/\dA y.2.1 y.2.2.1):=λL a hd=>(hs ((s1,()),(m:Int)+1,L,a,()) ⟨hk,hd,by dsimp only;omega,by dsimp only;omega,by omega⟩).mono λy q=>⟨by have q:=q.1;rwa [show((m:Int)+1-1).toNat=m by omega]at q,q.2⟩
 rw[hi,show((m:Int)+2-1).toNat=m+1 by omega]
 refine T.cnd (λ_=>T.call (sf _ _ u0) (λv ⟨v0,v1⟩=>T.ret ⟨EP.mk (.inl ⟨rfl,rfl⟩) (by simp) (λq hq=>by rw[aV.1 hq];exact v0),v1⟩)) (λhq=>?_)
 simp only[bsX,eq_self]at hq
 refine T.call (Bw u0 (by omega) (by omega) (by omega)) (λv ⟨v0,v1,v2⟩=>?_)
 rw[show aR .i64 u.1 1=u.1+1 from bf (by omega) (by omega)]
 refine T.loop (λs=>(m:Int)+2=s.1/\0<=s.2.1/\(List.length (α:=DS0) s.2.2.2.2.2.2.2.2.2.2.2.2.2.1:Int)+s.2.1=v.1/\dA s.2.2.1 s.2.2.2.1/\s1=s.2.2.2.2.1/\(u.1+1=s.2.2.2.2.2.2.2.2.2.1/\bs []=s.2.2.2.2.2.2.2.2.2.2.1/\0=s.2.2.2.2.2.2.2.2.2.2.2.1/\0=s.2.2.2.2.2.2.2.2.2.2.2.2.1)/\∀q∈s.2.2.2.2.2.2.2.2.2.2.2.2.2.1,EP m q) (λs=>s.2.1.toNat) ⟨rfl,by dsimp only;omega,by simp,v0,rfl,⟨rfl,rfl,rfl,rfl⟩,λq hq=>absurd hq bJ⟩ ?_
 rintro⟨_,k,L,a,_,t6,t7,t8,t9,_,_,_,_,l,⟨⟩⟩ ⟨rfl,k0,k1,hd,rfl,⟨rfl,rfl,rfl,rfl⟩,hw⟩
 dsimp only at k0 k1 hd hw ⊢
 rw[hi]
 refine T.cnd (λhg=>?_) (λhg=>?_)<;>simp only[bsX,eq_self]at hg
 .refine T.call (sf _ _ hd) (λw ⟨w0,w1⟩=>T.grd (by rw[jD];simp;omega) (T.go ⟨rfl,?_,?_,w1,rfl,⟨rfl,rfl,rfl,rfl⟩,kL hw w0⟩ ?_))
  all_goals dsimp only
  all_goals rw[dG (by omega) (by omega)]
  all_goals(try simp only[ak,aL,dS])
  all_goals omega
 .exact T.out ⟨EP.mk (.inr ⟨by omega,by omega⟩) (by omega) hw,hd⟩
theorem RU{n:Nat}{x:DS6×Int×List Int×Int×List ByteArray×Unit}(h:SK x.1/\dA x.2.2.1 x.2.2.2.1/\x.2.1<=3/\x.2.1<=n/\1<=n/\NM x.2.2.2.2.1):T (eH (λself (x:DS6×Int×List Int×Int×List ByteArray×Unit)=>Fh self x.1 x.2.1 x.2.2.1 x.2.2.2.1 x.2.2.2.2.1) n x) (λy:DS0×List Int×Int×List ByteArray×Unit=>WP (x.2.1-1).toNat y.1/\dA y.2.1 y.2.2.1/\y.2.2.2.1=x.2.2.2.2.1):=by
 refine T.iter (λn (x:DS6×Int×List Int×Int×List ByteArray×Unit)=>SK x.1/\dA x.2.2.1 x.2.2.2.1/\x.2.1<=3/\x.2.1<=n/\1<=n/\NM x.2.2.2.2.1) (λ_ x (y:DS0×List Int×Int×List ByteArray×Unit)=>WP (x.2.1-1).toNat y.1/\dA y.2.1 y.2.2.1/\y.2.2.2.1=x.2.2.2.2.1) (λn x h self hs=>?_) (λx h=>by have:=h.2.2.2.2.1;omega) n x h
 unfold Fh
 obtain⟨hk,hd,h3,h4,h5,hn⟩:=h
 have hk2:SK (x.1.1,()):=hk
 repeat' (first|(refine T.call (jB (by assumption) (by omega) (by omega)) (λ_ ⟨_,_,_⟩=>?_))|(refine T.call (Bw (by assumption) (by omega) (by omega) (by omega)) (λ_ ⟨_,_,_⟩=>?_))|(refine T.call (a7o _ _ hk (by assumption) hn) (λ_ ⟨k0,k1,k2⟩=>?_))|(refine T.call (hs (_,_,_,_,_,()) ⟨j4,j3,by dsimp only;simp(disch:=omega) only[j0,dG];omega,by dsimp only;simp(disch:=omega) only[j0,dG];omega,by omega,by rw[j6];exact hn⟩) (λ_ ⟨k0,k1,k2⟩=>?_))|(refine T.call (hs (_,_,_,_,_,()) ⟨hk,by assumption,by dsimp only;simp(disch:=omega) only[dG];omega,by dsimp only;simp(disch:=omega) only[dG];omega,by omega,hn⟩) (λ_ ⟨k0,k1,k2⟩=>?_))|(refine T.loop (λs=>s.1=x.2.1/\0<=s.2.1/\(List.length (α:=DS0) s.2.2.2.2.2.2.2.2.2.2.2.2.2.2.1:Int)+s.2.1<=3/\dA s.2.2.1 s.2.2.2.1/\SK (s.2.2.2.2.2.1,())/\(∀q∈s.2.2.2.2.2.2.2.2.2.2.2.2.2.2.1,WP (x.2.1-2).toNat q)/\s.2.2.2.2.1=x.2.2.2.2.1/\7<=s.2.2.2.2.2.2.2.2.2.2.1) (λs=>(s.2.1).toNat) ?_ (λs ⟨j0,j1,j2,j3,j4,j5,j6,j7⟩=>?_))|(refine T.grd ?_ ?_)|(refine T.cnd (λhc=>?_) (λhc=>?_)<;>try simp only[bsX,eq_self]at hc)|(refine T.kW ?_)|(refine T.go ?_ ?_)|(refine T.out ?_)|(refine T.jgo ?_)|(refine T.pV ?_)|(refine T.sZ ?_)|(refine T.ret ?_))
 all_goals(try dsimp only[LQ,JQ])
 all_goals(repeat' (with_reducible refine And.intro ?_ ?_))<;>first|trivial|assumption|omega|(first|(simp(disch:=omega) only[bsX,eq_self,arX];omega)|(simp(disch:=omega) only[bsX,eq_self,arX];done))|exact k0.to (by omega)|exact WP.to (k:=0) (WP.leaf (Lf.k (by decide))) (by omega)|exact λ_ hq=>absurd hq bJ|exact hs2|(have e:(x.2.1-1).toNat=(dQ .i64 x.2.1 1-1).toNat+1:=(by rw[dG (by omega) (by omega)];omega);rw[e];exact WP.mk (by omega) (.inl (by simp)) (by simp) (by simp) (λq hq=>by rw[aV.1 hq];exact k0))|(rw[show(x.2.1-1).toNat=(x.2.1-2).toNat+1 by omega];exact WP.mk (by omega) (.inr j7) (by simp) (by omega) j5)|(refine kL j5 ?_;have e:(x.2.1-2).toNat=(dQ .i64 s.1 1-1).toNat:=(by rw[j0,dG (by omega) (by omega)];omega);rw[e];exact k0)|exact dx.mpr ⟨ED (by assumption),rfl⟩|exact k2.trans j6|exact k2|(rw[k2];assumption)|(rw[k2];exact hn)
theorem a3c{n:Nat}{x:DS6×Int×List Int×Int×Unit}(h:SK x.1/\dA x.2.2.1 x.2.2.2.1/\x.2.1<=2/\x.2.1+1<=n/\1<=n):T (eH (λself (x:DS6×Int×List Int×Int×Unit)=>MH self x.1 x.2.1 x.2.2.1 x.2.2.2.1) n x) (λy:List AV×List Int×Int×Unit=>BP x.2.1 y.1/\dA y.2.1 y.2.2.1):=by
 refine T.iter (λn (x:DS6×Int×List Int×Int×Unit)=>SK x.1/\dA x.2.2.1 x.2.2.2.1/\x.2.1<=2/\x.2.1+1<=n/\1<=n) (λ_ x (y:List AV×List Int×Int×Unit)=>BP x.2.1 y.1/\dA y.2.1 y.2.2.1) (λn x h self hs=>?_) (λx h=>by have:=h.2.2.2.2;omega) n x h
 unfold MH
 obtain⟨hk,hd,h3,h4,h5⟩:=h
 have hk2:SK (x.1.1,()):=hk
 repeat' (first|(refine T.call (jB (by assumption) (by omega) (by omega)) (λ_ ⟨_,y0,y1⟩=>?_))|(refine T.call (RX (n:=10000) (x:=(_,_,_,_,())) ⟨j4,by assumption,by dsimp only;omega,by dsimp only;omega,by omega⟩) (λ_ ⟨k0,k1⟩=>?_))|(refine T.call (hs (_,_,_,_,()) ⟨j4,by assumption,by dsimp only;simp(disch:=omega) only[j0,dG];omega,by dsimp only;simp(disch:=omega) only[j0,dG];omega,by omega⟩) (λ_ ⟨m0,m1⟩=>?_))|(refine T.loop (λs=>s.1=x.2.1/\0<=s.2.1/\(List.length (α:=DS7) s.2.2.2.2.2.1:Int)+s.2.1<=2/\dA s.2.2.1 s.2.2.2.1/\SK (s.2.2.2.2.1,())/\(∀q∈s.2.2.2.2.2.1,BQ x.2.1 q)) (λs=>(s.2.1).toNat) ?_ (λs ⟨j0,j1,j2,j3,j4,j5⟩=>?_))|(refine T.grd ?_ ?_)|(refine T.cnd (λhc=>?_) (λhc=>?_)<;>try simp only[bsX,eq_self]at hc)|(refine T.kW ?_)|(refine T.go ?_ ?_)|(refine T.out ?_)|(refine T.jgo ?_)|(refine T.pV ?_)|(refine T.sZ ?_)|(refine T.ret ?_))
 all_goals(try dsimp only[LQ,JQ])
 all_goals(repeat' (with_reducible refine And.intro ?_ ?_))<;>first|trivial|assumption|omega|(first|(simp(disch:=omega) only[bsX,eq_self,arX];omega)|(simp(disch:=omega) only[bsX,eq_self,arX];done))|exact λ_ hq=>absurd hq bJ|exact BP.mk (by omega) j5|exact dx.mpr ⟨ED (by assumption),rfl⟩|exact kL j5 (BQ.mk (wxy _) (WE.to (k:=2) k0.1.1 (by omega)) k0.1.2 (by omega) (by rw[j0,dG (by omega) (by omega)]) m0)
theorem a3b{n:Nat}{x:DS6×Int×List Int×Int×List ByteArray×Unit}(h:SK x.1/\dA x.2.2.1 x.2.2.2.1/\x.2.1<=2/\x.2.1+1<=n/\1<=n/\NM x.2.2.2.2.1):T (eH (λself (x:DS6×Int×List Int×Int×List ByteArray×Unit)=>Fg self x.1 x.2.1 x.2.2.1 x.2.2.2.1 x.2.2.2.2.1) n x) (λy:List AV×List Int×Int×List ByteArray×Unit=>BP x.2.1 y.1/\dA y.2.1 y.2.2.1/\y.2.2.2.1=x.2.2.2.2.1):=by
 refine T.iter (λn (x:DS6×Int×List Int×Int×List ByteArray×Unit)=>SK x.1/\dA x.2.2.1 x.2.2.2.1/\x.2.1<=2/\x.2.1+1<=n/\1<=n/\NM x.2.2.2.2.1) (λ_ x (y:List AV×List Int×Int×List ByteArray×Unit)=>BP x.2.1 y.1/\dA y.2.1 y.2.2.1/\y.2.2.2.1=x.2.2.2.2.1) (λn x h self hs=>?_) (λx h=>by have:=h.2.2.2.2.1;omega) n x h
 unfold Fg
 obtain⟨hk,hd,h3,h4,h5,hn⟩:=h
 have hk2:SK (x.1.1,()):=hk
 repeat' (first|(refine T.call (jB (by assumption) (by omega) (by omega)) (λ_ ⟨_,y0,y1⟩=>?_))|(refine T.call (RU (n:=10000) (x:=(_,_,_,_,_,())) ⟨j4,by assumption,by dsimp only;omega,by dsimp only;omega,by omega,by rw[j6];exact hn⟩) (λ_ ⟨k0,k1,k2⟩=>?_))|(refine T.call (hs (_,_,_,_,_,()) ⟨j4,by assumption,by dsimp only;simp(disch:=omega) only[j0,dG];omega,by dsimp only;simp(disch:=omega) only[j0,dG];omega,by omega,by first|exact hn|(rw[j6];exact hn)|(rw[k2,j6];exact hn)|(dsimp only at k2 ⊢;rw[k2,j6];exact hn)⟩) (λ_ ⟨m0,m1,m2⟩=>?_))|(refine T.loop (λs=>s.1=x.2.1/\0<=s.2.1/\(List.length (α:=DS7) s.2.2.2.2.2.2.1:Int)+s.2.1<=2/\dA s.2.2.1 s.2.2.2.1/\SK (s.2.2.2.2.2.1,())/\(∀q∈s.2.2.2.2.2.2.1,BQ x.2.1 q)/\s.2.2.2.2.1=x.2.2.2.2.1) (λs=>(s.2.1).toNat) ?_ (λs ⟨j0,j1,j2,j3,j4,j5,j6⟩=>?_))|(refine T.grd ?_ ?_)|(refine T.cnd (λhc=>?_) (λhc=>?_)<;>try simp only[bsX,eq_self]at hc)|(refine T.kW ?_)|(refine T.go ?_ ?_)|(refine T.out ?_)|(refine T.jgo ?_)|(refine T.pV ?_)|(refine T.sZ ?_)|(refine T.ret ?_))
 all_goals(try dsimp only[LQ,JQ])
 all_goals(repeat' (with_reducible refine And.intro ?_ ?_))<;>first|trivial|assumption|omega|(first|(simp(disch:=omega) only[bsX,eq_self,arX];omega)|(simp(disch:=omega) only[bsX,eq_self,arX];done))|exact λ_ hq=>absurd hq bJ|exact BP.mk (by omega) j5|exact dx.mpr ⟨ED (by assumption),rfl⟩|exact kL j5 (BQ.mk (wxy _) (WE.to (k:=2) k0.1 (by omega)) k0.2 (by omega) (by rw[j0,dG (by omega) (by omega)]) m0)|exact m2.trans (k2.trans j6)|exact j6|exact dx.mpr ⟨ED m2,rfl⟩|exact dx.mpr ⟨ED k2,rfl⟩
theorem b6y{L:List Int}{a:Int}(s:DS6)(hs:SK s)(h:dA L a):T (Pk s 3 L a) (λy=>(WE 10 y.1/\je y.1=true/\PX 2 y.1)/\dA y.2.1 y.2.2.1) :=
 (RX (n:=10000) (x:=(s,3,L,a,())) ⟨hs,h,by dsimp only;omega,by dsimp only;omega,by omega⟩).mono λy q=>⟨⟨q.1.1.1.to (by dsimp only;omega),q.1.ee.s (by dsimp only;omega),q.1.1.2⟩,q.2⟩
theorem b6x{L:List Int}{a:Int}(s:DS6)(l:List ByteArray)(hs:SK s)(h:dA L a)(hn:NM l):T (Ej s 3 L a l) (λy=>(WE 10 y.1/\PX 2 y.1)/\dA y.2.1 y.2.2.1/\y.2.2.2.1=l) :=
 (RU (n:=10000) (x:=(s,3,L,a,l,())) ⟨hs,h,by dsimp only;omega,by dsimp only;omega,by omega,hn⟩).mono λy q=>⟨⟨q.1.1.to (by dsimp only;omega),q.1.2⟩,q.2⟩
theorem b6O{L:List Int}{a:Int}(s:DS6)(hs:SK s)(h:dA L a):T (UG s 2 L a) (λy=>(WB 10 y.1/\PB 2 y.1)/\dA y.2.1 y.2.2.1) :=
 (a3c (n:=10000) (x:=(s,2,L,a,())) ⟨hs,h,by dsimp only;omega,by dsimp only;omega,by omega⟩).mono λy q=>⟨⟨q.1.1.to (by dsimp only;omega),q.1.2⟩,q.2⟩
theorem b6N{L:List Int}{a:Int}(s:DS6)(l:List ByteArray)(hs:SK s)(h:dA L a)(hn:NM l):T (IL s 2 L a l) (λy=>(WB 10 y.1/\PB 2 y.1)/\dA y.2.1 y.2.2.1/\y.2.2.2.1=l) :=
 (a3b (n:=10000) (x:=(s,2,L,a,l,())) ⟨hs,h,by dsimp only;omega,by dsimp only;omega,by omega,hn⟩).mono λy q=>⟨⟨q.1.1.to (by dsimp only;omega),q.1.2⟩,q.2⟩
attribute [local irreducible] Pk Ej UG IL
theorem Zl{L:List Int}{a:Int}(s:DS6)(k:Int)(p:ByteArray)(hp:p.size<=7)(hs:SK s)(h:dA L a):T (m85 s k p L a) (λy=>(WC y.1/\PCl y.1)/\dA y.2.1 y.2.2.1/\y.1.1=k/\y.1.2.1=p/\je y.1.2.2.1=true/\(k=2->y.1.2.2.2.1=[]/\y.1.2.2.2.2.1=0)):=by
 unfold m85
 obtain⟨s5,⟨⟩⟩:=s
 have hm0:=Fb k
 have hm1:=RB k
 have up:∀{L:List Int} {a:Int},dA L a->iLt 0 (eU k)=true->T (Ei (dQ .i64 (eU k) 1) L a) (λy=>dA y.2.1 y.2.2.1/\0<=y.1/\y.1<=dQ .i64 (eU k) 1):=λhd hm=>by
  rw[bS]at hm
  exact Wq hd (by rw[dG (by omega) (by omega)];omega) (by rw[dG (by omega) (by omega)];omega)
 refine T.call (b6y (s5,()) hs h) (λu ⟨⟨k0,ks,kx⟩,k1⟩=>T.cnd (λhc=>?_) (λhc=>?_))<;>simp only[bsX,eq_self]at hc
 .exact T.call (b6O _ hs k1) (λv ⟨⟨m0,mx⟩,m1⟩=>T.aN (Ed k) (T.cnd (λhm=>T.call (up m1 hm) (λw ⟨w0,_,_⟩=>T.ret ⟨⟨⟨k0,m0⟩,hp,kx,mx,.inl hc⟩,w0,rfl,rfl,ks,λq=>absurd hc (by omega)⟩)) (λ_=>T.ret ⟨⟨⟨k0,m0⟩,hp,kx,mx,.inl hc⟩,m1,rfl,rfl,ks,λq=>absurd hc (by omega)⟩)))
 .have wn:WB 10 ([]:List AV):=WB.to (k:=1) (WB.mk (l:=[]) (by simp) (λ_ hq=>absurd hq bJ)) (by omega)
  exact T.aN (Ed k) (T.cnd (λhm=>T.call (up k1 hm) (λw ⟨w0,_,_⟩=>T.ret ⟨⟨⟨k0,wn⟩,hp,kx,PB.nil 2,.inr rfl⟩,w0,rfl,rfl,ks,λq=>by subst q;exact absurd hm (by decide)⟩)) (λ_=>T.ret ⟨⟨⟨k0,wn⟩,hp,kx,PB.nil 2,.inr rfl⟩,k1,rfl,rfl,ks,λ_=>⟨rfl,rfl⟩⟩))
theorem Zk{L:List Int}{a:Int}(s:DS6)(k:Int)(p:ByteArray)(l:List ByteArray)(hn:NM l)(hp:p.size<=7)(hs:SK s)(h:dA L a):T (IJ s k p L a l) (λy=>(WC y.1/\PCl y.1)/\dA y.2.1 y.2.2.1/\y.2.2.2.1=l):=by
 unfold IJ
 repeat' (first|(refine T.call (b6x _ _ hs h hn) (λu ⟨⟨k0,kx⟩,k1,k2⟩=>?_))|(refine T.call (b6N _ _ hs k1 (by rw[k2];exact hn)) (λv ⟨⟨m0,mx⟩,m1,m2⟩=>?_))|(refine T.call (Wq (by assumption) (by simp(disch:=omega) only[dG];omega) (by simp(disch:=omega) only[dG];omega)) (λ_ ⟨_,_,_⟩=>?_))|(refine T.call (b1G _) (λ_ ⟨_,_⟩=>?_))|(refine T.grd ?_ ?_)|(refine T.cnd (λhc=>?_) (λhc=>?_)<;>try simp only[bsX,eq_self]at hc)|(refine T.kW ?_)|(refine T.go ?_ ?_)|(refine T.out ?_)|(refine T.jgo ?_)|(refine T.pV ?_)|(refine T.sZ ?_)|(refine T.ret ?_))
 all_goals(try dsimp only[LQ,JQ])
 all_goals(repeat' (with_reducible refine And.intro ?_ ?_))<;>first|trivial|assumption|omega|exact⟨k0,m0⟩|exact⟨k0,WB.to (k:=1) (WB.mk (l:=[]) (by simp) (λ_ hq=>absurd hq bJ)) (by omega)⟩|exact⟨hp,kx,mx,.inl (by assumption)⟩|exact⟨hp,kx,PB.nil 2,.inr rfl⟩|exact m2.trans k2|exact k2|exact dx.mpr ⟨ED m2,rfl⟩|exact dx.mpr ⟨ED k2,rfl⟩|(first|(simp(disch:=omega) only[bsX,eq_self,arX];omega)|(simp(disch:=omega) only[bsX,eq_self,arX];done))
end
section
theorem GY(l:List Int):(bsI l).size=l.length:=by simp[bsI,ByteArray.size]
theorem Ai(a b:ByteArray):(iJ a b).size=a.size+b.size:=by simp[iJ]
theorem Gh{a b:ByteArray}(ha:a.size<=2000)(hb:b.size<=2000):nu a b=true:=by unfold nu;exact bW (by omega)
theorem La(p:ByteArray)(k:Int)(h:p.size<=1000):T (m86 p k) (λy=>y.1.size=p.size+2):=by
 unfold m86
 exact T.grd rfl (T.grd rfl (T.grd rfl (T.grd (Gh (by omega) (by rw[GY];simp)) (T.ret (by dsimp only;rw[Ai,GY];rfl)))))
attribute [local irreducible] m89 m50 m85 IJ
theorem VL.all{l:List DS1}(h:VL l):∀c∈l,gK c=true:=λc hc=>by
 obtain⟨k,h0,h1,rfl⟩:=EF (z:=zS1) hc
 exact(h k h0 h1).1
theorem VL.one{c:DS1}(h:gK c=true):VL [c]:=λk h0 h1=>by
 obtain rfl:k=0:=by simp at h1;omega
 exact⟨h,λj j0 j1=>by omega⟩
theorem Sm{c:DS1}(h1:c.1=2)(h2:dR c.2.1=true)(h3:je c.2.2.1=true)(h4:c.2.2.2.1=[]/\c.2.2.2.2.1=0):gK c=true:=by
 unfold gK
 rw[h1,h2,h3,h4.1,h4.2];rfl
theorem a6O:je (1,bs [],([]:List ByteArray),0,0,([]:List AV),())=true:=(show EE 1 _ from EE.leaf (by show(_:Bool)=true;kernel_rfl) rfl (by simp)).s (by omega)
def KL(l:List DS1):Prop:=(∀c∈l,WC c/\PCl c)/\(atI l 0 zS1).1=2
theorem KL.snoc{l:List DS1}(h:KL l)(h1:1<=l.length){c:DS1}(hc:WC c/\PCl c):KL (l++[c]):=by
 refine⟨kL h.1 hc,?_⟩
 match l,h1,h with
 |_::_,_,h=>exact h.2
theorem FU{L:List Int}{a:Int}(s:DS6)(n:Int)(p:ByteArray)(hs:SK s)(h:dA L a)(n0:0<=n)(n1:n<=6)(hp:p.size<=5)(hq:(m86 p 0).elim false (λy=>dR y.1)=true):T (m48 s n p L a) (λy=>dA y.1 y.2.1/\CW 7 y.2.2.1/\1<=List.length y.2.2.1/\VL y.2.2.1/\KL y.2.2.1/\(List.length y.2.2.1:Int)<=n+1):=by
 unfold m48
 obtain⟨u,hu,hsz⟩:=La p 0 (by omega)
 rw[hu]at hq
 have hq:dR u.1=true:=hq
 refine T.aN hu (T.call (Zl _ _ _ (by rw[hsz];omega) hs h) (λv ⟨v0,v1,w1,w2,w3,w4⟩=>?_))
 have w4:=w4 rfl
 refine T.join (λj=>n=j.1/\p=j.2.1/\dA j.2.2.1 j.2.2.2.1/\SK (j.2.2.2.2.1,())/\List.length j.2.2.2.2.2.1=1/\KL j.2.2.2.2.2.1/\VL j.2.2.2.2.2.1) ?_ (λj hj=>?_)
 .refine T.call (jB v1 (by omega) (by omega)) (λw ⟨w0,_,_⟩=>T.cnd (λ_=>T.grd rfl (T.grd rfl (T.jgo ⟨rfl,rfl,w0,hs,rfl,⟨λc hc=>?_,w1⟩,?_⟩))) (λ_=>T.jgo ⟨rfl,rfl,w0,hs,rfl,⟨λc hc=>?_,w1⟩,VL.one (Sm w1 (by rw[w2];exact hq) w3 w4)⟩))
  .rw[aV.1 hc];exact⟨⟨WE.to (k:=1) (WE.leaf (by simp)) (by omega),v0.1.2⟩,v0.2.1,.inl (Lf.k (by decide)),v0.2.2.2⟩
  .exact VL.one (c:=(v.1.1,v.1.2.1,(1,bs [],([]:List ByteArray),0,0,([]:List AV),()),v.1.2.2.2.1,v.1.2.2.2.2.1,())) (Sm w1 (show dR v.1.2.1=true by rw[w2];exact hq) a6O w4)
  .rw[aV.1 hc];exact v0
 obtain⟨_,_,L,a,s5,l,⟨⟩⟩:=j
 obtain⟨rfl,rfl,hd,hk,hl,hw,hv⟩:=hj
 dsimp only at hd hk hl hw hv ⊢
 refine T.loop (λs=>n=s.1/\p=s.2.1/\(1<=s.2.2.1/\s.2.2.1<=n+1)/\dA s.2.2.2.1 s.2.2.2.2.1/\s5=s.2.2.2.2.2.1/\(List.length (α:=ByteArray) s.2.2.2.2.2.2.1:Int)<=s.2.2.1/\(1<=List.length (α:=DS1) s.2.2.2.2.2.2.2.1/\(List.length (α:=DS1) s.2.2.2.2.2.2.2.1:Int)<=s.2.2.1)/\KL s.2.2.2.2.2.2.2.1/\(∀w∈(show List ByteArray from s.2.2.2.2.2.2.1),w.size<=7)/\VL s.2.2.2.2.2.2.2.1) (λs=>(n+1-s.2.2.1).toNat) ⟨rfl,rfl,⟨by simp,by dsimp only;omega⟩,hd,rfl,by simp,⟨by dsimp only;omega,by dsimp only;omega⟩,hw,λw hw=>absurd hw bJ,hv⟩ ?_
 clear hv hw hl hd
 rintro⟨_,_,k,L,a,_,nm,l,⟨⟩⟩ ⟨rfl,rfl,⟨k0,k1⟩,hd,rfl,hn,⟨l0,l1⟩,hw,hnm,hv⟩
 dsimp only at k0 k1 hd hn l0 l1 hw hnm hv ⊢
 refine T.cnd (λhc=>?_) (λhc=>T.out ⟨hd,⟨by dsimp only;omega,λc hc=>(hw.1 c hc).1⟩,l0,hv,hw,by dsimp only;omega⟩)
 simp only[bsX,eq_self]at hc
 refine T.aN (show m87 _ _=some _ from rfl) (T.cnd (λ_=>?_) (λ_=>T.out ⟨hd,⟨by dsimp only;omega,λc hc=>(hw.1 c hc).1⟩,l0,hv,hw,by dsimp only;omega⟩))
 refine T.call (Bw hd (by omega) (by omega) (by omega)) (λx ⟨x0,_,_⟩=>T.call (La _ _ (by omega)) (λy hy=>T.call (Zk _ _ _ _ ⟨by omega,hnm⟩ (by rw[hy];omega) hk x0) (λz ⟨z0,z1,z2⟩=>?_)))
 have hcb:CB (([]++l)++[z.1]):=⟨by simp;omega,kL (λc hc=>(hw.1 c hc).1) z0.1⟩
 have hz:(List.length (α:=ByteArray) z.2.2.2.1:Int)<=k:=by rw[z2];exact hn
 refine T.grd (dx.mpr ⟨ED z2,rfl⟩) (T.grd (by rw[jD];simp;omega) (T.grd (by rw[jD];simp;omega) (T.call (Ls _ _ hk.sb hcb) (λe he=>T.cnd (λ_=>T.go ⟨rfl,rfl,⟨?_,?_⟩,z1,rfl,?_,⟨l0,?_⟩,hw,(by dsimp only;rw[z2];exact hnm),hv⟩ ?_) (λhne=>T.cnd (λ_=>T.grd (by rw[jD];simp;omega) (T.go ⟨rfl,rfl,⟨?_,?_⟩,z1,rfl,?_,⟨?_,?_⟩,hw.snoc l0 z0,kL (by rw[z2];exact hnm) z0.2.1,he (uh.mp hne)⟩ ?_)) (λ_=>T.go ⟨rfl,rfl,⟨?_,?_⟩,z1,rfl,?_,⟨?_,?_⟩,hw.snoc l0 z0,(by dsimp only;rw[z2];exact hnm),he (uh.mp hne)⟩ ?_))))))
 all_goals dsimp only
 all_goals(try rw[bf (by omega) (by omega)])
 all_goals(try simp only[ak,aL,dS])
 all_goals omega
end
section
attribute [local irreducible] m48 m50
theorem Zb{f t:Int}{rm:List ByteArray}{xc:List DS1}(h1:yL (f,t,())=true)(h2:rm.length<=40)(h3:∀w∈rm,dR w=true)(h4:rm.Nodup)(h5:xc.length<=40)(h6:∀c∈xc,gK c=true):oQ ((f,t,()),rm,xc,())=true:=by
 unfold oQ lX
 dsimp only
 rw[h1,bW h2,aD.2 h3,D6.mpr h4,bW h5,aD.2 h6];rfl
def RM(cl:List DS1)(i:Int)(rm:List ByteArray):Prop:=rm.Nodup/\∀w∈rm,∃j,0<=j/\j<i/\w=(atI cl j zS1).2.1
theorem RM.up{cl:List DS1}{i:Int}{rm:List ByteArray}(h:RM cl i rm):RM cl (i+1) rm:=⟨h.1,λw hw=>by
 obtain⟨j,j0,j1,e⟩:=h.2 w hw
 exact⟨j,j0,by omega,e⟩⟩
theorem RM.add{cl:List DS1}{i:Int}{rm:List ByteArray}(h:RM cl i rm)(hv:VL cl)(h0:0<=i)(h1:i<(cl.length:Int)):RM cl (i+1) (rm++[(atI cl i zS1).2.1]):=by
 refine⟨?_,kL h.up.2 ⟨i,h0,by omega,rfl⟩⟩
 refine dN.2 ⟨h.1,by simp,λw hw v hv2 e=>?_⟩
 rw[aV]at hv2
 obtain⟨j,j0,j1,e2⟩:=h.2 w hw
 exact(hv i h0 h1).2 j j0 j1 (by rw[<- e2,e,hv2])
theorem Zj{c:DS1}(h:gK c=true):dR c.2.1=true:=(dx.mp (dx.mp h).2).1
theorem RM.nm{cl:List DS1}{i:Int}{rm:List ByteArray}(h:RM cl i rm)(hv:VL cl)(h1:i<=(cl.length:Int)):∀w∈rm,dR w=true:=λw hw=>by
 obtain⟨j,j0,j1,rfl⟩:=h.2 w hw
 exact Zj (hv j j0 (by omega)).1
def KE(x:DS3):Prop:=KL x.2.2.1/\List.length (α:=DS1) x.2.2.1<=3/\List.length (α:=ByteArray) x.2.1<=7/\∀w∈(show List ByteArray from x.2.1),w.size<=7
theorem RM.sz{cl:List DS1}{i:Int}{rm:List ByteArray}(h:RM cl i rm)(hk:KL cl)(h1:i<=(cl.length:Int)):∀w∈rm,w.size<=7:=λw hw=>by
 obtain⟨j,j0,j1,rfl⟩:=h.2 w hw
 exact(hk.1 _ (at_mem _ j0 (by omega))).2.1
theorem QS{L:List Int}{a:Int}(s:DS6)(b:Bool)(hs:SK s)(h:dA L a):T (m22 s 6 b L a) (λy=>(CW 7 y.2.2.1/\1<=List.length y.2.2.1/\VL y.2.2.1/\KL y.2.2.1)/\List.length (α:=DS3) y.2.2.2.1<=2/\∀x∈y.2.2.2.1,EW x/\oQ x=true/\KE x):=by
 unfold m22
 refine T.call (FU _ _ _ hs h (by omega) (by omega) (by decide) (by kernel_rfl)) (λu ⟨u0,u1,u2,u3,u4,_⟩=>T.call (jB u0 (by omega) (by omega)) (λv ⟨v0,v1,v2⟩=>?_))
 obtain⟨s5,⟨⟩⟩:=s
 refine T.loop (λs=>(0<=s.2.1/\s.2.1<=2)/\dA s.2.2.1 s.2.2.2.1/\s5=s.2.2.2.2.1/\CW 7 s.2.2.2.2.2.1/\(1<=List.length (α:=DS1) s.2.2.2.2.2.1/\VL s.2.2.2.2.2.1/\KL s.2.2.2.2.2.1)/\(List.length (α:=DS3) s.2.2.2.2.2.2.1:Int)+s.2.1<=2/\∀x∈s.2.2.2.2.2.2.1,EW x/\oQ x=true/\KE x) (λs=>s.2.1.toNat) ⟨⟨v1,by dsimp only;omega⟩,v0,rfl,u1,⟨u2,u3,u4⟩,by simp;omega,λx hx=>absurd hx bJ⟩ ?_
 rintro⟨b,k,L,a,_,cl,en,⟨⟩⟩ ⟨⟨k0,k1⟩,hd,rfl,hc,⟨hl,hv,hk⟩,he,hw⟩
 dsimp only at k0 k1 hd hc hl hv hk he hw ⊢
 refine T.cnd (λhg=>?_) (λ_=>T.out ⟨⟨hc,hl,hv,hk⟩,by dsimp only;omega,hw⟩)
 simp only[bsX,eq_self]at hg
 refine T.call (a1B hd) (λp ⟨hp,hp0⟩=>T.cnd (λ_=>T.go ⟨⟨?_,?_⟩,hp,rfl,hc,⟨hl,hv,hk⟩,?_,hw⟩ ?_) (λhf=>?_))
 .dsimp only;rw[dG (by omega) (by omega)];omega
 .dsimp only;rw[dG (by omega) (by omega)];omega
 .dsimp only;rw[dG (by omega) (by omega)];omega
 .dsimp only;rw[dG (by omega) (by omega)];omega
 have c0q:yL (p.1,jv p.2.1 876599,())=true:=by
  simp only[bsX,eq_self]at hf
  unfold jv at *
  unfold yL
  dsimp only
  rw[eG.mpr hp0,bS.mpr hf,eG.mpr (show min p.2.1 876599<=876600 by omega),eG.mpr (show min p.2.1 876599<=876599 by omega)];rfl
 have hq2:(m86 (iJ (iJ (bs [101]) (bsI ([IntKind.wrap .u8 (aR .i64 48 k)]:List Int))) (bs [45])) 0).elim false (λy=>dR y.1)=true:=by
  have:k=1\/k=2:=by omega
  rcases this with rfl|rfl<;>(show((_:Bool)=true))<;>kernel_rfl
 have h1:∀z:Int,(bsI [z]).size=1:=λz=>GY [z]
 have h2:ByteArray.size (bs [101])=1:=rfl
 have h3:ByteArray.size (bs [45])=1:=rfl
 refine T.grd (Gh (by omega) (by rw[h1];omega)) (T.grd (Gh (by rw[Ai,h1];omega) (by omega)) ?_)
 refine T.call (FU _ _ _ hs hp (by omega) (by omega) (by rw[Ai,Ai,h1];omega) hq2) (λu ⟨u0,u1,u2,u3,u4,u5⟩=>?_)
 refine T.loop (λq=>k=q.2.1/\0<=q.2.2.1/\dA q.2.2.2.1 q.2.2.2.2.1/\s5=q.2.2.2.2.2.1/\cl=q.2.2.2.2.2.2.2.2.1/\en=q.2.2.2.2.2.2.2.2.2.1/\(List.length (α:=ByteArray) q.2.2.2.2.2.2.2.2.2.2.1:Int)<=q.2.2.1/\(q.2.2.1<=7/\q.2.2.1<=(List.length cl:Int))/\CW 7 q.2.2.2.2.2.2.2.2.2.2.2.1/\((∀c∈q.2.2.2.2.2.2.2.2.2.2.2.1,gK c=true)/\KL q.2.2.2.2.2.2.2.2.2.2.2.1/\(List.length (α:=DS1) q.2.2.2.2.2.2.2.2.2.2.2.1:Int)<=3)/\RM cl q.2.2.1 q.2.2.2.2.2.2.2.2.2.2.1/\yL (q.2.2.2.2.2.2.1,q.2.2.2.2.2.2.2.1,())=true) (λq=>((List.length cl:Int)-q.2.2.1).toNat) ⟨rfl,by simp,u0,rfl,rfl,rfl,by simp,⟨by simp,by dsimp only;omega⟩,u1,⟨u3.all,u4,by dsimp only;omega⟩,⟨uq,λw hw=>absurd hw bJ⟩,c0q⟩ ?_
 have hc7:=hc.1
 rintro⟨b,_,i,L,a,_,f,t,_,_,rm,xc,⟨⟩⟩ ⟨rfl,i0,hd,rfl,rfl,rfl,i1,⟨i2,i3⟩,hx,⟨hy,hy2,hy3⟩,hr,hp2⟩
 dsimp only at i0 hd i1 i2 i3 hx hy hy2 hy3 hr hp2 ⊢
 refine T.cnd (λhi=>?_) (λhi=>?_)<;>simp only[bsX,eq_self]at hi
 .have hn:i.toNat<cl.length:=by omega
  have ea:aR .i64 i 1=i+1:=bf (by omega) (by omega)
  refine T.call (jB hd (by omega) (by omega)) (λv ⟨v0,_,_⟩=>T.cnd (λ_=>T.grd (by rw[bT,aW];omega) (T.grd (by rw[y8];exact hn) (T.grd (by rw[jD];simp;omega) (T.go ⟨rfl,?_,v0,rfl,rfl,rfl,?_,⟨?_,?_⟩,hx,⟨hy,hy2,hy3⟩,ea.symm▸hr.add hv i0 hi,hp2⟩ ?_)))) (λ_=>T.go ⟨rfl,?_,v0,rfl,rfl,rfl,?_,⟨?_,?_⟩,hx,⟨hy,hy2,hy3⟩,ea.symm▸hr.up,hp2⟩ ?_))
  all_goals dsimp only
  all_goals rw[bf (by omega) (by omega)]
  all_goals(try simp only[ak,aL,dS])
  all_goals omega
 refine T.map (T.call (jB hd (by omega) (by omega)) (λv ⟨v0,_,_⟩=>?_))
 refine T.cnd (λ_=>T.grd (by rw[bT,aW];omega) (T.grd (by rw[y8];simp;omega) (T.grd (by rw[jD];simp) (T.join (λj=>k=j.2.1/\dA j.2.2.1 j.2.2.2.1/\s5=j.2.2.2.2.1/\oQ ((j.2.2.2.2.2.1,j.2.2.2.2.2.2.1,()),j.2.2.2.2.2.2.2.1,j.2.2.2.2.2.2.2.2.1,())=true/\List.length (α:=ByteArray) j.2.2.2.2.2.2.2.1<=1000/\CW 7 j.2.2.2.2.2.2.2.2.1/\cl=j.2.2.2.2.2.2.2.2.2.1/\en=j.2.2.2.2.2.2.2.2.2.2.1/\KE ((j.2.2.2.2.2.1,j.2.2.2.2.2.2.1,()),j.2.2.2.2.2.2.2.1,j.2.2.2.2.2.2.2.2.1,())) (T.jgo ⟨rfl,v0,rfl,Zb hp2 (by dsimp only;omega) (hr.nm hv (by omega)) hr.1 (by simp) (kL (λx hx=>absurd hx bJ) (hv 0 (by omega) (by omega)).1),?_,⟨by simp,?_⟩,rfl,rfl,⟨⟨kL (λx hx=>absurd hx bJ) (hk.1 _ (at_mem _ (by omega) (by omega))),hk.2⟩,by simp,by dsimp only;omega,hr.sz hk (by omega)⟩⟩) ?_)))) (λ_=>T.join (λj=>k=j.2.1/\dA j.2.2.1 j.2.2.2.1/\s5=j.2.2.2.2.1/\oQ ((j.2.2.2.2.2.1,j.2.2.2.2.2.2.1,()),j.2.2.2.2.2.2.2.1,j.2.2.2.2.2.2.2.2.1,())=true/\List.length (α:=ByteArray) j.2.2.2.2.2.2.2.1<=1000/\CW 7 j.2.2.2.2.2.2.2.2.1/\cl=j.2.2.2.2.2.2.2.2.2.1/\en=j.2.2.2.2.2.2.2.2.2.2.1/\KE ((j.2.2.2.2.2.1,j.2.2.2.2.2.2.1,()),j.2.2.2.2.2.2.2.1,j.2.2.2.2.2.2.2.2.1,())) (T.jgo ⟨rfl,v0,rfl,Zb hp2 (by dsimp only;omega) (hr.nm hv (by omega)) hr.1 (by have:=hx.1;dsimp only;omega) hy,?_,hx,rfl,rfl,⟨hy2,by dsimp only;omega,by dsimp only;omega,hr.sz hk (by omega)⟩⟩) ?_)
 .dsimp only;omega
 .exact kL (λx hx=>absurd hx bJ) (hc.2 _ (Qd _ (by simp;omega)))
 rotate_left
 .dsimp only;omega
 all_goals
  rintro⟨b,_,L,a,_,f,t,rm,xc,_,_,⟨⟩⟩ ⟨rfl,d,rfl,hz,r,x,rfl,rfl,hke⟩
  dsimp only at d hz r x hke ⊢
  have hE:∀e∈([]++en)++[((f,t,()),rm,xc,())],EW e/\oQ e=true/\KE e:=kL hw ⟨⟨r,by have:=x.1;dsimp only;omega,x.2⟩,hz,hke⟩
  refine T.grd (by rw[jD];simp;omega) (T.grd (by rw[jD];simp;omega) (T.call (a7a _ (cl,_,()) hs.sb ⟨⟨by dsimp only;omega,hc.2⟩,by simp;omega,λe he=>(hE e he).1⟩) (λ_ _=>T.cnd (λ_=>T.go ⟨⟨?_,?_⟩,d,rfl,hc,⟨hl,hv,hk⟩,?_,hE⟩ ?_) (λ_=>T.go ⟨⟨?_,?_⟩,d,rfl,hc,⟨hl,hv,hk⟩,?_,hw⟩ ?_))))
  all_goals dsimp only
  all_goals rw[dG (by omega) (by omega)]
  all_goals(try simp only[ak,aL,dS])
  all_goals omega
def KW(w:DS4):Prop:=KL w.1/\List.length (α:=DS1) w.1<=7/\List.length (α:=DS3) w.2.1<=2/\∀x∈(show List DS3 from w.2.1),KE x
theorem b1K(L:List Int)(h:L.length<=9223372036854775807):T (m10 L) (λy=>WW y.1/\1<=List.length (α:=DS1) y.1.1/\l8 y.1=true/\KW y.1):=by
 unfold m10
 have hd:dA L 0:=⟨h,mU _⟩
 refine T.aN (show m14 L=some _ from rfl) (T.call (jB hd (by omega) (by omega)) (λu ⟨u0,_,_⟩=>T.call (b1X _) (λs hs=>T.call (QS _ _ hs u0) (λy ⟨⟨h1,h2,h3,h6⟩,h4,h5⟩=>T.ret ⟨⟨⟨by have:=h1.1;dsimp only;omega,h1.2⟩,by dsimp only;omega,λx hx=>(h5 x hx).1⟩,h2,?_,h6,h1.1,h4,λx hx=>(h5 x hx).2.2⟩))))
 unfold l8 lX
 dsimp only
 rw[bW (by omega),bW (by have:=h1.1;omega),aD.2 h3.all,aD.2 λx hx=>(h5 x hx).2.1];rfl
end
theorem XX.leaf{a:Int}{b:ByteArray}:XX (a,b,([]:List ByteArray),0,0,([]:List AV),()):=⟨1,(WE.leaf (by simp)).x.1⟩
def Byt(bs:List Int):Prop:=∀x∈bs,0<=x/\x<=255
theorem iH(s:ByteArray):(aY s).length=s.size:=by simp[aY]
theorem b3m(s:ByteArray):Byt (aY s):=by
 intro x hx
 unfold aY at hx
 obtain⟨c,_,rfl⟩:=bX.1 hx
 have:=c.toNat_lt
 omega
theorem Zp(s:ByteArray)(k:Nat)(h:k<(aY s).length):(aY s)[k]=sAt s (k:Int):=by
 have hk:k<s.data.size:=by rw[iH]at h;exact h
 have hk':k<s.size:=hk
 simp only[aY,List.getElem_map,Array.getElem_toList]
 unfold sAt
 have e:s.data.getD (Int.toNat (k:Int)) 0=s.data[k]:=by simp[Array.getD,hk']
 rw[e]
theorem Db(s:ByteArray)(k:Nat):sAt s (k:Int)=(aY s).getD k 0:=by
 rcases bI k (aY s).length with h|h
 .rw[a2w _ h,Zp]
 .have hk:¬k<s.size:=by rw[iH]at h;exact Nat.not_lt.2 h
  unfold sAt
  simp[Array.getD,hk,List.getD,aX h]
theorem Qx{a b:ByteArray}(h:aY a=aY b):a=b:=by
 have key:∀(l m:List UInt8),(l.map λc=>(c.toNat:Int))=(m.map λc=>(c.toNat:Int))->l=m:=by
  intro l
  induction l with
  |nil=>intro m h;cases m with
   |nil=>rfl
   |cons=>cases h
  |cons x l ih =>
   intro m h
   cases m with
   |nil=>cases h
   |cons y m =>
    simp only[bg,Av]at h
    have:x=y:=UInt8.toNat_inj.1 (by omega)
    rw[this,ih m h.2]
 have:=key _ _ h
 cases a;cases b
 simp at this;rw[this]
theorem Jc{xs:List Int}(h:Byt xs):aY (bsI xs)=xs:=by
 unfold aY bsI
 simp only[fH]
 have:∀x∈xs,((λc:UInt8=>(c.toNat:Int)) ∘ λn:Int=>UInt8.ofNat n.toNat) x=x:=by
  intro x hx
  have:=h x hx
  simp only[Function.comp,yD]
  omega
 conv=>rhs;rw[<- List.map_id xs]
 exact oz λx hx=>by rw[this x hx];rfl
theorem EC(a b:ByteArray):aY (iJ a b)=aY a++aY b:=by
 unfold aY iJ
 rw[<- aU]
 congr 1
theorem Zq(l u:Nat)(s:ByteArray):aY (lu (l:Int) (u:Int) s)=((aY s).take u).drop l:=by
 unfold aY lu
 rw[<- yR,<- yS]
 congr 1
 show(s.extract l u).data.toList=_
 rw[ByteArray.data_extract,Array.toList_extract,List.drop_take]
theorem vG(a b:ByteArray):(iJ a b).size=a.size+b.size:=by unfold iJ;rw[ByteArray.size_append]
theorem vL{a b:ByteArray}(h:a.size+b.size<=9223372036854775807):nu a b=true:=by unfold nu;rw[eT];exact h
theorem JD{a b:Int}(h:0<=a):jC a b=a%b:=by unfold jC;rw[Int.tmod_eq_emod_of_nonneg h]
def jw(u:Nat):List Int:=(Lib.decDigits u).map λc=>(c.toNat:Int)
theorem qC{u:Nat}(h:u<10):jw u=[48+(u:Int)]:=by
 unfold jw;rw[Lib.decDigits,dif_pos h]
 show[((UInt8.ofNat (48+u)).toNat:Int)]=_
 have:(UInt8.ofNat (48+u)).toNat=48+u:=by simp[yD];omega
 rw[this];simp
theorem xP{u:Nat}(h:10<=u):jw u=jw (u/10)++[48+((u%10:Nat):Int)]:=by
 unfold jw;rw[Lib.decDigits,dif_neg (by omega),aU]
 congr 1
 show[((UInt8.ofNat (48+u%10)).toNat:Int)]=_
 have:(UInt8.ofNat (48+u%10)).toNat=48+u%10:=by simp[yD];omega
 rw[this];simp
theorem tC:∀(k u:Nat),u<10^k->(jw u).length<=max k 1
 |0,u,h=>by rw[qC (by simp at h;omega)];simp
 |k+1,u,h=>by
  by_cases q:u<10
  .rw[qC q,aJ];omega
  .have:=tC k (u/10) (by rw[Nat.pow_succ]at h;omega)
   rw[xP (by omega),ak,aJ]
   rcases k with _|k
   .simp at h;omega
   .omega
def dgs(x m:Nat):List Int:=if x=0 then List.replicate m 48 else List.replicate (m-(jw x).length) 48++jw x
theorem Qr{x m:Nat}(h:0<x\/0<m):dgs x m=dgs (x/10) (m-1)++[48+((x%10:Nat):Int)]:=by
 unfold dgs
 by_cases h0:x=0
 .subst h0
  obtain⟨m,rfl⟩:∃k,m=k+1:=⟨m-1,by omega⟩
  exact List.replicate_succ'
 by_cases h1:x<10
 .rw[if_neg h0,if_pos (by omega),qC h1,Nat.mod_eq_of_lt h1];rfl
 .rw[if_neg h0,if_neg (by omega),xP (by omega),ak,aJ,Nat.sub_add_eq,Nat.sub_right_comm,aZ]
theorem a6S(x m:Nat):(dgs x m).length<=m+(jw x).length:=by
 unfold dgs
 split
 .simp
 .rw[ak,qO];omega
theorem D9{x m:Nat}:∀c∈dgs x m,iq c=true:=by
 have dg:∀u:Nat,∀c∈jw u,iq c=true:=λu=>by
  induction u using Nat.strongRecOn with
  |ind u ih =>
   intro c hc
   by_cases h:u<10
   .rw[qC h]at hc;rw[aV.1 hc];unfold iq;rw[dx,eG,eG];omega
   .rw[xP (by omega)]at hc
    rcases aG.1 hc with q|q
    .exact ih _ (by omega) c q
    .rw[aV.1 q];unfold iq;rw[dx,eG,eG];omega
 intro c hc
 unfold dgs at hc
 split at hc
 .rw[gI hc];rfl
 .rcases aG.1 hc with q|q
  .rw[gI q];rfl
  .exact dg x c q
theorem xM(n:Int):aY (jd n)=if n<0 then 45::jw n.natAbs else jw n.toNat:=by
 unfold jd aY Lib.itoa jw
 by_cases h:n<0
 .rw[if_pos h,if_pos h];rfl
 .rw[if_neg h,if_neg h]
theorem a6R(x:Nat):dgs x 1=jw x:=by
 unfold dgs
 by_cases h:x=0
 .subst h;rw[qC (by omega)];rfl
 .rw[if_neg h]
  have:1<=(jw x).length:=by
   by_cases q:x<10
   .rw[qC q];simp
   .rw[xP (by omega)];simp
  rw[show 1-(jw x).length=0 by omega];rfl
theorem YL(n:Int)(h:-9223372036854775808<=n/\n<=9223372036854775807):y7 n=some (jd n,()):=by unfold y7;rw[if_pos h]
theorem a9J(n:Nat):aY (Oi (bs [48]) n)=List.replicate n 48:=by
 unfold Oi
 have e:(bs [48]).data.toList=[48]:=rfl
 rw[e]
 have:∀n:Nat,Lib.repeatL [48] n=List.replicate n (48:UInt8):=by
  intro n
  induction n with
  |zero=>rfl
  |succ n ih =>
   simp[Lib.repeatL,wO]at ih ⊢
   exact ih
 rw[this]
 show((List.replicate n (48:UInt8)).toArray.toList.map λc=>(c.toNat:Int))=_
 simp
def OE(n k:Nat):ByteArray:=bsI (dgs n k)
theorem F4(n k:Nat):aY (OE n k)=dgs n k:=Jc λx hx=>by have:=D9 x hx;unfold iq at this;rw[dx,eG,eG]at this;omega
theorem a5E(n k:Nat)(hn:n<10000):(OE n k).size<=k+4:=by
 have:=a6S n k
 have:=tC 4 n (by omega)
 rw[<- iH,F4];omega
theorem b4y(n k:Nat)(hn:n<10000)(hk:1<=k/\k<=4):Eh (n:Int) (k:Int)=some (OE n k,()):=by
 refine T.eq ?_
 unfold Eh
 have hi:=xM n
 rw[if_neg (by omega),fG]at hi
 have hlen:=tC 4 n (by omega)
 have hz:(jd n).size=(jw n).length:=by rw[<- iH,hi]
 refine T.aN (YL n (by omega)) ?_
 dsimp only
 rw[oW,hz,dG (by omega) (by omega),show tu 0 ((k:Int)-((jw n).length:Int))=((k-(jw n).length:Nat):Int) by unfold tu;omega]
 have c0l:(bs [48]).size=1:=rfl
 refine T.aN (show JL (bs [48]) ((k-(jw n).length:Nat):Int)=some (Oi (bs [48]) (k-(jw n).length),()) by unfold JL;rw[if_pos (by rw[c0l];omega),fG]) ?_
 have hr:=a9J (k-(jw n).length)
 have hrs:(Oi (bs [48]) (k-(jw n).length)).size=k-(jw n).length:=by rw[<- iH,hr,qO]
 refine T.grd (vL (by dsimp only;omega)) (T.ret (dn (·,()) (Qx ?_)))
 rw[EC,hr,hi,F4]
 unfold dgs
 split
 .rename_i q
  subst q
  rw[qC (by omega)]
  obtain⟨k,rfl⟩:∃j,k=j+1:=⟨k-1,by omega⟩
  exact List.replicate_succ'.symm
 .rfl
end
end Abs
end Go.Proofs.YtnhgeocdffhkjaaGreatDoor
section
namespace Go.Proofs.YtnhgeocdffhkjaaGreatDoor.Cal
def yl(y:Int):Int:=if y%4=0 then 366 else 365
def tab:List Int:=[31,28,31,30,31,30,31,31,30,31,30,31]
def len(y m:Int):Int:=if m=2/\y%4=0 then 29 else tab.getD (m-1).toNat 0
theorem LJ(y:Int):365<=yl y/\yl y<=366:=by unfold yl;split<;>omega
theorem a9p:∀k,k<12->28<=tab.getD k 0/\tab.getD k 0<=31:=by decide
theorem zS(y m:Int)(h1:1<=m)(h2:m<=12):28<=len y m/\len y m<=31:=by
 unfold len
 split
 .omega
 .exact a9p _ (by omega)
def pY:Nat->Int
 |0=>0
 |n+1=>pY n+yl (2000+n)
theorem zw(n:Nat):pY n=365*n+(n+3)/4:=by
 induction n with
 |zero=>rfl
 |succ n ih=>rw[pY,ih];unfold yl;split<;>omega
def lC(y:Int):Nat->Int
 |0=>0
 |n+1=>lC y n+len y (n+1)
theorem FI(y:Int)(n:Nat)(h:n<=12):0<=lC y n/\lC y n<=31*n:=by
 induction n with
 |zero=>simp[lC]
 |succ n ih=>have:=ih (by omega);have:=zS y (n+1) (by omega) (by omega);rw[lC];omega
def okD(y m d h:Int):Bool:=decide (2000<=y)&&decide (y<=2099)&&decide (1<=m)&&decide (m<=12)&&decide (1<=d)&&decide (d<=len y m)&&decide (0<=h)&&decide (h<=23)
def hv(y m d h:Int):Int:=if okD y m d h then 24*(d-1+pY (y-2000).toNat+lC y (m-1).toNat)+h else 0
def he(y m d h:Int):Int:=if okD y m d h then 0 else 1
end Go.Proofs.YtnhgeocdffhkjaaGreatDoor.Cal
end
section
namespace Go.Proofs.YtnhgeocdffhkjaaGreatDoor.Cal
theorem FJ(y:Int):lC y 12=yl y:=by
 by_cases h:y%4=0<;>simp[lC,len,tab,yl,h]
theorem BK(y:Int)(i:Nat):∀j,i<j->j<=12->lC y i+len y (i+1)<=lC y j
 |0,h,_=>by omega
 |j+1,h,hj=>by
  rcases Nat.lt_or_eq_of_le (Nat.lt_succ_iff.1 h) with k|k
  .have:=BK y i j k (by omega)
   have:=zS y (j+1) (by omega) (by omega)
   rw[lC];omega
  .subst k;rw[lC];omega
def yc(n y m d:Int):Prop:=2000<=y/\y<=2099/\1<=m/\m<=12/\1<=d/\d<=len y m/\d-1+pY (y-2000).toNat+lC y (m-1).toNat=n/24
theorem Ri{y m d:Int}(h1:1<=m)(h2:m<=12)(h3:1<=d)(h4:d<=len y m):0<=d-1+lC y (m-1).toNat/\d-1+lC y (m-1).toNat<yl y:=by
 have a:=FI y (m-1).toNat (by omega)
 refine⟨by omega,?_⟩
 rcases Int.lt_or_le m 12 with h|h
 .have b:=BK y (m-1).toNat 12 (by omega) (by omega)
  rw[FJ,show(((m-1).toNat:Nat):Int)+1=m by omega]at b
  omega
 .have e:(m-1).toNat=11:=by omega
  have b:=BK y 11 12 (by omega) (by omega)
  rw[FJ]at b
  rw[e]
  have:m=12:=by omega
  subst this
  have:len y 12=len y ((11:Nat)+1):=rfl
  omega
theorem yc.unique{n y m d y' m' d':Int}(a:yc n y m d)(b:yc n y' m' d'):y=y'/\m=m'/\d=d':=by
 obtain⟨a1,a2,a3,a4,a5,a6,a7⟩:=a
 obtain⟨b1,b2,b3,b4,b5,b6,b7⟩:=b
 have a8:=Ri a3 a4 a5 a6
 have b8:=Ri b3 b4 b5 b6
 have ey:y=y':=by
  have c1:=zw (y-2000).toNat
  have c2:=zw (y'-2000).toNat
  have c3:yl y<=366:=(LJ y).2
  have c4:yl y'<=366:=(LJ y').2
  have c5:y%4≠0->yl y=365:=λh=>by simp[yl,h]
  have c6:y'%4≠0->yl y'=365:=λh=>by simp[yl,h]
  omega
 subst ey
 have em:(m-1).toNat=(m'-1).toNat:=by
  rcases Nat.lt_trichotomy (m-1).toNat (m'-1).toNat with h|h|h
  .have:=BK y (m-1).toNat (m'-1).toNat h (by omega)
   rw[show(((m-1).toNat:Nat):Int)+1=m by omega]at this
   omega
  .exact h
  .have:=BK y (m'-1).toNat (m-1).toNat h (by omega)
   rw[show(((m'-1).toNat:Nat):Int)+1=m' by omega]at this
   omega
 have em':m=m':=by omega
 subst em'
 exact⟨rfl,rfl,by omega⟩
theorem OZ(y r:Int)(h0:0<=r):∀N,N<=12->r<lC y N->∃j:Nat,j<N/\lC y j<=r/\r<lC y (j+1)
 |0,_,h=>by simp[lC]at h;omega
 |N+1,hN,h=>by
  rcases Int.lt_or_le r (lC y N) with k|k
  .obtain⟨j,a,b,c⟩:=OZ y r h0 N (by omega) k
   exact⟨j,by omega,b,c⟩
  .exact⟨N,by omega,k,h⟩
theorem b3c(n:Int)(h0:0<=n)(h1:n<=876599):∃y m d,yc n y m d:=by
 have hk:∃k:Nat,k=(4*(n/24)/1461).toNat:=⟨_,rfl⟩
 obtain⟨k,hk⟩:=hk
 have c1:=zw k
 have c2:=zw (k+1)
 have hk1:pY k<=n/24/\n/24<pY (k+1)/\k<=99:=by omega
 have hr:n/24-pY k<lC (2000+k) 12:=by rw[FJ];have:=hk1.2.1;rw[pY]at this;omega
 obtain⟨j,hj,hj1,hj2⟩:=OZ (2000+k) (n/24-pY k) (by omega) 12 (by omega) hr
 rw[lC]at hj2
 refine⟨2000+k,j+1,n/24-pY k-lC (2000+k) j+1,by omega,by omega,by omega,by omega,by omega,by omega,?_⟩
 rw[show((2000:Int)+k-2000).toNat=k by omega,show((j:Int)+1-1).toNat=j by omega]
 omega
end Go.Proofs.YtnhgeocdffhkjaaGreatDoor.Cal
end
namespace Go.Proofs.YtnhgeocdffhkjaaGreatDoor
namespace Abs
noncomputable section
theorem ZH(y:Int)(h:0<=y):JR y=some (Cal.yl y,()):=by
 unfold JR Cal.yl
 rw[JD h]
 by_cases q:y%4=0
 .rw[if_pos q,q];rfl
 .rw[if_neg q,show iEq (y%4) 0=false by rw[dI];exact q];rfl
theorem a9o(k:Nat):atI ([31,28,31,30,31,30,31,31,30,31,30,31]:List Int) (k:Int) 0=Cal.tab.getD k 0:=by
 unfold atI Cal.tab;rw[fG]
theorem ML(y m:Int)(hy:0<=y)(h:1<=m/\m<=12):Gr y m=some (Cal.len y m,()):=by
 refine T.eq ?_
 unfold Gr Cal.len
 rw[JD hy]
 refine T.grd rfl ?_
 refine T.cnd (λhc=>?_) (λhc=>?_)<;>simp only[qE,rT,kg,dI]at hc
 .rw[if_pos hc];exact T.ret rfl
 .rw[if_neg (by omega)]
  rw[dG (by omega) (by omega)]
  refine T.grd (by rw[bT];omega) (T.ret ?_)
  obtain⟨k,hk⟩:∃k:Nat,m-1=(k:Int):=⟨(m-1).toNat,by omega⟩
  rw[hk,a9o,fG]
theorem a6Z{n y m d:Int}(h0:0<=n)(h1:n<=876599)(hc:Cal.yc n y m d):Uu n=some ((y,m,d,()),n%24,0,()):=by
 refine T.eq ?_
 unfold Uu a10
 refine T.bind (T.ret ?_)
 refine T.cf (by simp only[sD,qE,eG];omega) ?_
 refine T.grd rfl ?_
 have hq:K7 .i64 n 24=n/24:=by unfold K7;rw[Int.tdiv_eq_ediv_of_nonneg h0,wrap64 (by omega) (by omega)]
 rw[hq]
 refine T.aN (ZH 2000 (by omega)) ?_
 refine T.loop (λq=>∃Y D:Int,2000<=Y/\Y<=2100/\0<=D/\D+Cal.pY (Y-2000).toNat=n/24/\q=(n,D,Y,1,Cal.yl Y,0,0,0,())) (λq=>q.2.1.toNat) ⟨2000,n/24,by omega,by omega,by omega,by show n/24+0=_;omega,rfl⟩ ?_
 rintro _ ⟨Y,D,y0,y9,d0,he,rfl⟩
 dsimp only
 have hcy:=Cal.zw (Y-2000).toNat
 have hyl:=Cal.LJ Y
 have y1:Y<=2099:=by
  rcases Int.lt_or_le 2099 Y with q|q
  .exfalso;omega
  .exact q
 refine T.cnd (λhc1=>?_) (λhc1=>?_)<;>simp only[eG,jZ]at hc1
 .rw[bf (by omega) (by omega),dG (by omega) (by omega)]
  refine T.aN (ZH (Y+1) (by omega)) ?_
  refine T.go ⟨Y+1,D-Cal.yl Y,by omega,by omega,by omega,?_,rfl⟩ (by dsimp only;omega)
  have e1:(Y+1-2000).toNat=(Y-2000).toNat+1:=by omega
  have e2:Cal.pY ((Y-2000).toNat+1)=Cal.pY (Y-2000).toNat+Cal.yl Y:=by rw[Cal.pY];congr 2;omega
  rw[e1,e2];omega
 refine T.kW ?_
 refine T.aN (ML Y 1 (by omega) (by omega)) ?_
 refine T.loop (λq=>∃M E:Int,1<=M/\M<=12/\0<=E/\E+Cal.lC Y (M-1).toNat=D/\q=(n,E,Y,M,Cal.len Y M,0,0,0,())) (λq=>q.2.1.toNat) ⟨1,D,by omega,by omega,by omega,by show D+0=_;omega,rfl⟩ ?_
 rintro _ ⟨M,E,m0,m1,e0,hE,rfl⟩
 dsimp only
 have hl:=Cal.zS Y M m0 m1
 have hcm:=Cal.FI Y (M-1).toNat (by omega)
 refine T.cnd (λhc2=>?_) (λhc2=>?_)<;>simp only[eG,jZ]at hc2
 .have e2:Cal.lC Y ((M-1).toNat+1)=Cal.lC Y (M-1).toNat+Cal.len Y M:=by rw[Cal.lC];congr 2;omega
  have hM:M<=11:=by
   rcases Int.lt_or_le 11 M with q|q
   .exfalso
    obtain rfl:M=12:=by omega
    have e3:Cal.lC Y 12=Cal.yl Y:=Cal.FJ Y
    have e4:((12:Int)-1).toNat+1=12:=rfl
    rw[e4,e3]at e2
    omega
   .exact q
  rw[bf (by omega) (by omega),dG (by omega) (by omega)]
  refine T.aN (ML Y (M+1) (by omega) (by omega)) ?_
  refine T.go ⟨M+1,E-Cal.len Y M,by omega,by omega,by omega,?_,rfl⟩ (by dsimp only;omega)
  rw[show(M+1-1).toNat=(M-1).toNat+1 by omega,e2];omega
 .refine T.kW ?_
  refine T.grd rfl (T.ret ?_)
  have hc3:Cal.yc n Y M (E+1):=⟨y0,y1,m0,m1,by omega,by omega,by omega⟩
  obtain⟨rfl,rfl,rfl⟩:=hc.unique hc3
  rw[bf (by omega) (by omega),JD h0]
theorem b2D{n y m d:Int}(h0:0<=n)(hc:Cal.yc n y m d):P9 (y,m,d,()) (n%24)=some (n,0,()):=by
 obtain⟨k1,k2,k3,k4,k5,k6,k7⟩:=hc
 have hb:=Cal.zS y m k3 k4
 refine T.eq ?_
 unfold P9
 dsimp only
 refine T.cf (by simp only[lH,cO];omega) (T.aN (ML y m (by omega) ⟨k3,k4⟩) (T.cf (by rw[cO];dsimp only;omega) (T.cf (by simp only[lH,cO,jZ];omega) ?_)))
 have hcy:∀n:Nat,n<=100->0<=Cal.pY n/\Cal.pY n<=36525:=λn hn=>by rw[Cal.zw];omega
 rw[dG (by omega) (by omega)]
 have h0':(n%24,d-1,(2000:Int),y,m,d,())=(n%24,d-1+Cal.pY 0,2000+((0:Nat):Int),y,m,d,()):=by
  show _=(n%24,d-1+0,(2000:Int)+0,y,m,d,());rw[Ag,Ag]
 rw[h0']
 refine T.along (y-2000).toNat (λi:Nat=>(n%24,d-1+Cal.pY i,2000+(i:Int),y,m,d,())) (λi hi=>?_) ?_
 .dsimp only
  refine T.ct (by rw[bS];omega) (T.aN (ZH _ (by omega)) ?_)
  have hq:=Cal.LJ (2000+(i:Int))
  have hz:=hcy i (by omega)
  refine T.go ?_ (by omega)
  dsimp only
  rw[bf (by omega) (by omega),bf (by omega) (by omega),Cal.pY,Int.add_assoc,show(2000:Int)+(i:Int)+1=2000+((i+1:Nat):Int) by omega]
 .dsimp only
  refine T.cf (by rw[cO];omega) (T.kW ?_)
  have hz:=hcy (y-2000).toNat (by omega)
  generalize hA:Cal.pY (y-2000).toNat=A at hz k7
  generalize (2000:Int)+((y-2000).toNat:Int)=Y
  have h0':(n%24,d-1+A,(1:Int),y,m,d,())=(n%24,d-1+A+Cal.lC y 0,1+((0:Nat):Int),y,m,d,()):=by
   show _=(n%24,d-1+A+0,(1:Int)+0,y,m,d,());rw[Ag,Ag]
  rw[h0']
  refine T.along (m-1).toNat (λi:Nat=>(n%24,d-1+A+Cal.lC y i,1+(i:Int),y,m,d,())) (λi hi=>?_) ?_
  .dsimp only
   refine T.ct (by rw[bS];omega) (T.aN (ML _ _ (by omega) (by omega)) ?_)
   have hq:=Cal.zS y (1+(i:Int)) (by omega) (by omega)
   have hz2:=Cal.FI y i (by omega)
   refine T.go ?_ (by omega)
   dsimp only
   rw[bf (by omega) (by omega),bf (by omega) (by omega),Cal.lC,Int.add_assoc (d-1+A),show(1:Int)+(i:Int)+1=1+((i+1:Nat):Int) by omega,show(1:Int)+(i:Int)=(i:Int)+1 by omega]
  .dsimp only
   have hz2:=Cal.FI y (m-1).toNat (by omega)
   refine T.cf (by rw[cO];omega) (T.out ?_)
   rw[IY (by omega) (by omega),bf (by omega) (by omega)]
   congr 1
   omega
def val(ds:List Int):Int:=ds.foldl (λa c=>a*10+(c-48)) 0
theorem Gb(ds:List Int)(c:Int):val (ds++[c])=val ds*10+(c-48):=by
 unfold val;rw[iR];rfl
theorem Qq{c:Int}(h:iq c=true):48<=c/\c<=57:=by unfold iq at h;rw[dx,eG,eG]at h;exact h
theorem Wo{l:List Int}(hd:∀c∈l,iq c=true):∀i:Nat,i<=l.length->0<=val (l.take i)/\val (l.take i)<10^i
 |0,_=>⟨mU _,by show(0:Int)<1;decide⟩
 |i+1,h=>by
  have h1:=Wo hd i (by omega)
  have h2:=Qq (hd l[i] (jA _))
  rw[jy (by omega),Gb,Int.pow_succ]
  omega
theorem Si:∀(k x m:Nat),x+m<=k->val (dgs x m)=(x:Int)
  | 0, x, m, h => by obtain rfl : x = 0 := by omega
                     obtain rfl:m=0:=by omega
                     rfl
  | k + 1,x,m,h=>by
    by_cases q:0<x\/0<m
    .rw[Qr q,Gb,Si k (x/10) (m-1) (by omega)];omega
    · obtain rfl:x=0:=by omega
      obtain rfl:m=0:=by omega
      rfl
theorem Sj:∀(m x:Nat),x<10^m->(dgs x m).length=m
  | 0, x, h => by obtain rfl : x = 0 := by simpa using h
                  rfl
  | m + 1,x,h=>by
    rw[Qr (by omega),ak,aJ,show m+1-1=m from rfl,Sj m (x/10) (by rw[Nat.pow_succ]at h;omega)]
theorem b4n{s:ByteArray}{l:List Int}(hl:aY s=l)(hd:∀c∈l,iq c=true)(hs:l.length<=4):Cx s=some (val l,()):=by
 refine T.eq ?_
 unfold Cx
 have hsz:=iH s
 have hL:=oW s
 rw[hl]at hsz
 refine T.along l.length (λi:Nat=>(s,val (l.take i),sLen s,(i:Int),())) (λi hi=>?_) ?_
 .dsimp only
  have e0:sAt s (i:Int)=l[i]:=by rw[Db,hl,bB,ah hi];rfl
  have b0:=Qq (hd _ (jA hi))
  have vb:=Wo hd i (by omega)
  have:(10:Int)^i<=1000:=by
   have:i=0\/i=1\/i=2\/i=3:=by omega
   rcases this with rfl|rfl|rfl|rfl<;>decide
  refine T.ct (by rw[bS];omega) (T.grd (by rw[bT];omega) (T.go ?_ (by omega)))
  rw[e0,jy hi,Gb]
  have e2:dQ .u8 l[i] 48=l[i]-48:=by unfold dQ;rw[a3H (by omega) (by omega)]
  rw[e2,wrap64 (by omega) (by omega),IY (by omega) (by omega),bf (by omega) (by omega),bf (by omega) (by omega)]
  rfl
 .dsimp only
  refine T.cf (by rw[cO];omega) (T.out ?_)
  rw[eF (aS _)]
theorem kP{c:Int}(h:iq c=true)(i:Nat)(hi:i≠4/\i≠7/\i≠10):Pb c (i:Int)=some (true,()):=by
 unfold Pb
 rw[show iEq (i:Int) 4=false by rw[dI];omega,show iEq (i:Int) 7=false by rw[dI];omega,show iEq (i:Int) 10=false by rw[dI];omega]
 exact dn (λb=>some (b,())) (show cond (iLe 48 c) (iLe c 57) false=true by rw[qE,eG,eG];exact Qq h)
theorem two{l:List Int}(h:l.length=2):∃a b,l=[a,b]:=by
 match l,h with
 |[a,b],_=>exact⟨a,b,rfl⟩
theorem four{l:List Int}(h:l.length=4):∃a b c d,l=[a,b,c,d]:=by
 match l,h with
 |[a,b,c,d],_=>exact⟨a,b,c,d,rfl⟩
theorem a6C{y m d h:List Int}(ly:y.length=4)(lm:m.length=2)(ld:d.length=2)(lh:h.length=2)(hy:∀c∈y,iq c=true)(hm:∀c∈m,iq c=true)(hd:∀c∈d,iq c=true)(hh:∀c∈h,iq c=true){b:Bool}{s:ByteArray}(hb:aY s=y++45::(m++45::(d++cond b (84::h) []))){v:Int}(e:P9 (val y,val m,val d,()) (cond b (val h) 0)=some (v,0,())):Pp s=some (v,0,()):=by
 have ct:∀(l u:Nat) (x:List Int),((aY s).take u).drop l=x->(∀c∈x,iq c=true)->x.length<=4->Cx (lu (l:Int) (u:Int) s)=some (val x,()):=λl u x h1 h2 h3=>b4n (by rw[Zq];exact h1) h2 h3
 have hsz:=iH s
 have hL:=oW s
 obtain⟨a1,a2,a3,a4,rfl⟩:=four ly
 obtain⟨b1,b2,rfl⟩:=two lm
 obtain⟨d1,d2,rfl⟩:=two ld
 obtain⟨h1,h2,rfl⟩:=two lh
 have e1:=ct 0 4 [a1,a2,a3,a4] (by rw[hb];rfl) hy (aS _)
 have e2:=ct 5 7 [b1,b2] (by rw[hb];rfl) hm (by simp)
 have e3:=ct 8 10 [d1,d2] (by rw[hb];rfl) hd (by simp)
 have e4:b=true->Cx (lu (11:Int) (13:Int) s)=some (val [h1,h2],()):=λq=>ct 11 13 [h1,h2] (by rw[hb,q];rfl) hh (by simp)
 simp only[bD,bJ,or_false,forall_eq_or_imp,forall_eq]at hy hm hd hh
 have hs:s.size=cond b 13 10:=by rw[<- hsz,hb];cases b<;>rfl
 have hf:∀i:Nat,i<s.size->Pb (sAt s (i:Int)) (i:Int)=some (true,()):=λi hi=>by
  rw[Db,hb]
  cases b with
  |false =>
   have hi:i<10:=by rw[hs]at hi;exact hi
   match i,hi with
   |0,_=>exact kP hy.1 0 (by decide)
   |1,_=>exact kP hy.2.1 1 (by decide)
   |2,_=>exact kP hy.2.2.1 2 (by decide)
   |3,_=>exact kP hy.2.2.2 3 (by decide)
   |4,_=>rfl
   |5,_=>exact kP hm.1 5 (by decide)
   |6,_=>exact kP hm.2 6 (by decide)
   |7,_=>rfl
   |8,_=>exact kP hd.1 8 (by decide)
   |9,_=>exact kP hd.2 9 (by decide)
  |true =>
   have hi:i<13:=by rw[hs]at hi;exact hi
   match i,hi with
   |0,_=>exact kP hy.1 0 (by decide)
   |1,_=>exact kP hy.2.1 1 (by decide)
   |2,_=>exact kP hy.2.2.1 2 (by decide)
   |3,_=>exact kP hy.2.2.2 3 (by decide)
   |4,_=>rfl
   |5,_=>exact kP hm.1 5 (by decide)
   |6,_=>exact kP hm.2 6 (by decide)
   |7,_=>rfl
   |8,_=>exact kP hd.1 8 (by decide)
   |9,_=>exact kP hd.2 9 (by decide)
   |10,_=>rfl
   |11,_=>exact kP hh.1 11 (by decide)
   |12,_=>exact kP hh.2 12 (by decide)
 have c1x:s.size<=13:=by rw[hs];cases b<;>decide
 refine T.eq ?_
 unfold Pp
 refine T.cf (by rw[rT,uh,uh,hL,hs];cases b;exact .inl rfl;exact .inr rfl) (T.along s.size (λi:Nat=>(s,sLen s,(i:Int),())) (λi hi=>?_) ?_)
 .dsimp only
  refine T.ct (by rw[bS];omega) (T.grd (by rw[bT];omega) (T.aN (hf i hi) (T.cf rfl (T.go ?_ (by omega)))))
  rw[bf (by omega) (by omega)];rfl
 .dsimp only
  refine T.cf (by rw[cO];omega) (T.kW (T.join (λj=>j=(s,cond b (val [h1,h2]) 0,())) ?_ ?_))
  .cases b with
   |false=>exact T.cf (by rw[dI,hL,hs];decide) (T.jgo rfl)
   |true =>
    refine T.ct (by rw[kg,hL,hs];rfl) (T.grd (by rw[nS,hs];decide) ?_)
    rw[hs]
    exact T.aN (e4 rfl) (T.jgo rfl)
  .rintro _ rfl
   dsimp only
   have c1y:10<=s.size:=by rw[hs];cases b<;>decide
   refine T.grd (by rw[nS];omega) (T.aN e1 (T.grd (by rw[nS];omega) (T.aN e2 (T.grd (by rw[nS];omega) (T.aN e3 (T.aN e (T.ret rfl)))))))
def CP(c:Int):Bool:=iq c||(iEq c 45||iEq c 84)
def hrB(n:Int):ByteArray:=((zQ n).getD (bs [],0,())).1
theorem a2m{n y m d:Int}(h0:0<=n)(h1:n<=876599)(hc:Cal.yc n y m d):zQ n=some (hrB n,0,())/\aY (hrB n)=dgs y.toNat 4++45::(dgs m.toNat 2++45::(dgs d.toNat 2++cond (iNe (n%24) 0) (84::dgs (n%24).toNat 2) [])):=by
 have hl:=Cal.zS y m hc.2.2.1 hc.2.2.2.1
 obtain⟨y0,y1,m0,m1,d0,d1,_⟩:=id hc
 have key:∃s,zQ n=some (s,0,())/\aY s=dgs y.toNat 4++45::(dgs m.toNat 2++45::(dgs d.toNat 2++cond (iNe (n%24) 0) (84::dgs (n%24).toNat 2) [])):=by
  have pd:∀(x:Int) (k:Nat),0<=x->x<10000->1<=k/\k<=4->Eh x (k:Int)=some (OE x.toNat k,())/\(OE x.toNat k).size<=8:=λx k a b c=>by
   have:=b4y x.toNat k (by omega) c
   rw[gQ a]at this
   exact⟨this,by have:=a5E x.toNat k (by omega);omega⟩
  obtain⟨a1,z1⟩:=pd y 4 (by omega) (by omega) (by omega)
  obtain⟨a2,z2⟩:=pd m 2 (by omega) (by omega) (by omega)
  obtain⟨a3,z3⟩:=pd d 2 (by omega) (by omega) (by omega)
  obtain⟨a4,z4⟩:=pd (n%24) 2 (by omega) (by omega) (by omega)
  have s45:(bs [45]).size=1:=rfl
  have s84:(bs [84]).size=1:=rfl
  have b45:aY (bs [45])=[45]:=rfl
  have b84:aY (bs [84])=[84]:=rfl
  have h:T (zQ n) (λv=>v.2=(0,())/\aY v.1=dgs y.toNat 4++45::(dgs m.toNat 2++45::(dgs d.toNat 2++cond (iNe (n%24) 0) (84::dgs (n%24).toNat 2) []))):=by
   unfold zQ
   refine T.aN (a6Z h0 h1 hc) ?_
   refine T.cf rfl ?_
   dsimp only
   refine T.aN a1 (T.grd (vL (by dsimp only;omega)) (T.aN a2 (T.grd (vL (by simp only[vG];omega)) (T.grd (vL (by simp only[vG];omega)) (T.aN a3 (T.grd (vL (by simp only[vG];omega)) (T.cnd (λq=>?_) (λq=>T.ret ?_))))))))
   .exact T.aN a4 (T.grd (vL (by simp only;omega)) (T.grd (vL (by simp only[vG];omega)) (T.ret ⟨rfl,by dsimp only at q ⊢;rw[q];simp[EC,F4,b45,b84]⟩)))
   .exact⟨rfl,by dsimp only at q ⊢;rw[q];simp[EC,F4,b45]⟩
  obtain⟨⟨s,e,⟨⟩⟩,h1,h2,h3⟩:=h
  cases h2
  exact⟨s,h1,h3⟩
 obtain⟨s,h2,h3⟩:=key
 have hs:hrB n=s:=by unfold hrB;rw[h2];rfl
 rw[hs]
 exact⟨h2,h3⟩
theorem a2l{n:Int}(h0:0<=n)(h1:n<=876599):zQ n=some (hrB n,0,())/\Pp (hrB n)=some (n,0,())/\(∀c∈aY (hrB n),CP c=true)/\(hrB n).size<=13:=by
 obtain⟨y,m,d,hc⟩:=Cal.b3c n h0 h1
 have hv:=b2D h0 hc
 have hl:=Cal.zS y m hc.2.2.1 hc.2.2.2.1
 obtain⟨y0,y1,m0,m1,d0,d1,_⟩:=id hc
 obtain⟨h2,h3⟩:=a2m h0 h1 hc
 have fx:∀(x:Int) (k:Nat),0<=x->x<10^k->(dgs x.toNat k).length=k/\val (dgs x.toNat k)=x:=λx k a b=>by
  refine⟨Sj k _ ?_,(Si _ _ _ (aS _)).trans (gQ a)⟩
  have:((x.toNat:Nat):Int)<((10^k:Nat):Int):=by rw[gQ a,Int.natCast_pow];exact b
  omega
 obtain⟨l1,v1⟩:=fx y 4 (by omega) (by omega)
 obtain⟨l2,v2⟩:=fx m 2 (by omega) (by omega)
 obtain⟨l3,v3⟩:=fx d 2 (by omega) (by omega)
 obtain⟨l4,v4⟩:=fx (n%24) 2 (by omega) (by omega)
 refine⟨h2,a6C l1 l2 l3 l4 D9 D9 D9 D9 h3 ?_,?_,?_⟩
 .rw[v1,v2,v3,v4]
  cases q:iNe (n%24) 0 with
  |true=>exact hv
  |false=>rw[uh]at q;rw[q]at hv;exact hv
 .rw[h3]
  intro c hc
  have dg:∀{x k:Nat},c∈dgs x k->CP c=true:=λq=>by unfold CP;rw[D9 c q];rfl
  cases q:iNe (n%24) 0<;>rw[q]at hc<;>simp only[qR,mO,aG,bD,bJ,or_false]at hc
  .rcases hc with r|rfl|r|rfl|r
   .exact dg r
   .rfl
   .exact dg r
   .rfl
   .exact dg r
  .rcases hc with r|rfl|r|rfl|r|rfl|r
   .exact dg r
   .rfl
   .exact dg r
   .rfl
   .exact dg r
   .rfl
   .exact dg r
 .rw[<- iH,h3]
  cases iNe (n%24) 0<;>simp[l1,l2,l3,l4]
def mkL:List (List UInt8):=[[59],[58],[44],[40],[41]]
def iw(t:ay):Prop :=
 (t.1=1/\lS t.2.1=true/\t.2.2.1=0)\/(t.1=2/\t.2.1=bs []/\-17592186044416<=t.2.2.1/\t.2.2.1<=17592186044416)\/(t.1=3/\t.2.1=bs []/\0<=t.2.2.1/\t.2.2.1<=876599)\/(t.1=4/\t.2.2.1=0/\∃c∈mkL,t.2.1=bs c)
def tT(t:ay):ByteArray:=((Cy t).getD (bs [],0,())).1
theorem U0(s:ByteArray):sEq s s=true:=by rw[vX]
structure Gd (t:ay):Prop where
 w:Cy t=some (tT t,0,())
 sz:(tT t).size<=41
theorem Gd.of{t:ay}{s:ByteArray}(h1:Cy t=some (s,0,()))(h3:s.size<=41):Gd t/\tT t=s:=by
 have e:tT t=s:=by unfold tT;rw[h1];rfl
 exact⟨⟨by rw[e];exact h1,by rw[e];exact h3⟩,e⟩
theorem NP{s:ByteArray}(h:lS s=true):(1<=s.size/\s.size<=16)/\97<=sAt s 0/\H7 s=true:=by
 unfold lS at h
 split at h
 .cases h
 .simp only[dx,isLet,eG]at h
  exact⟨by omega,h.1.1.1,h.2⟩
theorem BJ(u:Nat):48<=(jw u).getD 0 0/\(jw u).getD 0 0<=57/\1<=(jw u).length:=by
 induction u using Nat.strongRecOn with
 |ind u ih =>
  by_cases h:u<10
  .rw[qC h];simp;omega
  .have:=ih (u/10) (by omega)
   rw[xP (by omega),bB,au (by omega),<- bB,ak]
   omega
theorem a6u(n:Int):(48<=sAt (jd n) 0/\sAt (jd n) 0<=57)\/sAt (jd n) 0=45:=by
 have h:=Db (jd n) 0
 rw[xM]at h
 have h:sAt (jd n) 0=_:=h
 rw[h]
 split
 .right;rfl
 .left;have:=BJ n.toNat;omega
theorem PV{n:Int}(h0:-17592186044416<=n)(h1:n<=17592186044416):(jd n).size<=20:=by
 have a:=tC 18 n.natAbs (by omega)
 have b:=tC 18 n.toNat (by omega)
 rw[<- iH,xM]
 split
 .rw[aL];omega
 .omega
theorem wU{t:ay}(h:iw t):Gd t/\((t.1=2/\tT t=jd t.2.2.1)\/(t.1=3/\tT t=iJ (bs [64]) (hrB t.2.2.1))\/((t.1=1\/t.1=4)/\tT t=t.2.1)):=by
 rcases h with⟨k,h2,h3⟩|⟨k,h2,h3,h4⟩|⟨k,h2,h3,h4⟩|⟨k,h2,c,hc,h3⟩
 .obtain⟨⟨a1,a2⟩,a3,_⟩:=NP h2
  refine(λq=>⟨q.1,.inr (.inr ⟨.inl k,q.2⟩)⟩) (Gd.of (s:=t.2.1) ?_ (by omega))
  unfold Cy;rw[k,h3,NK,h2];rfl
 .refine(λq=>⟨q.1,.inl ⟨k,q.2⟩⟩) (Gd.of (s:=jd t.2.2.1) ?_ (by have:=PV h3 h4;omega))
  unfold Cy;rw[k,h2,U0,YL _ (by omega),show iLt t.2.2.1 (-17592186044416)=false by rw[cO];omega,show iLt 17592186044416 t.2.2.1=false by rw[cO];omega];rfl
 .obtain⟨e1,_,_,z⟩:=a2l h3 h4
  have s64:(bs [64]).size=1:=rfl
  have f:nu (bs [64]) (hrB t.2.2.1)=true:=vL (by omega)
  refine(λq=>⟨q.1,.inr (.inl ⟨k,q.2⟩)⟩) (Gd.of (s:=iJ (bs [64]) (hrB t.2.2.1)) ?_ (by rw[vG];omega))
  unfold Cy;rw[k,h2,U0,e1];simp only[iL,f];rfl
 .have hz:t.2.1.size=1:=by rw[h3];simp only[mkL,bD,bJ,or_false]at hc;rcases hc with rfl|rfl|rfl|rfl|rfl<;>rfl
  have g:Em (sAt t.2.1 0)=some (true,()):=by
   rw[h3]
   simp only[mkL,bD,bJ,or_false]at hc
   rcases hc with rfl|rfl|rfl|rfl|rfl<;>rfl
  refine(λq=>⟨q.1,.inr (.inr ⟨.inr k,q.2⟩)⟩) (Gd.of (s:=t.2.1) ?_ (by omega))
  have hl:=oW t.2.1
  unfold Cy
  rw[k,h2,show iNe (sLen t.2.1) 1=false by rw[uh];omega,g,show bnd 0 (sLen t.2.1)=true by rw[bT];omega];rfl
theorem NT{t:ay}(h:iw t):Gd t:=(wU h).1
def apt(p t:ay):Bool:=cond (cond (iEq p.1 4) (sEq p.2.1 (bs [40])) false) false (cond (iNe t.1 4) true (sEq t.2.1 (bs [40])))
theorem b6Q(p t:ay):UK p t=some (apt p t,()):=by unfold UK apt;cases cond (iEq p.1 4) (sEq p.2.1 (bs [40])) false<;>rfl
def spc:Option ay->ay->Bool
 |none,_=>false
 |some p,t=>apt p t
def sp(p:Option ay)(t:ay):List Int:=cond (spc p t) [32] []
def Jr:Option ay->List ay->List Int
 |_,[]=>[]
 |p,t::l=>sp p t++(aY (tT t)++Jr (some t) l)
def lastT:Option ay->List ay->Option ay
 |p,[]=>p
 |_,t::l=>lastT (some t) l
theorem Jj:∀(a b:List ay) (p:Option ay),Jr p (a++b)=Jr p a++Jr (lastT p a) b
 |[],b,p=>rfl
 |t::a,b,p=>by
  show sp p t++(aY (tT t)++Jr (some t) (a++b))=(sp p t++(aY (tT t)++Jr (some t) a))++Jr (lastT (some t) a) b
  rw[Jj,aZ,aZ]
theorem Pz:∀(a:List ay) (t:ay) (p:Option ay),lastT p (a++[t])=some t
 |[],t,p=>rfl
 |_::a,t,p=>Pz a t _
theorem SG(a:List ay)(t:ay):Jr none (a++[t])=Jr none a++(sp (lastT none a) t++aY (tT t)):=by
 rw[Jj];show _++(_++(_++[]))=_;rw[cu]
theorem a9u(p:Option ay)(t:ay):(sp p t).length<=1:=by unfold sp;cases spc p t<;>simp
theorem EK:∀(l:List ay) (p:Option ay),(∀t∈l,iw t)->(Jr p l).length<=42*l.length/\Byt (Jr p l)
 |[],_,_=>⟨bN _,λx hx=>by cases hx⟩
 |t::l,p,h=>by
  obtain⟨h1,h2⟩:=EK l (some t) λu hu=>h u (bG _ hu)
  have hz:=(NT (h t (by simp))).sz
  have hs:=a9u p t
  refine⟨?_,λx hx=>?_⟩
  .show(sp p t++(aY (tT t)++Jr (some t) l)).length<=_
   rw[ak,ak,iH,aL];omega
  .rcases aG.1 hx with q|q
   .unfold sp at q;cases hq:spc p t<;>rw[hq]at q
    .cases q
    .rw[aV.1 q];omega
   .rcases aG.1 q with q|q
    .exact b3m _ x q
    .exact h2 x q
def Al(l:List ay):ByteArray×Int×Unit:=if 4000<l.length\/16384<(Jr none l).length then(bs [],4,()) else(bsI (Jr none l),0,())
theorem Qz{α:Type}(a b:List α)(t z:α){k:Int}(h:k=(a.length:Int)):atI (a++t::b) k z=t:=by
 subst h;unfold atI;rw[fG,bB,aO (aS _),qJ];rfl
theorem a5e(a:List ay):a=[]\/∃b p,a=b++[p]:=by
 rcases List.eq_nil_or_concat a with h|⟨b,p,h⟩
 .exact .inl h
 .exact .inr ⟨b,p,by rw[h,List.concat_eq_append]⟩
theorem a7d(c:Int)(b:List Int)(h:b.length<=1000000):m70 c b=some (b++[c],()):=by
 refine T.eq ?_
 unfold m70 Fp
 exact T.bind (T.ret (T.grd (by rw[jD,aJ];dsimp only;omega) (T.ret rfl)))
theorem str_eq(s:ByteArray)(b:List Int)(h:b.length<=1000000)(hs:s.size<=1000000):m69 s b=some (sLen s,b++aY s,()):=by
 refine T.eq ?_
 unfold m69 Fp
 exact T.bind (T.ret (T.grd (by rw[jD,iH];dsimp only;omega) (T.ret rfl)))
theorem YK(l:List ay)(ok:∀t∈l,iw t):m68 l=some (Al l):=by
 refine T.eq ?_
 unfold m68 Al
 have hL:=aW l
 refine T.cnd (λhc=>T.ret ?_) (λhc=>?_)<;>simp only[bS,cO]at hc
 .rw[if_pos (by omega)]
 refine T.loop (λq=>∃a b,l=a++b/\q=(l,l,aA l,(a.length:Int),Jr none a,())) (λq=>l.length-q.2.2.2.1.toNat) ⟨[],l,rfl,rfl⟩ ?_
 rintro _ ⟨a,b,hab,rfl⟩
 dsimp only
 have hlen:l.length=a.length+b.length:=by rw[hab,ak]
 have hJ:=(EK a none λt ht=>ok t (by rw[hab];exact nN _ ht)).1
 refine T.cnd (λh1=>?_) (λh1=>?_)<;>simp only[bS,cO]at h1
 .obtain⟨t,b,rfl⟩:∃t c,b=t::c:=by cases b with|nil=>simp at hlen;omega|cons t c=>exact⟨t,c,rfl⟩
  have g:=NT (ok t (by rw[hab];simp))
  have hz:=g.sz
  refine T.grd (by rw[bT];omega) ?_
  have ha:atI l (a.length:Int) iU=t:=by rw[hab];exact Qz a b t _ rfl
  rw[ha]
  refine T.aN g.w (T.cf rfl ?_)
  have nx:∀r:List Int,r=Jr none (a++[t])->T (some (Sum.inl (β:=ByteArray×Int×Unit) (l,l,aA l,aR .i64 (a.length:Int) 1,r,()))) (LQ (λq=>∃a b,l=a++b/\q=(l,l,aA l,(a.length:Int),Jr none a,())) (λq=>l.length-q.2.2.2.1.toNat) (l.length-(a.length:Int).toNat) (λx=>x=if 4000<l.length\/16384<(Jr none l).length then(bs [],4,()) else(bsI (Jr none l),0,()))):=λr hr=>by
   have e:aR .i64 (a.length:Int) 1=((a++[t]).length:Int):=by rw[bf (by omega) (by omega),ak,aJ];omega
   rw[e]
   refine T.go ⟨a++[t],b,by rw[hab,aZ];rfl,by rw[hr]⟩ ?_
   dsimp only;rw[ak,aJ];omega
  rcases a5e a with rfl|⟨c,p,rfl⟩
  .refine T.grd rfl (T.cf rfl (T.aN (str_eq _ _ (bN _) (by dsimp only;omega)) (nx _ ?_)))
   rw[SG];rfl
  .have hlc:(c++[p]).length=c.length+1:=by rw[ak,aJ]
   have hp:atI l (dQ .i64 ((c++[p]).length:Int) 1) iU=p:=by
    rw[hab,aZ,List.singleton_append]
    refine Qz c (t::b) p _ ?_
    rw[ak,aJ,dG (by omega) (by omega)];omega
   refine T.grd (by rw[lg,bT,dG (by omega) (by omega)];left;omega) (T.ct (by rw[bS];omega) ?_)
   rw[hp]
   refine T.aN (b6Q p t) ?_
   have hs:∀x,apt p t=x->Jr none (c++[p]++[t])=Jr none (c++[p])++(cond x [32] []++aY (tT t)):=λx hx=>by
    rw[SG,Pz];show _++(cond (apt p t) [32] []++_)=_;rw[hx]
   refine T.cnd (λh3=>?_) (λh3=>?_)
   .refine T.aN (a7d _ _ (by omega)) (T.aN (str_eq _ _ (by rw[ak,aJ];omega) (by dsimp only;omega)) (nx _ ?_))
    rw[hs true h3,aZ];rfl
   .refine T.aN (str_eq _ _ (by omega) (by dsimp only;omega)) (nx _ ?_)
    rw[hs false h3];rfl
 .obtain rfl:b=[]:=bC.1 (by omega)
  rw[cu]at hab
  subst hab
  refine T.kW ?_
  unfold m71
  refine T.bind (T.ret (T.cnd (λh2=>T.ret ?_) (λh2=>?_)))<;>simp only[bS,cO,aW]at h2
  .rw[if_pos (by omega)]
  .rw[if_neg (by omega)]
   unfold YA
   exact T.bind (T.ret (T.ret rfl))
theorem EA{s:ByteArray}{x y:List Int}{c:Int}(hb:aY s=x++c::y){k:Int}(hk:k=(x.length:Int)):sAt s k=c:=by
 subst hk
 rw[Db,hb,bB,aO (aS _),qJ];rfl
theorem Kr{s:ByteArray}{u w r:List Int}(hb:aY s=u++(w++r)){i j:Int}(hi:i=(u.length:Int))(hj:j=((u.length+w.length:Nat):Int)):aY (lu i j s)=w:=by
 subst hi hj
 rw[Zq,hb,<- aZ,q9 (by rw[ak];exact aS _),eF (by rw[ak];exact aS _),List.drop_left]
def Stop(p:Int->Bool)(r:List Int):Prop:=∀c∈r.head?,p c=false
theorem NY(f:Int->Option (Bool×Unit))(p:Int->Bool)(hf:∀c,f c=some (p c,())){s:ByteArray}(hs:s.size<=100000){u w r:List Int}(hb:aY s=u++(w++r))(hw:∀c∈w,p c=true)(hr:Stop p r){i:Int}(hi:i=(u.length:Int)):bK (S:=ByteArray×Int×Unit×Unit) (R:=Int×Unit) (λq=>cond (or (bnd q.2.1 (sLen q.1)) (not (bEq (iLt q.2.1 (sLen q.1)) true))) (cond (iLt q.2.1 (sLen q.1)) ((f (sAt q.1 q.2.1)).bind λy=>cond y.1 (some (.inl (q.1,aR .i64 q.2.1 1,q.2.2.1,()))) (some (.inr (q.2.1,())))) (some (.inr (q.2.1,())))) none) (s,i,(),())=some (((u.length+w.length:Nat):Int),()):=by
 refine T.eq ?_
 have hl:=oW s
 have hz:s.size=u.length+(w.length+r.length):=by rw[<- iH,hb,ak,ak]
 refine T.loop (λq=>∃a b,w=a++b/\q=(s,((u.length+a.length:Nat):Int),(),())) (λq=>s.size-q.2.1.toNat) ⟨[],w,rfl,by rw[hi];rfl⟩ ?_
 rintro _ ⟨a,b,rfl,rfl⟩
 dsimp only
 rw[ak]at hz
 have at_:∀c y,b++r=c::y->sAt s ((u.length+a.length:Nat):Int)=c:=λc y e=>EA (x:=u++a) (y:=y) (by rw[hb,aZ,e,aZ]) (by rw[ak])
 cases b with
 |cons c b =>
  rw[aL]at hz
  refine T.grd (by rw[lg,bT];left;omega) (T.ct (by rw[bS];omega) (T.aN (hf _) ?_))
  rw[at_ c (b++r) rfl]
  refine T.ct (hw c (by simp)) (T.go ⟨a++[c],b,by rw[aZ];rfl,?_⟩ ?_)
  .rw[bf (by omega) (by omega),ak,aJ];rfl
  .dsimp only;rw[bf (by omega) (by omega)];omega
 |nil =>
  rw[dS]at hz
  cases r with
  |nil =>
   rw[dS]at hz
   refine T.grd (by rw[lg,gJ,Qy,cO];right;omega) (T.cf (by rw[cO];omega) (T.out ?_))
   rw[cu]
  |cons c r =>
   rw[aL]at hz
   refine T.grd (by rw[lg,bT];left;omega) (T.ct (by rw[bS];omega) (T.aN (hf _) ?_))
   rw[at_ c r rfl]
   refine T.cf (hr c rfl) (T.out ?_)
   rw[cu]
def vl(ds:List Int):Int:=ds.foldl (λa c=>a*10+(c-48)) 0
theorem ER(ds:List Int)(c:Int):vl (ds++[c])=vl ds*10+(c-48):=by unfold vl;rw[iR];rfl
theorem a4V(u:Nat):vl (jw u)=(u:Int):=by
 induction u using Nat.strongRecOn with
 |ind u ih =>
  by_cases h:u<10
  .rw[qC h];unfold vl;show(0:Int)*10+(48+(u:Int)-48)=_;omega
  .rw[xP (by omega),ER,ih (u/10) (by omega)];omega
theorem Zf{u:Nat}{c:Int}(h:c∈jw u):48<=c/\c<=57:=by
 have:=D9 (x:=u) (m:=1) c (by rw[a6R];exact h)
 unfold iq at this;rwa [dx,eG,eG]at this
theorem FD:∀(b:List Int) (a:Int),0<=a->(∀c∈b,48<=c)->a<=b.foldl (λa c=>a*10+(c-48)) a
 |[],a,_,_=>mU _
 |c::b,a,h,hb=>by
  have:=hb c (by simp)
  have:=FD b (a*10+(c-48)) (by omega) λd hd=>hb d (by simp[hd])
  rw[eX];omega
theorem Lm(d:ByteArray)(ng:Bool){u:Nat}(hd:aY d=jw u)(hu:u<=17592186044416):bK (S:=Bool×ByteArray×Int×Int×Int×Unit) (R:=Int×Int×Unit) (λq=>cond (iLt q.2.2.2.2.1 q.2.2.2.1) (cond (bnd q.2.2.2.2.1 (sLen q.2.1)) (cond (iLt 17592186044416 (aR .i64 (vE .i64 q.2.2.1 10) (IntKind.wrap .i64 (dQ .u8 (sAt q.2.1 q.2.2.2.2.1) 48)))) (some (.inr (0,1,()))) (some (.inl (q.1,q.2.1,aR .i64 (vE .i64 q.2.2.1 10) (IntKind.wrap .i64 (dQ .u8 (sAt q.2.1 q.2.2.2.2.1) 48)),q.2.2.2.1,aR .i64 q.2.2.2.2.1 1,())))) none) (Option.map Sum.inr (cond q.1 (some (Gz .i64 q.2.2.1,0,())) (some (q.2.2.1,0,()))))) (ng,d,0,sLen d,0,())=some (cond ng (-(u:Int)) u,0,()):=by
 refine T.eq ?_
 have hl:=oW d
 have hz:d.size=(jw u).length:=by rw[<- iH,hd]
 have hs:=tC 14 u (by omega)
 have c1u:d.size<=14:=by omega
 refine T.loop (λq=>∃a b,jw u=a++b/\q=(ng,d,vl a,sLen d,(a.length:Int),())) (λq=>d.size-q.2.2.2.2.1.toNat) ⟨[],jw u,rfl,rfl⟩ ?_
 rintro _ ⟨a,b,hab,rfl⟩
 dsimp only
 have hD:∀c∈a++b,48<=c/\c<=57:=λc hc=>Zf (by rw[hab];exact hc)
 have hv:=a4V u
 rw[hab,ak]at hz
 have h0:0<=vl a:=FD a 0 (mU _) λc hc=>(hD c (by simp[hc])).1
 cases b with
 |cons c b =>
  rw[aL]at hz
  have hc:=hD c (by simp)
  have h1:vl a*10+(c-48)<=u:=by
   rw[<- hv,hab,<- ER,show a++c::b=(a++[c])++b by simp]
   unfold vl
   rw[iR (l':=b)]
   exact FD b _ (FD (a++[c]) 0 (mU _) λx hx=>(hD x (by rcases aG.1 hx with q|q;simp[q];simp at q;simp[q])).1) λx hx=>(hD x (by simp[hx])).1
  refine T.ct (by rw[bS];omega) (T.grd (by rw[bT];omega) ?_)
  rw[EA (hd.trans hab) rfl]
  have e1:IntKind.wrap .i64 (dQ .u8 c 48)=c-48:=by
   rw[show dQ .u8 c 48=c-48 from a3H (by omega) (by omega)];exact wrap64 (by omega) (by omega)
  have e2:aR .i64 (vE .i64 (vl a) 10) (c-48)=vl (a++[c]):=by rw[ER,IY (by omega) (by omega),bf (by omega) (by omega)]
  rw[e1,e2]
  refine T.cf (by rw[cO,ER];omega) (T.go ⟨a++[c],b,by rw[hab];simp,?_⟩ ?_)
  .rw[bf (by omega) (by omega),ak];rfl
  .dsimp only;rw[bf (by omega) (by omega)];omega
 |nil =>
  rw[cu]at hab
  rw[dS]at hz
  rw[hab]at hv
  refine T.cf (by rw[cO];omega) (T.kW ?_)
  rw[hv]
  cases ng with
  |true=>exact T.ct rfl (T.ret (by rw[b2y (by omega) (by omega)];rfl))
  |false=>exact T.cf rfl (T.ret rfl)
theorem Sl(u:Nat):0<u->49<=(jw u).getD 0 0:=by
 induction u using Nat.strongRecOn with
 |ind u ih =>
  intro h0
  by_cases h:u<10
  .rw[qC h];simp;omega
  .have:=ih (u/10) (by omega) (by omega)
   have:=(BJ (u/10)).2.2
   rw[xP (by omega),bB,au (by omega),<- bB];assumption
theorem Rm{s:ByteArray}(h:1<=s.size):sEq s (bs [])=false:=by
 rw[EX];rintro rfl;exact absurd h (by decide)
theorem b5L(n:Int)(h0:-17592186044416<=n)(h1:n<=17592186044416):UJ (jd n)=some (n,0,()):=by
 have hi:=xM n
 have hl:=oW (jd n)
 have hz:=iH (jd n)
 have a0:=Db (jd n) 0
 refine T.eq ?_
 unfold UJ
 by_cases hn:n<0
 .rw[if_pos hn]at hi
  rw[hi]at a0 hz
  have a0:sAt (jd n) 0=45:=a0
  rw[aL]at hz
  have hc:aY (lu 1 ((jd n).size:Int) (jd n))=jw n.natAbs:=Kr (u:=[45]) (r:=[]) (by rw[hi,cu];rfl) rfl (by rw[aJ];omega)
  have hd:=BJ n.natAbs
  have hnz:=Sl n.natAbs (by omega)
  have b0:=Db (lu 1 ((jd n).size:Int) (jd n)) 0
  have hzc:=iH (lu 1 ((jd n).size:Int) (jd n))
  have hlc:=oW (lu 1 ((jd n).size:Int) (jd n))
  rw[hc]at b0 hzc
  have b0:sAt (lu 1 ((jd n).size:Int) (jd n)) 0=(jw n.natAbs).getD 0 0:=b0
  have lp:=Lm _ true hc (by omega)
  refine T.grd (by rw[bT];omega) (T.ct (by rw[kg];exact a0) (T.grd (by rw[nS];omega) ?_))
  rw[Rm (by omega)]
  refine T.grd (by rw[lg,bT];left;omega) (T.cf rfl (T.cf (by rw[dI];omega) ?_))
  rw[a0,show iEq (45:Int) 45=true from rfl]
  exact T.of lp (dn (·,0,()) (by show -((n.natAbs:Nat):Int)=n;omega))
 .rw[if_neg hn]at hi
  rw[hi]at a0 hz
  have a0:sAt (jd n) 0=(jw n.toNat).getD 0 0:=a0
  have hd:=BJ n.toNat
  have lp:=Lm _ false hi (by omega)
  have lp:=T.of (Q:=λx=>x=(n,0,())) lp (dn (λz:Int=>(z,(0:Int),())) (show((n.toNat:Nat):Int)=n by omega))
  have e45:iEq (sAt (jd n) 0) 45=false:=by rw[dI];omega
  refine T.grd (by rw[bT];omega) (T.cf e45 ?_)
  rw[Rm (by omega),e45]
  refine T.grd (by rw[lg,bT];left;omega) (T.cf rfl (T.cnd (λq=>T.cf ?_ lp) (λ_=>lp)))
  rw[kg]at q
  have:n.toNat=0:=by
   rcases eD n.toNat with r|r
   .exact r
   .have:=Sl n.toNat r;omega
  rw[this,qC (by omega)]at hz
  rw[lH,cO]
  exact⟨rfl,by simp at hz;omega⟩
theorem NR{c:Int}(h:p9 c=false):isLet c=false/\iq c=false/\¬c=45:=by
 unfold p9 at h
 simp only[b0j,dI]at h
 exact⟨h.1.1,h.1.2,h.2⟩
theorem Stop.dig{r:List Int}(h:Stop p9 r):Stop iq r:=λc hc=>(NR (h c hc)).2.1
theorem a3m{s:ByteArray}(h:H7 s=true):∀c∈aY s,p9 c=true:=λc hc=>by
 obtain⟨k,hk,rfl⟩:=List.getElem_of_mem hc
 rw[Zp]
 rw[iH]at hk
 exact aD.1 h k (bL.2 hk)
theorem b1I{c:List UInt8}(h:c∈mkL):∃u:UInt8,c=[u]/\isLet (u.toNat:Int)=false/\iq (u.toNat:Int)=false/\¬(u.toNat:Int)=45/\¬(u.toNat:Int)=64/\¬(u.toNat:Int)=32/\¬(u.toNat:Int)=10/\¬(u.toNat:Int)=35/\Em (u.toNat:Int)=some (true,()):=by
 simp only[mkL,bD,bJ,or_false]at h
 rcases h with rfl|rfl|rfl|rfl|rfl<;>exact⟨_,rfl,rfl,rfl,by decide,by decide,by decide,by decide,by decide,rfl⟩
def Di(r:List Int):Prop:=∀c∈r.head?,p9 c=false/\iEq c 84=false
theorem b6l{c:Int}(h:p9 c=false/\iEq c 84=false):CP c=false:=by
 obtain⟨_,a,b⟩:=NR h.1
 unfold CP;rw[a,h.2,show iEq c 45=false by rw[dI];exact b];rfl
theorem b2C(c:Int):Pq c=some (CP c,()):=by
 unfold Pq
 rw[show zR c=some (iq c,()) from D8 c]
 show some (cond (cond (iq c) true (iEq c 45)) true (iEq c 84),())=_
 unfold CP
 cases iq c<;>cases iEq c 45<;>rfl
theorem a4X{t:ay}(h:iw t){s:ByteArray}(hs:s.size<=100000){u r:List Int}(hb:aY s=u++(aY (tT t)++r))(hr:t.1=4\/Di r) :
  m79 s (u.length:Int)=some ((t.1,t.2.1,t.2.2.1,(u.length:Int),()),((u.length+(tT t).size:Nat):Int),0,())/\(1<=(tT t).size/\¬sAt s (u.length:Int)=32/\¬sAt s (u.length:Int)=10/\¬sAt s (u.length:Int)=35):=by
 have hl:=oW s
 have hz:s.size=u.length+((tT t).size+r.length):=by rw[<- iH,hb,ak,ak,iH]
 have hwl:=iH (tT t)
 have cut:∀j:Int,j=((u.length+(tT t).size:Nat):Int)->lu (u.length:Int) j s=tT t:=λj hj=>Qx (Kr hb rfl (by rw[hwl];exact hj))
 have hall:=(wU h).2
 have hr:t.1=4\/(Stop p9 r/\Stop CP r):=hr.imp id λq=>⟨λc hc=>(q c hc).1,λc hc=>b6l (q c hc)⟩
 have first:∀{c:Int} {y:List Int},aY (tT t)=c::y->sAt s (u.length:Int)=c:=fun{c y} e=>EA (y:=y++r) (by rw[hb,e];rfl) rfl
 obtain⟨c,y,e⟩:∃c y,aY (tT t)=c::y/\1<=(tT t).size:=by
  have h1:1<=(tT t).size:=by
   rcases h with⟨k,k2,_⟩|⟨k,_⟩|⟨k,_⟩|⟨k,_,c,hc,hcs⟩
   .rcases hall with⟨q,_⟩|⟨q,_⟩|⟨_,q⟩
    .omega
    .omega
    .rw[q];exact(NP k2).1.1
   .rcases hall with⟨_,q⟩|⟨q,_⟩|⟨q,_⟩
    .rw[q,<- iH,xM]
     split
     .rw[aL];omega
     .exact(BJ _).2.2
    .omega
    .omega
   .rcases hall with⟨q,_⟩|⟨_,q⟩|⟨q,_⟩
    .omega
    .rw[q,vG];exact rG 1 _
    .omega
   .rcases hall with⟨q,_⟩|⟨q,_⟩|⟨_,q⟩
    .omega
    .omega
    .obtain⟨v,rfl,_⟩:=b1I hc
     rw[q,hcs];exact aS _
  cases e:aY (tT t) with
  |nil=>rw[e]at hwl;simp at hwl;omega
  |cons c y=>exact⟨c,y,rfl,h1⟩
 obtain⟨e,h1⟩:=e
 have f:=first e
 have a0:sAt (tT t) 0=c:=by have:=Db (tT t) 0;rw[e]at this;exact this
 rcases h with⟨k,k2,k3⟩|⟨k,k2,k3,k4⟩|⟨k,k2,k3,k4⟩|⟨k,k2,d,hd,hds⟩
 .have q:tT t=t.2.1:=by rcases hall with⟨q,_⟩|⟨q,_⟩|⟨_,q⟩;omega;omega;exact q
  obtain⟨w1,w2,w3⟩:=NP k2
  rw[<- q]at w2 w3
  refine⟨T.eq ?_,h1,by omega,by omega,by omega⟩
  unfold m79
  refine T.grd (by rw[bT];omega) (T.aN (Ak _) (T.ct ?_ (T.aN (NY Pt p9 a3G hs hb (a3m w3) (hr.resolve_left (by omega)).1 rfl) ?_)))
  .show isLet (sAt s (u.length:Int))=true
   rw[f,<- a0]
   unfold lS at k2;split at k2
   .cases k2
   .simp only[dx]at k2;rw[q];exact k2.1.1
  rw[hwl]
  dsimp only
  rw[cut _ rfl]
  refine T.grd (by rw[nS];omega) (T.aN (NK _) ?_)
  rw[q,k2]
  exact T.cf rfl (T.grd (by rw[nS];rw[<- q];omega) (T.ret (by rw[k,k3])))
 .have q:tT t=jd t.2.2.1:=by rcases hall with⟨_,q⟩|⟨q,_⟩|⟨q,_⟩;exact q;omega;omega
  have ha:=a6u t.2.2.1
  rw[<- q,a0]at ha
  have hy:∀x∈y,iq x=true:=λx hx=>by
   have hi:=xM t.2.2.1
   rw[<- q,e]at hi
   have:x∈jw t.2.2.1.natAbs\/x∈jw t.2.2.1.toNat:=by
    split at hi
    .left;rw[<- (List.cons.inj hi).2];exact hx
    .right;rw[<- hi];exact bG _ hx
   unfold iq;rw[dx,eG,eG]
   rcases this with r|r<;>exact Zf r
  refine⟨T.eq ?_,h1,by omega,by omega,by omega⟩
  unfold m79
  rw[f]
  have hyl:y.length+1=(tT t).size:=by rw[<- hwl,e,aL]
  refine T.grd (by rw[bT];omega) (T.aN (Ak _) (T.cf ?_ (T.aN (show zR c=some (iq c,()) from D8 c) (T.ct ?_ (T.aN (NY zR iq D8 (u:=u++[c]) hs (by rw[hb,e];simp) hy (hr.resolve_left (by omega)).1.dig (by rw[bf (by omega) (by omega),ak,aJ];rfl)) ?_)))))
  .show isLet c=false
   unfold isLet;rw[qj,jZ];omega
  .show cond (iq c) true (iEq c 45)=true
   rw[mE,kg];unfold iq;rw[dx,eG,eG];omega
  rw[ak,aJ,show u.length+1+y.length=u.length+(tT t).size by omega]
  dsimp only
  rw[cut _ rfl]
  refine T.grd (by rw[nS];omega) ?_
  rw[q]
  exact T.aN (b5L _ k3 k4) (T.cf rfl (T.ret (by rw[k,k2])))
 .have q:tT t=iJ (bs [64]) (hrB t.2.2.1):=by rcases hall with⟨q,_⟩|⟨_,q⟩|⟨q,_⟩;omega;exact q;omega
  obtain⟨_,hp,hhr,_⟩:=a2l k3 k4
  have hby:aY (tT t)=64::aY (hrB t.2.2.1):=by rw[q,EC];rfl
  obtain rfl:c=64:=(List.cons.inj (e.symm.trans hby)).1
  have hzz:(tT t).size=(aY (hrB t.2.2.1)).length+1:=by rw[<- iH,hby,aL]
  refine⟨T.eq ?_,h1,by omega,by omega,by omega⟩
  unfold m79
  rw[f]
  refine T.grd (by rw[bT];omega) (T.aN (Ak _) (T.cf rfl (T.aN (show zR 64=some (iq 64,()) from D8 64) (T.cf rfl (T.ct rfl (T.aN (NY Pq CP b2C (u:=u++[64]) (w:=aY (hrB t.2.2.1)) hs (by rw[hb,hby];simp) hhr (hr.resolve_left (by omega)).2 (by rw[bf (by omega) (by omega),ak,aJ];rfl)) ?_))))))
  rw[ak,aJ,show u.length+1+(aY (hrB t.2.2.1)).length=u.length+(tT t).size by omega,bf (by omega) (by omega)]
  dsimp only
  have hc:lu ((u.length:Int)+1) ((u.length+(tT t).size:Nat):Int) s=hrB t.2.2.1:=Qx (Kr (u:=u++[64]) (r:=r) (by rw[hb,hby];simp) (by rw[ak];rfl) (by rw[ak,aJ];omega))
  rw[hc]
  exact T.grd (by rw[nS];omega) (T.aN hp (T.cf rfl (T.ret (by rw[k,k2]))))
 .have q:tT t=t.2.1:=by rcases hall with⟨q,_⟩|⟨q,_⟩|⟨_,q⟩;omega;omega;exact q
  obtain⟨v,rfl,n1,n2,n3,n4,n5,n6,n7,n8⟩:=b1I hd
  have hc:c=(v.toNat:Int):=by rw[q,hds]at a0;exact a0.symm
  subst hc
  have hsz:(tT t).size=1:=by rw[q,hds];rfl
  refine⟨T.eq ?_,h1,by rw[f];exact n5,by rw[f];exact n6,by rw[f];exact n7⟩
  unfold m79
  rw[f]
  refine T.grd (by rw[bT];omega) (T.aN (Ak _) (T.cf n1 (T.aN (show zR _=some (iq _,()) from D8 _) (T.cf (by rw[lH,dI];exact⟨n2,n3⟩) (T.cf (by rw[dI];exact n4) (T.aN n8 (T.ct rfl ?_)))))))
  rw[bf (by omega) (by omega),cut _ (by rw[hsz];rfl)]
  exact T.grd (by rw[nS];omega) (T.ret (by rw[hsz,q,k,k2];rfl))
def strip(t:ay):Int×ByteArray×Int:=(t.1,t.2.1,t.2.2.1)
inductive Sc:List Int->List ay->Prop
 |nil:Sc [] []
 |sp {c r l} (h:c=32\/c=10) (r':Sc r l):Sc (c::r) l
 |tk {t r l} (h:iw t) (hs:t.1=4\/Di r) (r':Sc r l):Sc (aY (tT t)++r) (t::l)
theorem a5b{p t:ay}(hp:¬p.1=4)(h:iw t)(r:List Int):Di (sp (some p) t++(aY (tT t)++r)):=λc hc=>by
 have hc:c∈(cond (apt p t) [32] []++(aY (tT t)++r)).head?:=hc
 unfold apt at hc
 rw[show iEq p.1 4=false by rw[dI];exact hp]at hc
 by_cases q:t.1=4
 .rcases h with⟨k,_⟩|⟨k,_⟩|⟨k,_⟩|⟨_,k2,d,hd,hds⟩
  .omega
  .omega
  .omega
  have e:tT t=t.2.1:=by rcases(wU (.inr (.inr (.inr ⟨q,k2,d,hd,hds⟩)))).2 with⟨q,_⟩|⟨q,_⟩|⟨_,q⟩;omega;omega;exact q
  rw[e,hds]at hc
  simp only[mkL,bD,bJ,or_false]at hd
  cases hx:cond (iNe t.1 4) true (sEq t.2.1 (bs [40]))<;>rw[hds]at hx<;>simp only[mO,hx,qR]at hc
  .rcases hd with rfl|rfl|rfl|rfl|rfl<;>(cases hc;exact⟨rfl,rfl⟩)
  .cases hc;exact⟨rfl,rfl⟩
 .rw[show iNe t.1 4=true by rw[mM];exact q]at hc
  cases hc;exact⟨rfl,rfl⟩
theorem VR:∀(l:List ay) (p:Option ay) {r:List Int} {m:List ay},(∀t∈l,iw t)->Sc r m->Di r->Sc (Jr p l++r) (l++m)
 |[],_,_,_,_,h,_=>h
 |t::l,p,r,m,ok,h,hr=>by
  have okl:∀u∈l,iw u:=λu hu=>ok u (bG _ hu)
  have k:Sc (aY (tT t)++(Jr (some t) l++r)) (t::(l++m)):=.tk (ok t bY) (by
   by_cases q:t.1=4
   .exact .inl q
   .refine .inr ?_
    cases l with
    |nil=>exact hr
    |cons u l =>
     show Di ((sp (some t) u++(aY (tT u)++Jr (some u) l))++r)
     rw[aZ,aZ]
     exact a5b q (okl u bY) _) (VR l (some t) okl h hr)
  show Sc ((sp p t++(aY (tT t)++Jr (some t) l))++r) _
  rw[aZ,aZ]
  unfold sp
  cases spc p t with
  |true=>exact .sp (.inl rfl) k
  |false=>exact k
theorem X3{s:ByteArray}{l:List ay}(h:Sc (aY s) l)(h1:l.length<=4000)(h2:s.size<=16384):T (m45 s) (λy=>y.2.1=0/\y.2.2.1=0/\y.1.map strip=l.map strip):=by
 have hl:=oW s
 have hz:=iH s
 unfold m45
 refine T.cf (by rw[cO];omega) ?_
 refine T.loop (λq=>∃a b u v toks,l=a++b/\toks.map strip=a.map strip/\aY s=u++v/\Sc v b/\q=(s,(u.length:Int),toks,())) (λq=>s.size-q.2.1.toNat) ⟨[],l,[],_,[],rfl,rfl,rfl,h,rfl⟩ ?_
 rintro _ ⟨a,b,u,v,toks,hab,ht,huv,hv,rfl⟩
 dsimp only
 have hzu:s.size=u.length+v.length:=by rw[<- hz,huv,ak]
 have hla:l.length=a.length+b.length:=by rw[hab,ak]
 have htl:toks.length=a.length:=by have:=dn List.length ht;simpa using this
 cases hv with
 |nil =>
  rw[cu]at hab
  rw[dS]at hzu
  exact T.cf (by rw[cO];omega) (T.out ⟨rfl,rfl,by rw[ht,hab]⟩)
 |@sp c r b hc r' =>
  rw[aL]at hzu
  have at_:sAt s (u.length:Int)=c:=EA huv rfl
  have go:T (some (Sum.inl (β:=List ay×Int×Int×Unit) (s,aR .i64 (u.length:Int) 1,toks,()))) (LQ (λq=>∃a b u v toks,l=a++b/\toks.map strip=a.map strip/\aY s=u++v/\Sc v b/\q=(s,(u.length:Int),toks,())) (λq=>s.size-q.2.1.toNat) (s.size-(u.length:Int).toNat) (λy=>y.2.1=0/\y.2.2.1=0/\y.1.map strip=l.map strip)):=by
   refine T.go ⟨a,b,u++[c],r,toks,hab,ht,by rw[huv];simp,r',?_⟩ ?_
   .rw[bf (by omega) (by omega),ak];rfl
   .dsimp only;rw[bf (by omega) (by omega)];omega
  refine T.ct (by rw[bS];omega) (T.grd (by rw[bT];omega) ?_)
  rw[at_]
  rcases hc with rfl|rfl
  .exact T.ct rfl go
  .exact T.cf rfl (T.ct rfl go)
 |@tk t r b okt hst r' =>
  obtain⟨e1,e2,e3,e4,e5⟩:=a4X okt (by omega) huv hst
  rw[ak,iH]at hzu
  rw[aL]at hla
  refine T.ct (by rw[bS];omega) (T.grd (by rw[bT];omega) (T.cf (by rw[dI];exact e3) (T.cf (by rw[dI];exact e4) (T.cf (by rw[dI];exact e5) (T.aN e1 (T.cf rfl (T.cf (by rw[dI,aW];omega) (T.grd (by rw[jD,aJ];omega) ?_))))))))
  dsimp only
  have fin:T (some (Sum.inl (β:=List ay×Int×Int×Unit) (s,((u.length+(tT t).size:Nat):Int),toks++[(t.1,t.2.1,t.2.2.1,(u.length:Int),())],()))) (LQ (λq=>∃a b u v toks,l=a++b/\toks.map strip=a.map strip/\aY s=u++v/\Sc v b/\q=(s,(u.length:Int),toks,())) (λq=>s.size-q.2.1.toNat) (s.size-(u.length:Int).toNat) (λy=>y.2.1=0/\y.2.2.1=0/\y.1.map strip=l.map strip)):=by
   refine T.go ⟨a++[t],b,u++aY (tT t),r,toks++[(t.1,t.2.1,t.2.2.1,(u.length:Int),())],by rw[hab];simp,by simp only[aU,ht];rfl,by rw[huv,aZ],r',by rw[ak,iH]⟩ ?_
   dsimp only;omega
  by_cases k2:t.1=2/\u.length+(tT t).size<s.size
  .have hs:=hst.resolve_left (by omega)
   obtain⟨c,y,rfl⟩:∃c y,r=c::y:=by
    cases r with
    |nil=>rw[dS]at hzu;omega
    |cons c y=>exact⟨c,y,rfl⟩
   have hc:=NR (hs c rfl).1
   have hat:sAt s ((u.length+(tT t).size:Nat):Int)=c:=EA (x:=u++aY (tT t)) (y:=y) (by rw[huv,aZ]) (by rw[ak,iH])
   rw[hat]
   refine T.grd (by rw[lg,bT];left;omega) (T.ct (by rw[qE,kg,bS];omega) (T.aN (Ak c) (T.grd (by rw[lg,bT];left;omega) (T.cf (by rw[lH,dI];exact⟨hc.1,hc.2.2⟩) fin))))
  ·have g:cond (iEq t.1 2) (iLt ((u.length + (tT t).size:Nat):Int) (sLen s)) false=false:=by
    rw[rT,dI,cO]
    by_cases q:t.1=2
    .right;omega
    .exact .inl q
   rw[g]
   exact T.grd (by rw[lg];right;rfl) (T.cf rfl fin)
theorem X0(l:List ay)(ok:∀t∈l,iw t/\¬t.1=3)(h1:l.length<=4000)(h2:(Jr none l).length<=16384):T (m45 (bsI (Jr none l))) (λy=>y.2.2.1=0/\y.1.map strip=l.map strip):=by
 have hb:aY (bsI (Jr none l))=Jr none l:=Jc (EK l none λt ht=>(ok t ht).1).2
 have hs:=VR l none (λt ht=>(ok t ht).1) .nil (λc hc=>by cases hc)
 rw[cu,cu,<- hb]at hs
 exact(X3 hs h1 (by rw[<- iH,hb];exact h2)).mono λy hy=>hy.2
def nmT(s:ByteArray):ay:=(1,s,0,0,())
def mkT(s:ByteArray):ay:=(4,s,0,0,())
def nuT(n:Int):ay:=(2,bs [],n,0,())
section
variable{α:Type}
def gD(s:List ay)(f:α->List ay):Bool->List α->List ay
 |_,[]=>[]
 |b,x::l=>cond b s []++(f x++gD s f true l)
theorem Rl(s:List ay)(f:α->List ay):∀(a:List α) (x:α) (b:Bool),gD s f b (a++[x])=gD s f b a++(cond (b||iLt 0 (a.length:Int)) s []++f x)
 |[],x,b=>by
  show cond b s []++(f x++[])=_
  rw[cu,show iLt 0 (([]:List α).length:Int)=false from rfl,Bool.or_false];rfl
 |y::a,x,b=>by
  show cond b s []++(f y++gD s f true (a++[x]))=(cond b s []++(f y++gD s f true a))++_
  rw[Rl s f a x true,show iLt 0 ((y::a).length:Int)=true by rw[bS,aL];omega,Bool.true_or,Bool.or_true,aZ,aZ]
theorem zF(s:List ay)(f:α->List ay)(a:List α)(x:α):gD s f false (a++[x])=gD s f false a++(cond (iLt 0 (a.length:Int)) s []++f x):=Rl s f a x false
theorem Bu{P:ay->Prop}{s:List ay}{f:α->List ay}(hs:∀t∈s,P t):∀(l:List α) (b:Bool),(∀x∈l,∀t∈f x,P t)->∀t∈gD s f b l,P t
 |[],_,_=>λt ht=>by cases ht
 |x::l,b,h=>λt ht=>by
  rcases aG.1 ht with q|q
  .cases b with
   |true=>exact hs t q
   |false=>cases q
  .rcases aG.1 q with q|q
   .exact h x (by simp) t q
   .exact Bu hs l true (λy hy=>h y (by simp[hy])) t q
theorem zn{s:List ay}{f:α->List ay}{g:α->Nat}:∀(l:List α) (b:Bool),(∀x∈l,s.length+(f x).length<=g x)->(gD s f b l).length<=(l.map g).sum
 |[],_,_=>bN _
 |x::l,b,h=>by
  have h1:=h x (by simp)
  have h2:=zn l true λy hy=>h y (by simp[hy])
  show(cond b s []++(f x++gD s f true l)).length<=_
  rw[ak,ak,bg,fM]
  have:(cond b s ([]:List ay)).length<=s.length:=by cases b<;>simp
  omega
end
def kV(op o:Int)(l:List ay):List ay:=cond (cond (iEq o 8) true (cond (iEq o 7) (iNe op 8) false)) (mkT (bs [40])::(l++[mkT (bs [41])])) l
def nD(ws:List ByteArray):List ay:=gD [mkT (bs [44])] (λw=>[nmT w]) false ws
def iV:Nat->DS0->List ay
 |0,_=>[]
 |k+1,e=>cond (iEq e.1 1) [nmT (bs [116,114,117,101])] (cond (iEq e.1 2) [nmT (bs [102,97,108,115,101])] (cond (iEq e.1 3) [nmT e.2.1] (cond (iEq e.1 4) ([nmT e.2.1,nmT (bs [105,110]),mkT (bs [40])]++(nD e.2.2.1++[mkT (bs [41])])) (cond (iEq e.1 5) [nmT e.2.1,nmT (bs [102,114,111,109]),nuT e.2.2.2.1,nmT (bs [116,111]),nuT e.2.2.2.2.1]
  (cond (iEq e.1 6) [nmT (bs [110,111,116])] []++gD [nmT (cond (iEq e.1 7) (bs [97,110,100]) (bs [111,114]))] (λa=>kV e.1 (aQ a).1 (iV k (aQ a))) false (show List AV from e.2.2.2.2.2.1))))))
theorem zN{op:Int}{nm:ByteArray}{ws:List ByteArray}{lo hi:Int}{l:List AV}(h:qY (op,nm,ws,lo,hi,l,())=true):(1<=op/\op<=8)/\(op=3\/op=4\/op=5->lS nm=true)/\(op=4->ws.length<=12/\∀w∈ws,lS w=true)/\(op=5->-1000000000<=lo/\lo<=1000000000/\-1000000000<=hi/\hi<=1000000000)/\(op=6->l.length=1)/\(op<=5->l=[]):=by
 unfold qY at h
 simp only[dx,eG]at h
 obtain⟨h1,h2,h3,h4,h5,h6⟩:=h
 have nw:∀{s:ByteArray},dR s=true->lS s=true:=λq=>(dx.mp q).1
 refine⟨⟨h1,h2⟩,?_,?_,?_,?_,?_⟩
 .rintro(rfl|rfl|rfl)<;>exact nw h3
 .rintro rfl
  have h4:rO ws=true:=h4
  unfold rO at h4
  simp only[dx,eT]at h4
  exact⟨h4.1.2,λw hw=>nw (aD.1 h4.2.1 w hw)⟩
 .rintro rfl
  have h5:(iLe (-1000000000) lo&&(iLe lo 1000000000&&(iLe (-1000000000) hi&&(iLe hi 1000000000&&iLe lo hi))))=true:=h5
  simp only[dx,eG]at h5
  exact⟨h5.1,h5.2.1,h5.2.2.1,h5.2.2.2.1⟩
 .rintro rfl
  have h6:iEq (l.length:Int) 1=true:=h6
  rw[kg]at h6;omega
 .intro q
  have h6:iEq (l.length:Int) 0=true:=by
   have:op=1\/op=2\/op=3\/op=4\/op=5:=by omega
   rcases this with rfl|rfl|rfl|rfl|rfl<;>exact h6
  rw[kg]at h6
  exact bC.1 (by omega)
theorem F9{op:Int}{P:Prop}(h:1<=op/\op<=8)(h1:op=1->P)(h2:op=2->P)(h3:op=3->P)(h4:op=4->P)(h5:op=5->P)(h6:op=6->P)(h7:op=7\/op=8->P):P:=by
 have:op=1\/op=2\/op=3\/op=4\/op=5\/op=6\/op=7\/op=8:=by omega
 rcases this with q|q|q|q|q|q|q|q
 .exact h1 q
 .exact h2 q
 .exact h3 q
 .exact h4 q
 .exact h5 q
 .exact h6 q
 .exact h7 (.inl q)
 .exact h7 (.inr q)
theorem uf{s:ByteArray}(h:lS s=true):iw (nmT s)/\¬(nmT s).1=3:=⟨.inl ⟨rfl,h,rfl⟩,by show ¬(1:Int)=3;decide⟩
theorem qZ{c:List UInt8}(h:c∈mkL):iw (mkT (bs c))/\¬(mkT (bs c)).1=3:=⟨.inr (.inr (.inr ⟨rfl,rfl,c,h,rfl⟩)),by show ¬(4:Int)=3;decide⟩
theorem Uf{n:Int}(h0:-17592186044416<=n)(h1:n<=17592186044416):iw (nuT n)/\¬(nuT n).1=3:=⟨.inr (.inl ⟨rfl,rfl,h0,h1⟩),by show ¬(2:Int)=3;decide⟩
theorem MN{s:ByteArray}(h:lS s=true:=by rfl):iw (nmT s)/\¬(nmT s).1=3:=uf h
theorem G9(ws:List ByteArray):(nD ws).length<=2*ws.length:=by
 have h:=zn (s:=[mkT (bs [44])]) (f:=λw=>[nmT w]) (g:=λ_=>2) ws false (λ_ _=>by simp)
 have:∀l:List ByteArray,(l.map λ_=>2).sum=2*l.length:=λl=>by induction l with
  |nil=>rfl
  |cons a l ih=>rw[bg,fM,ih,aL];omega
 rw[this]at h;exact h
theorem JA(c:Nat){β:Type}(f:β->Nat):∀l:List β,(l.map λa=>c*f a).sum=c*(l.map f).sum
 |[]=>rfl
 |a::l=>by rw[bg,fM,JA c f l,bg,fM,Nat.mul_add]
theorem OD(op o:Int)(l:List ay):(kV op o l).length<=l.length+2:=by
 unfold kV;cases cond (iEq o 8) true (cond (iEq o 7) (iNe op 8) false)<;>simp
theorem ES:∀(k:Nat) (e:DS0),okE k e=true->(iV k e).length+3<=40*szE k e
 |0,e,h=>by cases h
 |k+1,(op,nm,ws,lo,hi,l,()),h=>by
  unfold okE at h
  rw[dx]at h
  obtain⟨hn,ha⟩:=h
  have ha:=aD.1 ha
  dsimp only at ha
  obtain⟨h18,_,hw,_,h6,_⟩:=zN hn
  have hp:=Bt (k+1) (op,nm,ws,lo,hi,l,())
  have hz:szE (k+1) (op,nm,ws,lo,hi,l,())=1+(List.map (λa=>szE k (aQ a)) l).sum:=rfl
  refine F9 h18 (λq=>?_) (λq=>?_) (λq=>?_) (λq=>?_) (λq=>?_) (λq=>?_) (λq=>?_)
  .subst q;show 1+3<=_;omega
  .subst q;show 1+3<=_;omega
  .subst q;show 1+3<=_;omega
  .subst q
   show([nmT nm,nmT (bs [105,110]),mkT (bs [40])]++(nD ws++[mkT (bs [41])])).length+3<=_
   have:=G9 ws
   have:=(hw rfl).1
   simp;omega
  .subst q;show 5+3<=_;omega
  all_goals
   have hs:∀s:List ay,s.length=1->(gD s (λa=>kV op (aQ a).1 (iV k (aQ a))) false l).length<=(l.map λa=>40*szE k (aQ a)).sum:=λs h1=>zn l false λa hm=>by
    have a1:=ES k _ (ha a hm)
    have a2:=OD op (aQ a).1 (iV k (aQ a))
    omega
   rw[JA 40]at hs
   rw[hz]
  .subst q
   show([nmT (bs [110,111,116])]++gD _ (λa=>kV 6 (aQ a).1 (iV k (aQ a))) false l).length+3<=_
   have:=hs [nmT (bs [111,114])] rfl
   rw[ak,aJ]
   exact bF (Nat.add_le_add_right (ow this _) _) (by omega)
  .have:iV (k+1) (op,nm,ws,lo,hi,l,())=gD [nmT (cond (iEq op 7) (bs [97,110,100]) (bs [111,114]))] (λa=>kV op (aQ a).1 (iV k (aQ a))) false l:=by rcases q with rfl|rfl<;>rfl
   rw[this]
   have:=hs [nmT (cond (iEq op 7) (bs [97,110,100]) (bs [111,114]))] rfl
   omega
theorem Wu:∀(k:Nat) (e:DS0),okE k e=true->∀t∈iV k e,iw t/\¬t.1=3
 |0,e,h=>by cases h
 |k+1,(op,nm,ws,lo,hi,l,()),h=>by
  unfold okE at h
  rw[dx]at h
  obtain⟨hn,ha⟩:=h
  have ha:=aD.1 ha
  dsimp only at ha
  obtain⟨h18,h3,hw,h5,h6,_⟩:=zN hn
  have one:∀{s:ByteArray},lS s=true->∀t∈[nmT s],iw t/\¬t.1=3:=λh t ht=>by rw[aV.1 ht];exact uf h
  refine F9 h18 (λq=>?_) (λq=>?_) (λq=>?_) (λq=>?_) (λq=>?_) (λq=>?_) (λq=>?_)
  .subst q;exact one rfl
  .subst q;exact one rfl
  .subst q;exact one (h3 (.inl rfl))
  .subst q
   intro t ht
   have ht:t∈[nmT nm,nmT (bs [105,110]),mkT (bs [40])]++(nD ws++[mkT (bs [41])]):=ht
   simp only[aG,bD,bJ,or_false]at ht
   rcases ht with(rfl|rfl|rfl)|q|rfl
   .exact uf (h3 (.inr (.inl rfl)))
   .exact MN
   .exact qZ (by simp[mkL])
   .exact Bu (P:=λt=>iw t/\¬t.1=3) (λu hu=>by rw[aV.1 hu];exact qZ (by simp[mkL])) ws false (λw hm=>one ((hw rfl).2 w hm)) t q
   .exact qZ (by simp[mkL])
  .subst q
   intro t ht
   have ht:t∈[nmT nm,nmT (bs [102,114,111,109]),nuT lo,nmT (bs [116,111]),nuT hi]:=ht
   obtain⟨a,b,c,d⟩:=h5 rfl
   simp only[bD,bJ,or_false]at ht
   rcases ht with rfl|rfl|rfl|rfl|rfl
   .exact uf (h3 (.inr (.inr rfl)))
   .exact MN
   .exact Uf (by omega) (by omega)
   .exact MN
   .exact Uf (by omega) (by omega)
  all_goals
   have hs:∀s:ByteArray,lS s=true->∀t∈gD [nmT s] (λa=>kV op (aQ a).1 (iV k (aQ a))) false l,iw t/\¬t.1=3:=λs h1=>Bu (one h1) l false λa hm t ht=>by
    have a1:=Wu k _ (ha a hm)
    unfold kV at ht
    cases hc:cond (iEq (aQ a).1 8) true (cond (iEq (aQ a).1 7) (iNe op 8) false)<;>rw[hc]at ht
    .exact a1 t ht
    .rcases bD.1 ht with rfl|q
     .exact qZ (by simp[mkL])
     .rcases aG.1 q with q|q
      .exact a1 t q
      .rw[aV.1 q];exact qZ (by simp[mkL])
  .subst q
   intro t ht
   rcases aG.1 (show t∈[nmT (bs [110,111,116])]++gD [nmT (bs [111,114])] (λa=>kV 6 (aQ a).1 (iV k (aQ a))) false l from ht) with q|q
   .exact one rfl t q
   .exact hs (bs [111,114]) rfl t q
  .rcases q with rfl|rfl
   .exact hs (bs [97,110,100]) rfl
   .exact hs (bs [111,114]) rfl
theorem Wt:∀{k:Nat} {e:DS0},okE k e=true->∀d,iV (k+d) e=iV k e/\okE (k+d) e=true
 |0,_,h,_=>by cases h
 |k+1,e,h,d=>by
  have hk:=(FE (FH h) d).2.2
  refine⟨?_,by rw[hk];exact h⟩
  unfold okE at h
  have ha:=aD.1 (dx.mp h).2
  rw[show k+1+d=(k+d)+1 by omega]
  have:∀(s:List ay) (op:Int) (l:List AV) (b:Bool),(∀a∈l,okE k (aQ a)=true)->gD s (λa=>kV op (aQ a).1 (iV (k+d) (aQ a))) b l=gD s (λa=>kV op (aQ a).1 (iV k (aQ a))) b l:=λs op l=>by
   induction l with
   |nil=>intro b _;rfl
   |cons a l ih =>
    intro b hl
    show _++(kV op (aQ a).1 (iV (k+d) (aQ a))++_)=_++(kV op (aQ a).1 (iV k (aQ a))++_)
    rw[(Wt (hl a (by simp)) d).1,ih true λx hx=>hl x (by simp[hx])]
  unfold iV
  rw[this _ _ _ _ ha]
end
end Abs
end Go.Proofs.YtnhgeocdffhkjaaGreatDoor
