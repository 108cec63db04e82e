/- Merged and trimmed by a program: W1 V1 V2 V3 V4 V5 W2 W3 W4 W5 W6 W7 W8 W9 WA WB WC WD V6 V7 V8 EXW. -/
import Derived.Test.YtnhgeocdffhkjaaGreatDoorZVG
import Derived.Lib.LaidTab
import Derived.LaidSub
set_option linter.unusedVariables false
set_option linter.unusedSimpArgs false
set_option linter.defProp false
namespace Go.Proofs.YtnhgeocdffhkjaaGreatDoor
namespace Abs
noncomputable section
theorem T.iter{α β:Type}{F:(α->Option β)->α->Option β}(P:Nat->α->Prop)(Q:Nat->α->β->Prop)(h:∀n x,P (n+1) x->∀self:α->Option β,(∀y,P n y->T (self y) (Q n y))->T (F self x) (Q (n+1) x))(h0:∀x,¬P 0 x):∀n x,P n x->T (bg F n x) (Q n x):=by
 intro n
 induction n with
 |zero=>intro x hx;exact absurd hx (h0 x)
 |succ n ih=>intro x hx;exact h n x hx _ λy hy=>ih y hy
abbrev Bd(n:Nat):Prop:=n<=1000000000
theorem BS(s:ByteArray):sLen s=(s.size:Int):=rfl
def bsX:=And.intro @aT (And.intro @bL (And.intro @jY (And.intro @gy (And.intro @wJ (And.intro @jd (And.intro @jX (And.intro @Gw (And.intro @aP (And.intro @a4V (And.intro @nk (And.intro @a4y (And.intro @fM (And.intro @KZ (And.intro @Es (And.intro @Xa (And.intro @Xb (And.intro @a4g (And.intro @bP (And.intro @nS (And.intro @cK (And.intro @l6 (And.intro @kY (And.intro @a7H (And.intro @Lu (And.intro @zL (And.intro @kG (And.intro @yJ (And.intro @a2v (And.intro @Rn (And.intro @a2w (And.intro @a2x (And.intro @or_true (And.intro @true_or (And.intro @and_true (And.intro @true_and (And.intro @or_false (And.intro @false_or (And.intro @and_false (And.intro @false_and (And.intro @not_true_eq_false (And.intro @not_false_eq_true (And.intro @Bool.true_eq_false (And.intro @Bool.false_eq_true (And.intro @av (@BS)))))))))))))))))))))))))))))))))))))))))))))
def arX:=And.intro @aF (And.intro @aV (And.intro @a1V (And.intro @av (And.intro @List.length_append.{0} (And.intro @List.length_cons.{0} (And.intro @List.length_nil.{0} (And.intro @List.length_set.{0} (And.intro @List.length_take.{0} (And.intro @List.length_drop.{0} (@List.length_replicate.{0}))))))))))
def aK(L:List Int)(a:Int):Prop:=L.length<=9223372036854775807/\0<=a
theorem a2U(x:Int){n:Int}(hn:0<n):-n<x.tmod n/\x.tmod n<n:=⟨by have:=Int.lt_tmod_of_pos x hn;omega,Int.tmod_lt_of_pos x hn⟩
theorem VI(x:Int){n:Int}(hn:0<n)(hn2:n<=4611686018427387904):0<=eY (aB .i64 (eY x n) n) n/\eY (aB .i64 (eY x n) n) n<n:=by
 have h:=a2U x hn
 have e:aB .i64 (eY x n) n=x.tmod n+n:=aF (by simp only[eY];omega) (by simp only[eY];omega)
 rw[e]
 simp only[eY]
 exact⟨Int.tmod_nonneg _ (by omega),Int.tmod_lt_of_pos _ hn⟩
theorem bQ{L:List Int}{a n:Int}(h:aK L a)(hn:0<n)(hn2:n<=4611686018427387904):T (m24 n L a) (λy=>aK y.2.1 y.2.2.1/\0<=y.1/\y.1<n):=by
 obtain⟨h1,h2⟩:=h
 unfold m24
 have hL:=av L
 refine T.cnd (λhc=>T.ret ⟨⟨h1,h2⟩,by omega,hn⟩) (λhc=>?_)
 rw[gy]at hc
 have e1:bf .i64 (aB .i64 a 1) 1=a:=by rw[aF (by omega) (by omega),aV (by omega) (by omega)];omega
 rw[e1]
 refine T.grd (by rw[aP];omega) (T.grd (by rw[jX];omega) (T.grd (by rw[jX];omega) (T.ret ⟨⟨h1,?_⟩,VI _ hn hn2⟩)))
 show 0<=aB .i64 a 1
 rw[aF (by omega) (by omega)];omega
theorem Sr(x:Int){n:Int}(hn:0<n)(hn2:n<=4611686018427387904):T (m11 x n) (λy=>0<=y.1/\y.1<n):=by
 unfold m11
 exact T.grd (by rw[jX];omega) (T.grd (by rw[jX];omega) (T.ret (VI _ hn hn2)))
theorem vD{L:List Int}{a l u:Int}(h:aK L a)(h0:0<=l)(h1:l<=u)(h2:u<=1000000):T (m88 l u L a) (λy=>aK y.2.1 y.2.2.1/\l<=y.1/\y.1<=u):=by
 unfold m88
 have e:aB .i64 (bf .i64 u l) 1=u-l+1:=by rw[aV (by omega) (by omega),aF (by omega) (by omega)]
 rw[e]
 repeat' (first|(refine T.call (bQ (by assumption) (by first|omega|(simp(disch:=omega) only[arX];omega)) (by first|omega|(simp(disch:=omega) only[arX];omega))) (λ_ ⟨_,_,_⟩=>?_))|(refine T.grd ?_ ?_)|(refine T.cnd (λhc=>?_) (λhc=>?_)<;>try simp only[bsX,eq_self]at hc)|(refine T.eP ?_)|(refine T.go ?_ ?_)|(refine T.out ?_)|(refine T.jgo ?_)|(refine T.jN ?_)|(refine T.mO ?_)|(refine T.ret ?_))
 refine⟨by assumption,?_,?_⟩<;>(rw[aF (by omega) (by omega)];omega)
theorem OP{L:List Int}{a n:Int}(h:aK L a)(h0:0<=n)(h1:n<=4611686018427387903):T (yj n L a) (λy=>aK y.2.1 y.2.2.1/\0<=y.1/\y.1<=n):=by
 unfold yj
 have e:aB .i64 n 1=n+1:=aF (by omega) (by omega)
 rw[e]
 unfold dG
 repeat' (first|(refine T.call (bQ (by assumption) (by first|omega|(simp(disch:=omega) only[arX];omega)) (by first|omega|(simp(disch:=omega) only[arX];omega))) (λ_ ⟨_,_,_⟩=>?_))|(refine T.grd ?_ ?_)|(refine T.cnd (λhc=>?_) (λhc=>?_)<;>try simp only[bsX,eq_self]at hc)|(refine T.eP ?_)|(refine T.go ?_ ?_)|(refine T.out ?_)|(refine T.jgo ?_)|(refine T.jN ?_)|(refine T.mO ?_)|(refine T.ret ?_))
 all_goals refine⟨by assumption,?_⟩
 all_goals simp(disch:=omega) only[aV]
 all_goals omega
theorem a1Y{L:List Int}{a:Int}(h:aK L a):T (m90 L a) (λy=>aK y.2.1 y.2.2.1/\0<=y.1/\y.1<=876599):=by
 unfold m90
 repeat' (first|(refine T.call (bQ (by assumption) (by first|omega|(simp(disch:=omega) only[arX];omega)) (by first|omega|(simp(disch:=omega) only[arX];omega))) (λ_ ⟨_,_,_⟩=>?_))|(refine T.grd ?_ ?_)|(refine T.cnd (λhc=>?_) (λhc=>?_)<;>try simp only[bsX,eq_self]at hc)|(refine T.eP ?_)|(refine T.go ?_ ?_)|(refine T.out ?_)|(refine T.jgo ?_)|(refine T.jN ?_)|(refine T.mO ?_)|(refine T.ret ?_))
 all_goals refine⟨by assumption,?_⟩
 all_goals(try simp(disch:=omega) only[aV])
 all_goals omega
theorem TL{L:List Int}{a:Int}(h:aK L a):T (m49 L a) (λy=>aK y.2.2.1 y.2.2.2.1/\0<=y.1):=by
 unfold m49
 repeat' (first|(refine T.call (a1Y (by assumption)) (λ_ ⟨_,_,_⟩=>?_))|(refine T.grd ?_ ?_)|(refine T.cnd (λhc=>?_) (λhc=>?_)<;>try simp only[bsX,eq_self]at hc)|(refine T.eP ?_)|(refine T.go ?_ ?_)|(refine T.out ?_)|(refine T.jgo ?_)|(refine T.jN ?_)|(refine T.mO ?_)|(refine T.ret ?_))
 exact⟨by assumption,by unfold dG;omega⟩
section
variable{S R:Type}{step:S->Option (S⊕R)}{Q:R->Prop}
theorem T.pass(n:Int)(P:Int->Prop)(mk:Int->S)(hn:0<=n)(h:∀k,0<=k->k<n->(∀j,0<=j->j<k->P j)->T (step (mk k)) (LQ (λs=>s=mk (k+1)/\P k) (λ_=>0) 1 Q))(he:(∀j,0<=j->j<n->P j)->T (step (mk n)) (LQ (λ_=>False) (λ_=>0) 0 Q)):T (aJ step (mk 0)) Q:=by
 have key:∀(d:Nat) (k:Int),0<=k->k+d=n->(∀j,0<=j->j<k->P j)->T (aJ step (mk k)) Q:=by
  intro d
  induction d with
  |zero =>
   intro k _ hk hp
   obtain rfl:k=n:=by omega
   obtain⟨r,h1,h2⟩:=he hp
   cases r with
   |inl s=>exact absurd h2.1 id
   |inr r=>exact⟨r,tT h1,h2⟩
  |succ d ih =>
   intro k h0 hk hp
   obtain⟨r,h1,h2⟩:=h k h0 (by omega) hp
   cases r with
   |inl s =>
    obtain⟨⟨rfl,h3⟩,_⟩:=h2
    rw[KM h1]
    refine ih (k+1) (by omega) (by omega) λj j0 j1=>?_
    rcases Int.lt_or_eq_of_le (show j<=k by omega) with q|rfl
    .exact hp j j0 q
    .exact h3
   |inr r=>exact⟨r,tT h1,h2⟩
 exact key n.toNat 0 (Int.le_refl _) (by omega) λj _ _=>by omega
end
theorem at_mem{α:Type}{xs:List α}{n:Int}(z:α)(h0:0<=n)(h1:n<(xs.length:Int)):atI xs n z∈xs:=by
 unfold atI
 have h:n.toNat<xs.length:=by omega
 rw[List.getD_eq_getElem?_getD,List.getElem?_eq_getElem h]
 exact List.getElem_mem h
theorem yO{α:Type}{l:List α}{z x:α}(h:x∈l):∃k:Int,0<=k/\k<(l.length:Int)/\atI l k z=x:=by
 obtain⟨k,hk,rfl⟩:=List.mem_iff_getElem.1 h
 exact⟨k,by omega,by omega,by unfold atI;rw[List.getD_eq_getElem?_getD,Int.toNat_natCast,List.getElem?_eq_getElem hk];rfl⟩
theorem pK{α:Type}{l:List α}{p:α->Bool}{z:α}{k:Int}(h0:0<=k)(h1:k<(l.length:Int))(h:p (atI l k z)=false):l.all p=false:=by
 cases q:l.all p with
 |false=>rfl
 |true=>rw[List.all_eq_true.1 q _ (at_mem z h0 h1)]at h;cases h
theorem ny{α:Type}{l:List α}{p:α->Bool}{z:α}(h:∀k:Int,0<=k->k<(l.length:Int)->p (atI l k z)=true):l.all p=true:=by
 refine List.all_eq_true.2 λx hx=>?_
 obtain⟨k,h0,h1,rfl⟩:=yO (z:=z) hx
 exact h k h0 h1
theorem T.round{S:Type}{s s':S}{b:Bool}{R:Type}{r:R}{P:Prop}{Q:R->Prop}(hs:s'=s)(hp:b=true->P)(hq:b=false->Q r):T (cond (not b) (some (Sum.inr r)) (some (Sum.inl s'))) (LQ (λq=>q=s/\P) (λ_=>0) 1 Q):=by
 cases b with
 |false=>exact T.out (hq rfl)
 |true=>exact T.go ⟨hs,hp rfl⟩ (by omega)
theorem T.Vw{S α:Type}{step:S->Option (S⊕(Bool×Unit))}(l:List α)(z:α)(p:α->Bool)(mk:Int->S)(h:∀k:Int,0<=k->k<(l.length:Int)->T (step (mk k)) (LQ (λs=>s=mk (k+1)/\p (atI l k z)=true) (λ_=>0) 1 (λr=>p (atI l k z)=false/\r=(false,()))))(he:step (mk (l.length:Int))=some (.inr (true,()))):aJ step (mk 0)=some (l.all p,()):=by
 refine T.eq (T.pass (l.length:Int) (λk=>p (atI l k z)=true) mk (by omega) (λk h0 h1 _=>?_) (λhp=>⟨_,he,by show(true,())=_;rw[ny hp]⟩))
 refine(h k h0 h1).mono λr hr=>?_
 cases r with
 |inl s=>exact hr
 |inr r=>exact hr.2.trans (by rw[pK h0 h1 hr.1])
def isLet(c:Int):Bool:=iLe 97 c&&iLe c 122
def wI(c:Int):Bool:=iLe 48 c&&iLe c 57
def uI(c:Int):Bool:=isLet c||wI c||iEq c 45
theorem Nt(c:Int):m80 c=some (isLet c,()):=by unfold m80 isLet;cases iLe 97 c<;>rfl
theorem Wt(c:Int):Nl c=some (isLet c,()):=Nt c
theorem WL(c:Int):Nk c=some (wI c,()):=by unfold Nk wI;cases iLe 48 c<;>rfl
theorem a2J(c:Int):Nr c=some (uI c,()):=by
 unfold Nr uI
 rw[Nt,show Uv c=some (wI c,()) from WL c]
 simp only[Option.bind_some]
 cases isLet c<;>cases wI c<;>rfl
def JU(s:ByteArray):Bool:=(List.range s.size).all λk=>uI (sAt s (k:Int))
theorem LB{s:ByteArray}{k:Int}(h0:0<=k)(h1:k<(s.size:Int))(h:uI (sAt s k)=false):JU s=false:=by
 cases q:JU s with
 |false=>rfl
 |true =>
  have:=List.all_eq_true.1 q k.toNat (List.mem_range.2 (by omega))
  rw[Int.toNat_of_nonneg h0,h]at this;cases this
theorem JR{s:ByteArray}(h:∀k:Int,0<=k->k<(s.size:Int)->uI (sAt s k)=true):JU s=true :=
 List.all_eq_true.2 λk hk=>h k (by omega) (by have:=List.mem_range.1 hk;omega)
def vW(s:ByteArray):Bool:=if s.size=0\/16<s.size then false else isLet (sAt s 0)&&!iEq (sAt s ((s.size:Int)-1)) 45&&JU s
theorem ZM(s:ByteArray)(hs:s.size<=16):T (m77 s 0 ()) (λy=>iEq y.1 (sLen s)=JU s):=by
 unfold m77
 have hl:=BS s
 refine T.pass (s.size:Int) (λk=>uI (sAt s k)=true) (λk=>(s,k,(),())) (by omega) (λk h0 h1 _=>?_) (λhp=>?_)
 .dsimp only
  refine T.grd (by rw[kY,aP];left;omega) (T.ct (by rw[aT];omega) (T.aO (a2J _) (T.cnd (λh=>T.go ⟨?_,h⟩ (by omega)) (λh=>T.out ?_))))
  .rw[aF (by omega) (by omega)]
  .show iEq k (sLen s)=_
   rw[LB h0 h1 h,jd];omega
 .dsimp only
  refine T.grd (by rw[kY,bP,Rn,bL];right;omega) (T.cf (by rw[bL];omega) (T.out ?_))
  show iEq (s.size:Int) (sLen s)=_
  rw[JR hp,wJ];omega
theorem Zw(s:ByteArray):m95 s=some (vW s,()):=by
 refine T.eq ?_
 unfold m95 vW
 have hl:=BS s
 by_cases hz:s.size=0\/16<s.size
 .rw[if_pos hz]
  have hc:cond (iEq (sLen s) 0) true (iLt 16 (sLen s))=true:=by rw[kG,wJ,aT];omega
  rw[hc]
  exact T.grd (by rw[kY,bP];exact .inr rfl) (T.grd (by rw[kY,bP];exact .inr rfl) (T.ret rfl))
 rw[if_neg hz]
 have hc:cond (iEq (sLen s) 0) true (iLt 16 (sLen s))=false:=by rw[yJ,jd,bL];omega
 have hb:∀b:Bool,or (bnd ((s.size:Int)-1) (sLen s)) b=true:=λb=>by rw[kY,aP];left;omega
 rw[hc,show bf .i64 (sLen s) 1=(s.size:Int)-1 by rw[aV (by omega) (by omega),hl]]
 refine T.grd (by rw[kY,aP];left;omega) (T.cf rfl (T.aO (Nt _) (T.grd (hb _) ?_)))
 obtain⟨y,e,hy⟩:=ZM s (by omega)
 rw[e]
 dsimp only[Option.bind_some]
 rw[hy]
 cases isLet (sAt s 0)<;>cases iEq (sAt s ((s.size:Int)-1)) 45<;>exact T.ret rfl
theorem Zv(s:ByteArray):Ns s=some (vW s,()):=by
 refine T.eq ?_
 unfold Ns vW
 have hl:=BS s
 by_cases hz:s.size=0\/16<s.size
 .rw[if_pos hz]
  have hc:cond (iLt (sLen s) 1) true (iLt 16 (sLen s))=true:=by rw[kG,aT,aT];omega
  rw[hc]
  exact T.grd (by rw[kY,bP];exact .inr rfl) (T.grd (by rw[kY,bP];exact .inr rfl) (T.ret rfl))
 rw[if_neg hz]
 have hc:cond (iLt (sLen s) 1) true (iLt 16 (sLen s))=false:=by rw[yJ,bL,bL];omega
 have hb:∀b:Bool,or (bnd ((s.size:Int)-1) (sLen s)) b=true:=λb=>by rw[kY,aP];left;omega
 rw[hc,show bf .i64 (sLen s) 1=(s.size:Int)-1 by rw[aV (by omega) (by omega),hl]]
 refine T.grd (by rw[kY,aP];left;omega) (T.cf rfl (T.aO (Wt _) (T.grd (hb _) (T.cnd (λh=>T.ret ?_) (λh=>?_)))))
 .rw[kG,bP]at h
  dsimp only at h
  rcases h with h|h<;>rw[h]
  .rfl
  .cases isLet (sAt s 0)<;>rfl
 rw[yJ,nS]at h
 dsimp only at h
 rw[h.1,h.2]
 refine T.pass (s.size:Int) (λk=>uI (sAt s k)=true) (λk=>(s,k,())) (by omega) (λk h0 h1 _=>?_) (λhp=>?_)
 .dsimp only
  have hk:∀b:Bool,or (bnd k (sLen s)) b=true:=λb=>by rw[kY,aP];left;omega
  have he:uI (sAt s k)=(isLet (sAt s k)||wI (sAt s k)||iEq (sAt s k) 45):=rfl
  refine T.ct (by rw[aT];omega) (T.grd (by rw[aP];omega) (T.aO (Wt _) (T.grd (hk _) (T.cnd (λq=>T.aO (WL _) (T.grd (hk _) (T.cnd (λr=>T.out ?_) (λr=>T.go ⟨?_,?_⟩ (by omega))))) (λq=>T.grd (hk _) (T.go ⟨?_,?_⟩ (by omega)))))))
  .rw[Lu,bP,jX]at r
   rw[bP]at q
   dsimp only at r q
   rw[q,r.1,jd.mpr r.2]at he
   rw[LB h0 h1 he];rfl
  .rw[aF (by omega) (by omega)]
  .rw[zL,nS,Gw]at r
   dsimp only at r
   rw[he]
   rcases r with r|r
   .rw[r];cases isLet (sAt s k)<;>rfl
   .rw[r];cases isLet (45:Int)<;>cases wI (45:Int)<;>rfl
  .rw[aF (by omega) (by omega)]
  .rw[nS]at q
   dsimp only at q
   rw[he,q];rfl
 .exact T.cf (by rw[bL];show sLen s<=(s.size:Int);omega) (T.out (by rw[JR hp];rfl))
theorem Rb(a b:Bool):(cond a (some (true,())) (some (b,())):Option (Bool×Unit))=some (a||b,()):=by cases a<;>rfl
def MH(s:ByteArray):Bool:=(Ay s).elim false λy=>y.1
theorem VH(s:ByteArray):Ay s=some (MH s,()):=by
 have h:∃b,Ay s=some (b,()):=by
  unfold Ay
  simp only[Rb]
  exact⟨_,rfl⟩
 obtain⟨b,h⟩:=h
 unfold MH
 rw[h];rfl
theorem a2S(s:ByteArray):m96 s=some (MH s,()):=(show m96 s=Ay s from rfl).trans (VH s)
def bA(s:ByteArray):Bool:=vW s&&!MH s
theorem xY(s:ByteArray):m54 s=some (bA s,()):=by
 unfold m54 bA
 rw[Zw,a2S]
 cases vW s<;>rfl
theorem xX(s:ByteArray):m57 s=some (bA s,()):=by
 unfold m57 bA
 rw[Zv,VH]
 cases vW s<;>rfl
theorem Bj{α:Type}{l:List α}{z:α}{k:Nat}(h:k<l.length):atI l (k:Int) z=l[k]:=by
 unfold atI;rw[List.getD_eq_getElem?_getD,Int.toNat_natCast,List.getElem?_eq_getElem h];rfl
theorem DT(l:List ByteArray)(h:l.length<=9223372036854775807):m29 l=some (l.all bA,()):=by
 unfold m29
 have hl:=av l
 refine T.Vw l ByteArray.empty bA (λk=>(l,k,())) (λk h0 h1=>?_) ?_
 .dsimp only
  refine T.ct (by rw[aT];omega) (T.grd (by rw[aP];omega) (T.aO (xX _) (T.round ?_ id (λq=>⟨q,rfl⟩))))
  rw[aF (by omega) (by omega)]
 .dsimp only
  rw[bL.mpr (by omega)];rfl
open Classical in
def dst(l:List ByteArray):Bool:=decide l.Nodup
theorem D5{l:List ByteArray}:(dst l=true)=l.Nodup:=by unfold dst;rw[decide_eq_true_eq]
theorem WK{l:List ByteArray}:(dst l=false)=¬l.Nodup:=by unfold dst;rw[decide_eq_false_iff_not]
theorem tO{l:List ByteArray}(z:ByteArray):l.Nodup↔∀i:Int,0<=i->i<(l.length:Int)->∀j,0<=j->j<i->¬atI l i z=atI l j z:=by
 unfold List.Nodup
 rw[List.pairwise_iff_getElem]
 constructor
 .intro h i i0 i1 j j0 j1 q
  have:=h j.toNat i.toNat (by omega) (by omega) (by omega)
  rw[<- Bj (z:=z),<- Bj (z:=z),Int.toNat_of_nonneg i0,Int.toNat_of_nonneg j0]at this
  exact this q.symm
 .intro h i j hi hj hij q
  refine h (j:Int) (by omega) (by omega) (i:Int) (by omega) (by omega) ?_
  rw[Bj hi,Bj hj,q]
theorem wS(l:List ByteArray)(h:l.length<=9223372036854775807):m30 l=some (dst l,()):=by
 refine T.eq ?_
 unfold m30
 have hl:=av l
 have no:∀i:Int,0<=i->i<(l.length:Int)->∀j,0<=j->j<i->sEq (atI l i ByteArray.empty) (atI l j ByteArray.empty)=true->dst l=false:=λi i0 i1 j j0 j1 q=>by
  rw[WK]
  exact λhn=>(tO ByteArray.empty).1 hn i i0 i1 j j0 j1 (BX.mp q)
 refine T.pass (l.length:Int) (λi=>∀j,0<=j->j<i->¬atI l i ByteArray.empty=atI l j ByteArray.empty) (λk=>(l,k,())) (by omega) (λi i0 i1 _=>?_) (λhp=>?_)
 .dsimp only
  refine T.ct (by rw[aT];omega) ?_
  refine T.pass i (λj=>¬atI l i ByteArray.empty=atI l j ByteArray.empty) (λj=>(l,i,j,())) i0 (λj j0 j1 _=>?_) (λhp=>?_)
  .dsimp only
   refine T.ct (by rw[aT];exact j1) (T.grd (by rw[aP];omega) (T.grd (by rw[aP];omega) (T.cnd (λq=>T.out (show((false,()):Bool×Unit)=(dst l,()) by rw[no i i0 i1 j j0 j1 q])) (λq=>T.go ⟨?_,Mj.mp q⟩ (by omega)))))
   rw[aF (by omega) (by omega)]
  .dsimp only
   exact T.cf (by rw[bL];omega) (T.out ⟨⟨by rw[aF (by omega) (by omega)],hp⟩,Nat.zero_lt_one⟩)
 .dsimp only
  exact T.cf (by rw[bL];omega) (T.out (by rw[D5.mpr ((tO ByteArray.empty).2 λi i0 i1=>hp i i0 i1)]))
def Jl(l:List ByteArray)(w:ByteArray):Bool:=l.any λx=>sEq w x
theorem D7(l:List ByteArray)(w:ByteArray)(h:l.length<=9223372036854775807):m55 l w=some (Jl l w,()):=by
 refine T.eq ?_
 unfold m55
 have hl:=av l
 have key:T (m97 l w) (λy=>iLe 0 y.1=Jl l w):=by
  unfold m97
  refine T.pass (l.length:Int) (λk=>sEq w (atI l k ByteArray.empty)=false) (λk=>(l,w,aj l,k,())) (by omega) (λk h0 h1 _=>?_) (λhp=>?_)
  .dsimp only
   refine T.ct (by rw[aT];omega) (T.grd (by rw[aP];omega) (T.cnd (λq=>T.out ?_) (λq=>T.go ⟨?_,q⟩ (by omega))))
   .rw[jY.mpr h0]
    exact(List.any_eq_true.2 ⟨_,at_mem _ h0 h1,q⟩).symm
   .rw[aF (by omega) (by omega)]
  .dsimp only
   refine T.cf (by rw[bL];omega) (T.out ?_)
   rw[show iLe 0 (-1)=false from rfl]
   refine(List.any_eq_false.2 λx hx=>?_).symm
   obtain⟨k,h0,h1,rfl⟩:=yO (z:=ByteArray.empty) hx
   rw[hp k h0 h1];exact Bool.false_ne_true
 exact T.call key λy q=>T.ret (by rw[q])
theorem Ec{l:List ByteArray}{k:Int}(h0:0<=k)(h1:k<=(l.length:Int)){w:ByteArray}:(Jl (jQ 0 k l) w=false)=∀j,0<=j->j<k->¬w=atI l j ByteArray.empty:=by
 rw[show jQ 0 k l=l.take k.toNat from rfl]
 unfold Jl
 rw[List.any_eq_false,eq_iff_iff]
 constructor
 .intro h j j0 j1 q
  have hj:j.toNat<(l.take k.toNat).length:=by rw[List.length_take];omega
  refine h _ (List.getElem_mem hj) ?_
  rw[BX,q,List.getElem_take]
  conv=>lhs;rw[<- Int.toNat_of_nonneg j0]
  exact Bj _
 .intro h x hx q
  obtain⟨j,hj,rfl⟩:=List.mem_iff_getElem.1 hx
  have hj2:j<k.toNat/\j<l.length:=by rw[List.length_take]at hj;omega
  refine h (j:Int) (by omega) (by omega) ?_
  rw[BX.mp q,List.getElem_take,Bj hj2.2]
def qU(l:List ByteArray):Bool:=decide (1<=l.length/\l.length<=12)&&(l.all bA&&dst l)
theorem Ef{l:List ByteArray}(hp:∀k:Int,0<=k->k<(l.length:Int)->bA (atI l k ByteArray.empty)=true/\∀j,0<=j->j<k->¬atI l k ByteArray.empty=atI l j ByteArray.empty):(l.all bA&&dst l)=true:=by
 rw[ny λk h0 h1=>(hp k h0 h1).1,D5.mpr ((tO ByteArray.empty).2 λi i0 i1=>(hp i i0 i1).2)];rfl
theorem KW{l:List ByteArray}{k:Int}(h0:0<=k)(h1:k<(l.length:Int))(h:bA (atI l k ByteArray.empty)=false):(l.all bA&&dst l)=false:=by
 rw[pK h0 h1 h];rfl
theorem KX{l:List ByteArray}{k:Int}(h0:0<=k)(h1:k<(l.length:Int))(h:Jl (jQ 0 k l) (atI l k ByteArray.empty)=true):(l.all bA&&dst l)=false:=by
 have:dst l=false:=by
  rw[WK]
  intro hn
  have:=(tO ByteArray.empty).1 hn k h0 h1
  rw[<- Ec h0 (by omega),h]at this
  cases this
 rw[this];cases l.all bA<;>rfl
theorem X4(l:List ByteArray):DX l=some (qU l,()):=by
 refine T.eq ?_
 unfold DX qU
 have hl:=av l
 refine T.cnd (λhc=>T.ret ?_) (λhc=>?_)<;>simp only[bsX,eq_self]at hc
 .rw[decide_eq_false (by omega)];rfl
 rw[decide_eq_true (by omega),Bool.true_and]
 refine T.pass (l.length:Int) (λk=>bA (atI l k ByteArray.empty)=true/\∀j,0<=j->j<k->¬atI l k ByteArray.empty=atI l j ByteArray.empty) (λk=>(l,l,aj l,k,())) (by omega) (λk h0 h1 _=>?_) (λhp=>?_)
 .dsimp only
  have hc:(jQ 0 k l).length<=9223372036854775807:=by rw[show jQ 0 k l=l.take k.toNat from rfl,List.length_take];omega
  refine T.ct (by rw[aT];omega) (T.grd (by rw[aP];omega) (T.aO (xY _) ?_))
  refine T.grd (by rw[kY,Es];left;omega) (T.cnd (λq=>T.out ?_) (λq=>T.aO (D7 _ _ hc) ?_))
  .rw[KW h0 h1 (bP.mp q)]
  refine T.cnd (λr=>T.out ?_) (λr=>T.go ⟨?_,nS.mp q,(Ec h0 (by omega)).mp r⟩ (by omega))
  .rw[KX h0 h1 r]
  .rw[aF (by omega) (by omega)]
 .exact T.cf (by rw[bL];show aj l<=(l.length:Int);omega) (T.out (by rw[Ef hp]))
def Bl(op n:Int):Bool:=cond (iEq op 6) (iEq n 1) (cond (iEq op 7) (iLe 2 n) (cond (iEq op 8) (iLe 2 n) (iEq n 0)))
def wu(op lo hi:Int):Bool:=cond (iEq op 5) (iLe (-1000000000) lo&&(iLe lo 1000000000&&(iLe (-1000000000) hi&&(iLe hi 1000000000&&iLe lo hi)))) (iEq lo 0&&iEq hi 0)
def vV(op:Int)(ws:List ByteArray):Bool:=cond (iEq op 4) (qU ws) (decide (ws.length=0))
def MU(op:Int)(nm:ByteArray):Bool:=cond (cond (cond (iEq op 3) true (iEq op 4)) true (iEq op 5)) (bA nm) (sEq nm (bs []))
def oV(e:DS0):Bool:=iLe 1 e.1&&(iLe e.1 8&&(MU e.1 e.2.1&&(vV e.1 e.2.2.1&&(wu e.1 e.2.2.2.1 e.2.2.2.2.1&&Bl e.1 (List.length (α:=AV) e.2.2.2.2.2.1:Int)))))
theorem Ht(a:Bool)(x y:Bool):(cond a (some (x,())) (some (y,())):Option (Bool×Unit))=some (cond a x y,()):=by cases a<;>rfl
theorem ZI(op lo hi n:Int):(cond (iEq op 5) ((rP lo).bind λy=>cond y.1 (some (false,())) ((rP hi).bind λz=>cond (cond z.1 true (iLt hi lo)) (some (false,())) (cond (iEq op 6) (some (iEq n 1,())) (cond (iEq op 7) (some (iLe 2 n,())) (cond (iEq op 8) (some (iLe 2 n,())) (some (iEq n 0,()))))))) (cond (cond (iNe lo 0) true (iNe hi 0)) (some (false,())) (cond (iEq op 6) (some (iEq n 1,())) (cond (iEq op 7) (some (iLe 2 n,())) (cond (iEq op 8) (some (iLe 2 n,())) (some (iEq n 0,())))))))=some (wu op lo hi&&Bl op n,()):=by
 have far:∀k:Int,rP k=some (!(iLe (-1000000000) k&&iLe k 1000000000),()):=λk=>by
  unfold rP;congr 2;rw[Bool.eq_iff_iff,kG,aT,aT,bP,l6,gy,gy];omega
 rw[far,far]
 simp only[Option.bind_some,Ht]
 unfold wu
 rw[show iLt hi lo=!iLe lo hi by rw[Bool.eq_iff_iff,aT,bP,gy],show iNe lo 0=!iEq lo 0 by rw[Bool.eq_iff_iff,jX,bP,jd],show iNe hi 0=!iEq hi 0 by rw[Bool.eq_iff_iff,jX,bP,jd]]
 congr 2
 unfold Bl
 generalize cond (iEq op 6) _ _=a
 cases iEq op 5<;>cases iLe (-1000000000) lo<;>cases iLe lo 1000000000<;>cases iLe (-1000000000) hi<;>cases iLe hi 1000000000<;>cases iLe lo hi<;>cases iEq lo 0<;>cases iEq hi 0<;>rfl
theorem ZJ(op lo hi:Int):(cond (iEq op 5) ((yh lo).bind λy=>cond y.1 ((yh hi).bind λz=>some (cond z.1 (iLe lo hi) false,())) (some (false,()))) (some (cond (iEq lo 0) (iEq hi 0) false,())))=some (wu op lo hi,()):=by
 unfold yh wu
 simp only[Option.bind_some,Ht]
 congr 2
 cases iEq op 5<;>cases iLe (-1000000000) lo<;>cases iLe lo 1000000000<;>cases iLe (-1000000000) hi<;>cases iLe hi 1000000000<;>cases iLe lo hi<;>cases iEq lo 0<;>cases iEq hi 0<;>rfl
theorem OL{ws:List ByteArray}:iLt 0 (aj ws)=!decide (ws.length=0):=by rw[Bool.eq_iff_iff,aT,bP,decide_eq_false_iff_not,av];omega
theorem a7y(op:Int)(ws:List ByteArray)(h:ws.length<=9223372036854775807)(x:DS0):T (cond (iEq op 4) (cond (cond (iLt (aj ws) 1) true (iLt 12 (aj ws))) (some (.inr (false,()))) ((m29 ws).bind λy=>cond (not y.1) (some (.inr (false,()))) ((m30 ws).bind λz=>cond (not z.1) (some (.inr (false,()))) (some (.inl x))))) (cond (iLt 0 (aj ws)) (some (.inr (false,()))) (some (.inl x)))) (JQ (λj=>j=x/\vV op ws=true) (λy:Bool×Unit=>vV op ws=false/\y=(false,()))):=by
 unfold vV
 cases iEq op 4
 .rw[OL]
  cases decide (ws.length=0)
  .exact T.jN ⟨rfl,rfl⟩
  .exact T.jgo ⟨rfl,rfl⟩
 .have hw:cond (iLt (aj ws) 1) true (iLt 12 (aj ws))=!decide (1<=ws.length/\ws.length<=12):=by rw[Bool.eq_iff_iff,kG,aT,aT,bP,decide_eq_false_iff_not,av];omega
  unfold qU
  rw[hw,DT _ h,wS _ h]
  cases decide (1<=ws.length/\ws.length<=12)<;>cases ws.all bA<;>cases dst ws<;>first|exact T.jN ⟨rfl,rfl⟩|exact T.jgo ⟨rfl,rfl⟩
theorem a7z(op:Int)(ws:List ByteArray)(x:DS0):T (cond (iEq op 4) ((DX ws).bind λy=>cond (not y.1) (some (.inr (false,()))) (some (.inl x))) (cond (iLt 0 (aj ws)) (some (.inr (false,()))) (some (.inl x)))) (JQ (λj=>j=x/\vV op ws=true) (λy:Bool×Unit=>vV op ws=false/\y=(false,()))):=by
 unfold vV
 cases iEq op 4
 .rw[OL]
  cases decide (ws.length=0)
  .exact T.jN ⟨rfl,rfl⟩
  .exact T.jgo ⟨rfl,rfl⟩
 .rw[X4]
  cases qU ws
  .exact T.jN ⟨rfl,rfl⟩
  .exact T.jgo ⟨rfl,rfl⟩
theorem F4{o:Option (DS0⊕(Bool×Unit))}{f:DS0->Option (Bool×Unit)}{x:DS0}{w b:Bool}(h:T o (JQ (λj=>j=x/\w=true) (λy=>w=false/\y=(false,()))))(hf:f x=some (b,())):jW o f=some (w&&b,()):=by
 refine T.eq (T.join (λj=>j=x/\w=true) (h.mono λr hr=>?_) (λj ⟨he,hw⟩=>?_))
 .cases r with
  |inl s=>exact hr
  |inr r=>rw[hr.2,hr.1];rfl
 .rw[he,hf,hw];exact T.ret rfl
theorem a1o(e:DS0)(h:List.length (α:=ByteArray) e.2.2.1<=9223372036854775807):Nf e=some (oV e,()):=by
 obtain⟨op,nm,ws,lo,hi,l,⟨⟩⟩:=e
 have j:=λf hf=>F4 (f:=f) (b:=wu op lo hi&&Bl op (List.length l:Int)) (a7y op ws h (op,nm,ws,lo,hi,l,())) hf
 unfold Nf oV MU
 dsimp only
 rw[j _ (by exact ZI op lo hi _),xX]
 rw[show iLt op 1=!iLe 1 op by rw[Bool.eq_iff_iff,aT,bP,gy],show iLt 8 op=!iLe op 8 by rw[Bool.eq_iff_iff,aT,bP,gy]]
 cases iLe 1 op<;>cases iLe op 8<;>cases cond (cond (iEq op 3) true (iEq op 4)) true (iEq op 5)<;>cases bA nm<;>cases sEq nm (bs [])<;>rfl
def opsL:List DS8:=[((bs []),false,0,0,0,()),((bs [116,114,117,101]),false,0,0,0,()),((bs [102,97,108,115,101]),false,0,0,0,()),((bs []),true,0,0,0,()),((bs [105,110]),true,0,0,0,()),((bs [102,114,111,109]),true,0,0,0,()),((bs [110,111,116]),false,1,1,3,()),((bs [97,110,100]),false,2,300,2,()),((bs [111,114]),false,2,300,1,())]
theorem a2O{op:Int}(h1:1<=op)(h8:op<=8):(atI opsL op (ByteArray.empty,false,0,0,0,())).2.1=cond (cond (iEq op 3) true (iEq op 4)) true (iEq op 5):=by
 have:op=1\/op=2\/op=3\/op=4\/op=5\/op=6\/op=7\/op=8:=by omega
 rcases this with rfl|rfl|rfl|rfl|rfl|rfl|rfl|rfl<;>rfl
theorem a2P{op n:Int}(h1:1<=op)(h8:op<=8)(h0:0<=n):cond (iLt n (atI opsL op (ByteArray.empty,false,0,0,0,())).2.2.1) true (iLt (atI opsL op (ByteArray.empty,false,0,0,0,())).2.2.2.1 n)=!(Bl op n&&iLe n 300):=by
 have c1:cond (iLt n 0) true (iLt 0 n)=!(iEq n 0&&iLe n 300):=by rw[Bool.eq_iff_iff,kG,aT,aT,bP,l6,jd,gy];omega
 have c2:cond (iLt n 1) true (iLt 1 n)=!(iEq n 1&&iLe n 300):=by rw[Bool.eq_iff_iff,kG,aT,aT,bP,l6,jd,gy];omega
 have c3:cond (iLt n 2) true (iLt 300 n)=!(iLe 2 n&&iLe n 300):=by rw[Bool.eq_iff_iff,kG,aT,aT,bP,l6,gy,gy]
 have:op=1\/op=2\/op=3\/op=4\/op=5\/op=6\/op=7\/op=8:=by omega
 rcases this with rfl|rfl|rfl|rfl|rfl|rfl|rfl|rfl
 .exact c1
 .exact c1
 .exact c1
 .exact c1
 .exact c1
 .exact c2
 .exact c3
 .exact c3
theorem a1p(e:DS0):IW e=some (oV e&&iLe (List.length (α:=AV) e.2.2.2.2.2.1:Int) 300,()):=by
 obtain⟨op,nm,ws,lo,hi,l,⟨⟩⟩:=e
 have j:=λf hf=>F4 (f:=f) (b:=wu op lo hi) (a7z op ws (op,nm,ws,lo,hi,l,())) hf
 by_cases hr:1<=op/\op<=8
 .unfold IW oV MU
  dsimp only
  rw[j _ (by exact ZJ op lo hi),xY]
  have hn:=a2O hr.1 hr.2
  have ha:=a2P hr.1 hr.2 (n:=(List.length l:Int)) (by omega)
  unfold opsL at hn ha
  rw[av,ha,hn,jY.mpr hr.1,jY.mpr hr.2,yJ.mpr ⟨bL.mpr hr.1,bL.mpr hr.2⟩,show bnd op ((9:Nat):Int)=true by rw[aP];omega]
  cases Bl op (List.length l:Int)<;>cases iLe (List.length l:Int) 300<;>cases cond (cond (iEq op 3) true (iEq op 4)) true (iEq op 5)<;>cases bA nm<;>cases sEq nm (bs [])<;>cases vV op ws<;>cases wu op lo hi<;>rfl
 .have e1:cond (iLt op 1) true (iLt 8 op)=true:=by rw[kG,aT,aT];omega
  unfold IW oV
  dsimp only
  rw[e1]
  rcases Int.lt_or_le op 1 with q|q
  .rw[gy.mpr q];rfl
  .rw[jY.mpr q,gy.mpr (show 8<op by omega)];rfl
def sm(f:AV->Nat)(l:List AV)(k:Nat):Nat:=((l.take k).map f).sum
theorem yY {f:AV->Nat} {l:List AV} {k:Int} (z:AV) (h0:0<=k) (h1:k < (l.length:Int)):sm f l (k + 1).toNat=sm f l k.toNat + f (atI l k z):=by
  have h:k.toNat<l.length:=by omega
  unfold sm
  rw[show(k+1).toNat=k.toNat+1 by omega,List.take_add_one,List.getElem?_eq_getElem h,List.map_append,List.sum_append]
  have : atI l k z = l[k.toNat] := by conv => lhs; rw [<- Int.toNat_of_nonneg h0]
                                      exact Bj h
  rw[this];simp
theorem BM{f:AV->Nat}{l:List AV}:sm f l l.length=(l.map f).sum:=by unfold sm;rw[List.take_length]
theorem BL{f:AV->Nat}:∀(l:List AV) (k:Nat),sm f l k<=(l.map f).sum
 |[],k=>by unfold sm;simp
 |a::l,0=>by unfold sm;simp
 |a::l,k+1=>by have:=BL (f:=f) l k;unfold sm at *;rw[List.take_succ_cons,List.map_cons,List.map_cons,List.sum_cons,List.sum_cons];omega
theorem Hu(M:Nat)(f:AV->Nat):∀(l:List AV) (k c:Nat),min (c+sm (λa=>min (f a) M) l k) M=min (c+sm f l k) M
 |[],k,c=>by unfold sm;simp
 |a::l,0,c=>by unfold sm;simp
 |a::l,k+1,c=>by
  have h1:=Hu M f l k (c+min (f a) M)
  have h2:sm (λa=>min (f a) M) (a::l) (k+1)=min (f a) M+sm (λa=>min (f a) M) l k:=by unfold sm;simp
  have h3:sm f (a::l) (k+1)=f a+sm f l k:=by unfold sm;simp
  rw[h2,h3];omega
def XE:Nat->DS0->Prop
 |0,_=>False
 |k+1,e=>List.length (α:=ByteArray) e.2.2.1<=9223372036854775807/\List.length (α:=AV) e.2.2.2.2.2.1<=9223372036854775807/\∀a∈e.2.2.2.2.2.1,jK a=true/\XE k (aL a)
theorem XE.up:∀{k:Nat} {e:DS0},XE k e->∀d,XE (k+d) e
 |0,_,h,_=>h.elim
 |k+1,e,h,d=>by
  rw[show k+1+d=(k+d)+1 by omega]
  exact⟨h.1,h.2.1,λa ha=>⟨(h.2.2 a ha).1,(h.2.2 a ha).2.up d⟩⟩
def XX(e:DS0):Prop:=∃k,XE k e
def XA(l:List AV):Prop:=l.length<=9223372036854775807/\∀a∈l,jK a=true/\XX (aL a)
theorem XX.out{e:DS0}(h:XX e):List.length (α:=ByteArray) e.2.2.1<=9223372036854775807/\XA e.2.2.2.2.2.1:=by
 obtain⟨k,hk⟩:=h
 cases k with
 |zero=>exact hk.elim
 |succ k=>exact⟨hk.1,hk.2.1,λa ha=>⟨(hk.2.2 a ha).1,k,(hk.2.2 a ha).2⟩⟩
theorem XA.g{l:List AV}(h:XA l){k:Int}(h0:0<=k)(h1:k<(l.length:Int)):and (bnd k (aj l)) (jK (atI l k AV.any))=true :=
 cK.mpr ⟨by rw[aP,av];omega,(h.2 _ (at_mem _ h0 h1)).1⟩
def okE:Nat->DS0->Bool
 |0,_=>false
 |k+1,e=>oV e&&List.all (α:=AV) e.2.2.2.2.2.1 λa=>okE k (aL a)
def dpE:Nat->DS0->Bool
 |0,_=>false
 |k+1,e=>List.all (α:=AV) e.2.2.2.2.2.1 λa=>dpE k (aL a)
def szE:Nat->DS0->Nat
 |0,_=>1
 |k+1,e=>1+(List.map (α:=AV) (λa=>szE k (aL a)) e.2.2.2.2.2.1).sum
theorem Km:∀(k:Nat) (e:DS0),1<=szE k e
 |0,_=>Nat.le_refl _
 |k+1,e=>Nat.le_add_right 1 _
theorem Gz:∀{k:Nat} {e:DS0},okE k e=true->dpE k e=true
 |0,_,h=>h
 |k+1,e,h=>by
  unfold okE at h
  rw[cK]at h
  exact List.all_eq_true.2 λa ha=>Gz (List.all_eq_true.1 h.2 a ha)
theorem Gy:∀{k:Nat} {e:DS0},dpE k e=true->∀d,dpE (k+d) e=true/\szE (k+d) e=szE k e/\okE (k+d) e=okE k e
 |0,_,h,_=>by cases h
 |k+1,e,h,d=>by
  have hc:=λa ha=>Gy (List.all_eq_true.1 h a ha) d
  rw[show k+1+d=(k+d)+1 by omega]
  refine⟨List.all_eq_true.2 λa ha=>(hc a ha).1,?_,?_⟩
  .unfold szE
   congr 2
   exact List.map_congr_left λa ha=>(hc a ha).2.1
  .unfold okE
   congr 1
   rw[Bool.eq_iff_iff,List.all_eq_true,List.all_eq_true]
   exact⟨λq a ha=>(hc a ha).2.2▸q a ha,λq a ha=>(hc a ha).2.2.symm▸q a ha⟩
theorem Vj{F:Nat}{x:DS0×Int×Unit}(h:XX x.1/\0<=x.2.1/\x.2.1<=16/\x.2.1<F):T (bg (λself (x:DS0×Int×Unit)=>Gj self x.1 x.2.1) F x) (λy:Bool×Unit=>y=(!dpE x.2.1.toNat x.1,())):=by
 refine T.iter (λF (x:DS0×Int×Unit)=>XX x.1/\0<=x.2.1/\x.2.1<=16/\x.2.1<F) (λ_ x (y:Bool×Unit)=>y=(!dpE x.2.1.toNat x.1,())) (λF x h self hs=>?_) (λx h=>by have:=h.2;omega) F x h
 obtain⟨⟨op,nm,ws,lo,hi,l,⟨⟩⟩,n,⟨⟩⟩:=x
 obtain⟨hx,n0,n2,n1⟩:=h
 obtain⟨_,hA⟩:=hx.out
 dsimp only at n0 n1 n2 hA ⊢
 unfold Gj
 dsimp only
 have hl:=hA.1
 refine T.cnd (λhc=>T.ret ?_) (λhc=>?_)<;>simp only[bsX,eq_self]at hc
 .rw[hc];rfl
 obtain⟨m,rfl⟩:∃m:Nat,n=(m:Int)+1:=⟨n.toNat-1,by omega⟩
 rw[show((m:Int)+1).toNat=m+1 by omega]
 unfold dpE
 refine T.pass (l.length:Int) (λk=>dpE m (aL (atI l k AV.any))=true) (λk=>((m:Int)+1,k,op,nm,ws,lo,hi,l,())) (by omega) (λk h0 h1 _=>?_) (λhp=>?_)
 .dsimp only
  refine T.ct (by rw[aT,av];exact h1) (T.grd (hA.g h0 h1) (T.call (hs (_,_,()) ⟨(hA.2 _ (at_mem _ h0 h1)).2,?_,?_,?_⟩) (λy hy=>?_)))
  .dsimp only;rw[aV (by omega) (by omega)];omega
  .dsimp only;rw[aV (by omega) (by omega)];omega
  .dsimp only;rw[aV (by omega) (by omega)];omega
  rw[hy]
  dsimp only
  rw[aV (by omega) (by omega),show((m:Int)+1-1).toNat=m by omega]
  cases q:dpE m (aL (atI l k AV.any)) with
  |false=>exact T.out (by show((true,()):Bool×Unit)=_;rw[pK (p:=λa=>dpE m (aL a)) h0 h1 q];rfl)
  |true=>exact T.go ⟨by rw[aF (by omega) (by omega)],rfl⟩ (by omega)
 .dsimp only
  exact T.cf (by rw[bL,av];omega) (T.out (by rw[ny (p:=λa=>dpE m (aL a)) hp];rfl))
theorem ZO{F:Nat}{x:DS0×Unit}(h:XX x.1/\dpE F x.1=true):T (bg (λself (x:DS0×Unit)=>Gi self x.1) F x) (λy:Int×Unit=>y=(((min (szE F x.1) 301:Nat):Int),())):=by
 refine T.iter (λF (x:DS0×Unit)=>XX x.1/\dpE F x.1=true) (λF x (y:Int×Unit)=>y=(((min (szE F x.1) 301:Nat):Int),())) (λF x h self hs=>?_) (λx h=>by have:=h.2;cases this) F x h
 obtain⟨⟨op,nm,ws,lo,hi,l,⟨⟩⟩,⟨⟩⟩:=x
 obtain⟨hx,hd⟩:=h
 obtain⟨_,hA⟩:=hx.out
 have hd:=List.all_eq_true.1 hd
 dsimp only at hA hd ⊢
 have hl:=hA.1
 unfold Gi szE
 dsimp only
 generalize hf:(λa=>szE F (aL a))=f
 have hm:=λk c=>Hu 301 f l k c
 have hle:=BL (f:=f) l
 refine T.pass (l.length:Int) (λk=>True) (λk=>(((1+sm (λa=>min (f a) 301) l k.toNat:Nat):Int),k,op,nm,ws,lo,hi,l,())) (by omega) (λk h0 h1 _=>?_) (λhp=>?_)
 .dsimp only
  refine T.cnd (λhc=>?_) (λhc=>?_)<;>simp only[bsX,eq_self]at hc
  .refine T.grd (hA.g h0 h1) (T.call (hs (_,()) ⟨(hA.2 _ (at_mem _ h0 h1)).2,hd _ (at_mem _ h0 h1)⟩) (λy hy=>T.go ⟨?_,trivial⟩ (by omega)))
   rw[hy,aF (by omega) (by omega),aF (by omega) (by omega),yY AV.any h0 h1,<- hf]
   dsimp only
   congr 1
   omega
  .refine T.out ?_
   have:=hm k.toNat 1
   have:=hle k.toNat
   unfold dG
   rw[show min ((1+sm (λa=>min (f a) 301) l k.toNat:Nat):Int) 301=((min (1+(List.map f l).sum) 301:Nat):Int) by omega]
 .dsimp only
  refine T.cf (by rw[zL,bL,av];left;omega) (T.out ?_)
  have:=hm l.length 1
  rw[BM (f:=f)]at this
  unfold dG
  rw[Int.toNat_natCast,show min ((1+sm (λa=>min (f a) 301) l l.length:Nat):Int) 301=((min (1+(List.map f l).sum) 301:Nat):Int) by omega]
theorem Yg{F:Nat}{x:DS0×Unit}(h:XX x.1/\dpE F x.1=true):T (bg (λself (x:DS0×Unit)=>Gh self x.1) F x) (λy:Bool×Unit=>y=(okE F x.1,())):=by
 refine T.iter (λF (x:DS0×Unit)=>XX x.1/\dpE F x.1=true) (λF x (y:Bool×Unit)=>y=(okE F x.1,())) (λF x h self hs=>?_) (λx h=>by have:=h.2;cases this) F x h
 obtain⟨⟨op,nm,ws,lo,hi,l,⟨⟩⟩,⟨⟩⟩:=x
 obtain⟨hx,hd⟩:=h
 obtain⟨hw,hA⟩:=hx.out
 have hd:=List.all_eq_true.1 hd
 dsimp only at hw hA hd ⊢
 have hl:=hA.1
 unfold Gh okE
 dsimp only
 refine T.aO (a1o _ hw) ?_
 dsimp only
 cases oV (op,nm,ws,lo,hi,l,())
 .exact T.ret rfl
 refine T.cf rfl ?_
 refine T.pass (l.length:Int) (λk=>okE F (aL (atI l k AV.any))=true) (λk=>(k,op,nm,ws,lo,hi,l,())) (by omega) (λk h0 h1 _=>?_) (λhp=>?_)
 .dsimp only
  refine T.ct (by rw[aT,av];exact h1) (T.grd (hA.g h0 h1) (T.call (hs (_,()) ⟨(hA.2 _ (at_mem _ h0 h1)).2,hd _ (at_mem _ h0 h1)⟩) (λy hy=>?_)))
  rw[hy]
  refine T.round (by rw[aF (by omega) (by omega)]) id (λq=>?_)
  rw[pK (p:=λa=>okE F (aL a)) h0 h1 q];rfl
 .dsimp only
  exact T.cf (by rw[bL,av];omega) (T.out (by rw[ny (p:=λa=>okE F (aL a)) hp];rfl))
def gD(e:DS0):Bool:=okE 16 e&&decide (szE 16 e<=300)
theorem QU(e:DS0)(h:XX e):m98 e=some (gD e,()):=by
 refine T.eq ?_
 unfold m98 gD
 refine T.call (Vj (F:=10000) (x:=(e,16,())) ⟨h,by dsimp only;omega,by dsimp only;omega,by dsimp only;omega⟩) (λy hy=>?_)
 have hy:y=(!dpE 16 e,()):=hy
 rw[hy]
 dsimp only
 cases q:dpE 16 e with
 |false =>
  have:okE 16 e=false:=by cases r:okE 16 e with
   |false=>rfl
   |true=>rw[Gz r]at q;cases q
  rw[this];exact T.ret rfl
 |true =>
  obtain⟨d1,d2,d3⟩:=Gy q 9984
  refine T.ct rfl (T.call (ZO (F:=10000) (x:=(e,())) ⟨h,d1⟩) (λz hz=>?_))
  rw[hz]
  have e1:szE 10000 e=szE 16 e:=d2
  dsimp only
  rw[e1]
  by_cases hs:szE 16 e<=300
  .refine T.ct (by rw[jY];omega) (T.call (Yg (F:=10000) (x:=(e,())) ⟨h,d1⟩) (λv hv=>T.ret ?_))
   rw[hv,decide_eq_true hs,Bool.and_true]
   exact congrArg (λb=>(b,())) d3
  .refine T.cf (by rw[gy];omega) (T.ret ?_)
   rw[decide_eq_false hs,Bool.and_false]
theorem X6{F:Nat}{x:DS0×Int×Int×Unit}(h:XX x.1/\(1<=x.2.1/\x.2.1<=17/\17-x.2.1<F)/\0<=x.2.2.1/\x.2.2.1<=300):T (bg (λself (x:DS0×Int×Int×Unit)=>Gm self x.1 x.2.1 x.2.2.1) F x) (λy:Bool×Int×Unit=>y.1=(okE (17-x.2.1).toNat x.1&&decide (x.2.2.1+szE (17-x.2.1).toNat x.1<=300))/\(y.1=true->y.2.1=x.2.2.1+szE (17-x.2.1).toNat x.1)):=by
 refine T.iter (λF (x:DS0×Int×Int×Unit)=>XX x.1/\(1<=x.2.1/\x.2.1<=17/\17-x.2.1<F)/\0<=x.2.2.1/\x.2.2.1<=300) (λF x (y:Bool×Int×Unit)=>y.1=(okE (17-x.2.1).toNat x.1&&decide (x.2.2.1+szE (17-x.2.1).toNat x.1<=300))/\(y.1=true->y.2.1=x.2.2.1+szE (17-x.2.1).toNat x.1)) (λF x h self hs=>?_) (λx h=>by have:=h.2.1;omega) F x h
 obtain⟨⟨op,nm,ws,lo,hi,l,⟨⟩⟩,d,s,⟨⟩⟩:=x
 obtain⟨hx,⟨d0,d1,d2⟩,s0,s1⟩:=h
 obtain⟨hw,hA⟩:=hx.out
 dsimp only at hA d0 d1 d2 s0 s1 ⊢
 have hl:=hA.1
 unfold Gm
 dsimp only
 rw[aF (by omega) (by omega)]
 have no:∀{b:Bool} {z:Int},b=false->T (some (false,z,())) (λy:Bool×Int×Unit=>y.1=b/\(y.1=true->y.2.1=s+szE (17-d).toNat (op,nm,ws,lo,hi,l,()))):=λhb=>T.ret ⟨hb.symm,λq=>by cases q⟩
 refine T.cnd (λhc=>no ?_) (λhc=>?_)<;>simp only[bsX,eq_self]at hc
 .have:=Km (17-d).toNat (op,nm,ws,lo,hi,l,PUnit.unit)
  rcases hc with q|q
  .rw[l6];right;exact decide_eq_false (by omega)
  .rw[show(17-d).toNat=0 by omega];rfl
 obtain⟨r,hr⟩:∃r:Nat,(17-d).toNat=r+1:=⟨(17-d).toNat-1,by omega⟩
 rw[hr]at no ⊢
 unfold szE at no ⊢
 unfold okE
 dsimp only at no ⊢
 generalize hf:(λa=>szE r (aL a))=f at no ⊢
 have hle:=BL (f:=f) l
 refine T.aO (a1p _) ?_
 dsimp only
 refine T.cnd (λhn=>no ?_) (λhn=>?_)
 .rw[bP,l6,gy]at hn
  rcases hn with q|q
  .rw[q];rfl
  .rw[l6];right
   have:∀l:List AV,l.length<=(l.map f).sum:=λl=>by
    induction l with
    |nil=>exact Nat.zero_le _
    |cons a l ih=>have:=Km r (aL a);rw[<- hf]at *;simp at *;omega
   have:=this l
   exact decide_eq_false (by omega)
 rw[nS,cK]at hn
 rw[hn.1,Bool.true_and,show s+1=s+1+((sm f l (Int.toNat 0):Nat):Int) by show s+1=s+1+((sm f l 0:Nat):Int);have:sm f l 0=0:=(by unfold sm;simp);omega]
 refine T.pass (l.length:Int) (λk=>okE r (aL (atI l k AV.any))=true/\s+1+(sm f l (k+1).toNat:Int)<=300) (λk=>(d,l,aj l,k,s+1+(sm f l k.toNat:Int),())) (by omega) (λk h0 h1 hp=>?_) (λhp=>?_)
 .dsimp only
  have hk:s+1+(sm f l k.toNat:Int)<=300:=by
   by_cases hz:k=0
   .rw[hz];show s+1+((sm f l 0:Nat):Int)<=300
    have:sm f l 0=0:=by unfold sm;simp
    omega
   .have:=(hp (k-1) (by omega) (by omega)).2
    rwa [show k-1+1=k by omega]at this
  refine T.ct (by rw[aT,av];exact h1) (T.grd (hA.g h0 h1) (T.call (hs (aL (atI l k AV.any),_,_,()) ⟨(hA.2 _ (at_mem _ h0 h1)).2,⟨?_,?_,?_⟩,?_,hk⟩) (λy hy=>?_)))
  .dsimp only;rw[aF (by omega) (by omega)];omega
  .dsimp only;rw[aF (by omega) (by omega)];omega
  .dsimp only;rw[aF (by omega) (by omega)];omega
  .dsimp only;omega
  dsimp only at hy
  rw[aF (by omega) (by omega),show(17-(d+1)).toNat=r by omega]at hy
  obtain⟨y1,y2⟩:=hy
  have hz:=yY (f:=f) AV.any h0 h1
  have hfk:f (atI l k AV.any)=szE r (aL (atI l k AV.any)):=by rw[<- hf]
  cases q:y.1 with
  |false =>
   refine T.out ⟨?_,λq=>by cases q⟩
   rw[q]at y1
   show false=_
   rcases l6.mp y1.symm with w|w
   .rw[pK (p:=λa=>okE r (aL a)) h0 h1 w];rfl
   .have:=of_decide_eq_false w
    have:=hle (k+1).toNat
    symm;rw[l6];right
    exact decide_eq_false (by omega)
  |true =>
   have y2:=y2 q
   rw[q]at y1
   obtain⟨w1,w2⟩:=cK.mp y1.symm
   have w2:=of_decide_eq_true w2
   refine T.go ⟨?_,w1,by omega⟩ (by omega)
   rw[aF (by omega) (by omega),y2]
   congr 5
   omega
 .dsimp only
  refine T.cf (by rw[bL,av];omega) (T.out ?_)
  have ha:List.all (α:=AV) l (λa=>okE r (aL a))=true:=ny (p:=λa=>okE r (aL a)) λk h0 h1=>(hp k h0 h1).1
  have hz:sm f l (l.length:Int).toNat=(List.map f l).sum:=by rw[Int.toNat_natCast,BM]
  have hk:s+1+(sm f l (l.length:Int).toNat:Int)<=300:=by
   by_cases hz:(l.length:Int)=0
   .have:sm f l 0=0:=by unfold sm;simp
    rw[hz];show s+1+((sm f l 0:Nat):Int)<=300
    omega
   .have:=(hp ((l.length:Int)-1) (by omega) (by omega)).2
    rwa [show(l.length:Int)-1+1=l.length by omega]at this
  rw[ha,Bool.true_and]
  exact⟨(decide_eq_true (by omega)).symm,λ_=>by dsimp only;omega⟩
theorem QV(e:DS0)(h:XX e):m93 e=some (gD e,()):=by
 refine T.eq ?_
 unfold m93 gD
 refine T.call (X6 (F:=10000) (x:=(e,1,0,())) ⟨h,by dsimp only;omega,by dsimp only;omega,by dsimp only;omega⟩) (λy hy=>T.ret ?_)
 have h1:y.1=(okE 16 e&&decide ((0:Int)+(szE 16 e:Int)<=300)):=hy.1
 rw[h1]
 congr 2
 rw[decide_eq_decide];omega
def XB:Nat->List AV->Prop
 |0,_=>False
 |k+1,l=>l.length<=9223372036854775807/\∀a∈l,eu a=true/\XX (ay a).2.1/\XB k (ay a).2.2.1
theorem XB.up:∀{k:Nat} {l:List AV},XB k l->∀d,XB (k+d) l
 |0,_,h,_=>h.elim
 |k+1,l,h,d=>by
  rw[show k+1+d=(k+d)+1 by omega]
  exact⟨h.1,λa ha=>⟨(h.2 a ha).1,(h.2 a ha).2.1,(h.2 a ha).2.2.up d⟩⟩
def BB(l:List AV):Prop:=∃k,XB k l
def BA(l:List AV):Prop:=l.length<=9223372036854775807/\∀a∈l,eu a=true/\XX (ay a).2.1/\BB (ay a).2.2.1
theorem BB.out{l:List AV}(h:BB l):BA l:=by
 obtain⟨k,hk⟩:=h
 cases k with
 |zero=>exact hk.elim
 |succ k=>exact⟨hk.1,λa ha=>⟨(hk.2 a ha).1,(hk.2 a ha).2.1,k,(hk.2 a ha).2.2⟩⟩
theorem okg{l:List AV}(h:∀a∈l,eu a=true){k:Int}(h0:0<=k)(h1:k<(l.length:Int)):and (bnd k (aj l)) (eu (atI l k AV.any))=true :=
 cK.mpr ⟨by rw[aP,av];omega,h _ (at_mem _ h0 h1)⟩
def cnB:Nat->List AV->Nat
 |0,l=>l.length
 |k+1,l=>l.length+(l.map λa=>cnB k (ay a).2.2.1).sum
theorem Lp:∀(k:Nat) (l:List AV),XB k l->∀n,k<=n->bg (λself (x:List AV×Unit)=>Aw self x.1) n (l,())=some (((min (cnB k l) 41:Nat):Int),())
 |0,_,h,_,_=>h.elim
 |k+1,l,h,n,hn=>by
  obtain⟨n,rfl⟩:∃m,n=m+1:=⟨n-1,by omega⟩
  have hs:=fun(a:AV) (ha:a∈l)=>Lp k _ (h.2 a ha).2.2 n (by omega)
  have hl:=h.1
  refine T.eq ?_
  show T (Aw (bg (λself (x:List AV×Unit)=>Aw self x.1) n) l) _
  generalize bg (λself (x:List AV×Unit)=>Aw self x.1) n=self at hs ⊢
  unfold Aw cnB
  generalize hf:(λa=>cnB k (ay a).2.2.1)=f
  have hm:=λk c=>Hu 41 f l k c
  have hle:=BL (f:=f) l
  rw[show aj l=((l.length+sm (λa=>min (f a) 41) l (Int.toNat 0):Nat):Int) by have:sm (λa=>min (f a) 41) l (Int.toNat 0)=0:=(by show sm _ l 0=0;unfold sm;simp);rw[this,av];omega]
  refine T.pass (l.length:Int) (λk=>True) (λk=>(l,((l.length+sm (λa=>min (f a) 41) l k.toNat:Nat):Int),k,())) (by omega) (λk h0 h1 _=>?_) (λhp=>?_)
  .dsimp only
   refine T.cnd (λhc=>?_) (λhc=>?_)<;>simp only[bsX,eq_self]at hc
   .refine T.grd (okg (λa ha=>(h.2 a ha).1) h0 h1) (T.aO (hs _ (at_mem _ h0 h1)) (T.go ⟨?_,trivial⟩ (by omega)))
    rw[aF (by omega) (by omega),aF (by omega) (by omega),yY AV.any h0 h1,<- hf]
    dsimp only
    congr 2
    omega
   .refine T.out ?_
    have:=hm k.toNat l.length
    have:=hle k.toNat
    unfold dG
    rw[show min ((l.length+sm (λa=>min (f a) 41) l k.toNat:Nat):Int) 41=((min (l.length+(List.map f l).sum) 41:Nat):Int) by omega]
  .dsimp only
   refine T.cf (by rw[zL,bL,av];left;omega) (T.out ?_)
   have:=hm l.length l.length
   rw[BM (f:=f)]at this
   unfold dG
   rw[Int.toNat_natCast,show min ((l.length+sm (λa=>min (f a) 41) l l.length:Nat):Int) 41=((min (l.length+(List.map f l).sum) 41:Nat):Int) by omega]
theorem YK{k:Nat}{l:List AV}(h:XB k l):m99 l=some (((min (cnB k l) 41:Nat):Int),()):=Yw k (Lp k l h)
def okB:Nat->List AV->Bool
 |0,l=>decide (l.length=0)
 |k+1,l=>l.all λa=>bA (ay a).1&&(gD (ay a).2.1&&okB k (ay a).2.2.1)
theorem WO:∀{k:Nat} {l:List AV},okB k l=true->∀d,cnB (k+d) l=cnB k l
 |0,l,h,d=>by
  have:l=[]:=List.length_eq_zero_iff.1 (of_decide_eq_true h)
  subst this
  cases d<;>rfl
 |k+1,l,h,d=>by
  rw[show k+1+d=(k+d)+1 by omega]
  unfold cnB
  congr 2
  exact List.map_congr_left λa ha=>WO (cK.mp (cK.mp (List.all_eq_true.1 h a ha)).2).2 d
theorem Z0{F:Nat}{x:List AV×Int×Unit}(h:BB x.1/\0<=x.2.1/\x.2.1<=16/\x.2.1<F):T (bg (λself (x:List AV×Int×Unit)=>Gt self x.1 x.2.1) F x) (λy:Bool×Unit=>y=(okB x.2.1.toNat x.1,())):=by
 refine T.iter (λF (x:List AV×Int×Unit)=>BB x.1/\0<=x.2.1/\x.2.1<=16/\x.2.1<F) (λ_ x (y:Bool×Unit)=>y=(okB x.2.1.toNat x.1,())) (λF x h self hs=>?_) (λx h=>by have:=h.2;omega) F x h
 obtain⟨l,n,⟨⟩⟩:=x
 obtain⟨hx,n0,n2,n1⟩:=h
 have hA:=hx.out
 dsimp only at n0 n1 n2 hA ⊢
 have hl:=hA.1
 unfold Gt
 refine T.cnd (λhc=>T.ret ?_) (λhc=>?_)<;>simp only[bsX,eq_self]at hc
 .rw[hc.2]
  have:=hc.1
  show _=(decide (l.length=0),())
  rw[decide_eq_false (by omega)]
 by_cases hn:n=0
 .subst hn
  have hz:l.length=0:=by omega
  have:l=[]:=List.length_eq_zero_iff.1 hz
  subst this
  exact⟨_,tT rfl,rfl⟩
 obtain⟨m,rfl⟩:∃m:Nat,n=(m:Int)+1:=⟨n.toNat-1,by omega⟩
 rw[show((m:Int)+1).toNat=m+1 by omega]
 unfold okB
 generalize hp:(λa=>bA (ay a).1&&(gD (ay a).2.1&&okB m (ay a).2.2.1))=p
 have hk:∀a,p a=(bA (ay a).1&&(gD (ay a).2.1&&okB m (ay a).2.2.1)):=λa=>by rw[<- hp]
 refine T.pass (l.length:Int) (λk=>p (atI l k AV.any)=true) (λk=>(l,(m:Int)+1,k,())) (by omega) (λk h0 h1 _=>?_) (λhp=>?_)
 .dsimp only
  have hg:=okg (λa ha=>(hA.2 a ha).1) h0 h1
  have hg2:∀b:Bool,or (and (bnd k (aj l)) (eu (atI l k AV.any))) b=true:=λb=>by rw[hg];rfl
  have hm:=hA.2 _ (at_mem AV.any h0 h1)
  have hk:=hk (atI l k AV.any)
  have no:p (atI l k AV.any)=false->((false,()):Bool×Unit)=(l.all p,()):=λq=>by rw[pK h0 h1 q]
  refine T.ct (by rw[aT,av];exact h1) (T.grd hg (T.aO (xX _) (T.grd (hg2 _) (T.cnd (λq=>T.grd (hg2 _) (T.out (no ?_))) (λq=>T.aO (QU _ hm.2.1) (T.grd (hg2 _) (T.cnd (λr=>T.out (no ?_)) (λr=>T.call (hs (_,_,()) ⟨hm.2.2,?_,?_,?_⟩) (λy hy=>?_)))))))))
  .rw[hk,show bA (ay (atI l k AV.any)).1=false from bP.mp q];rfl
  .rw[hk,show gD (ay (atI l k AV.any)).2.1=false from bP.mp r];cases bA (ay (atI l k AV.any)).1<;>rfl
  .dsimp only;rw[aV (by omega) (by omega)];omega
  .dsimp only;rw[aV (by omega) (by omega)];omega
  .dsimp only;rw[aV (by omega) (by omega)];omega
  rw[hy]
  dsimp only
  rw[aV (by omega) (by omega),show((m:Int)+1-1).toNat=m by omega]
  rw[show bA (ay (atI l k AV.any)).1=true from nS.mp q,show gD (ay (atI l k AV.any)).2.1=true from nS.mp r]at hk
  exact T.round (by rw[aF (by omega) (by omega)]) (λw=>hk.trans w) (λw=>no (hk.trans w))
 .dsimp only
  exact T.cf (by rw[bL,av];omega) (T.out (by rw[ny hp]))
theorem KO(f:AV->Nat):∀l:List AV,(l.map λa=>1+f a).sum=l.length+(l.map f).sum
 |[]=>rfl
 |a::l=>by rw[List.map_cons,List.map_cons,List.sum_cons,List.sum_cons,KO f l,List.length_cons];omega
theorem X0{F:Nat}{x:List AV×Int×Int×Unit}(h:BB x.1/\(1<=x.2.1/\x.2.1<=17/\17-x.2.1<F)/\0<=x.2.2.1/\x.2.2.1<=40):T (bg (λself (x:List AV×Int×Int×Unit)=>MW self x.1 x.2.1 x.2.2.1) F x) (λy:Bool×Int×Unit=>y.1=(okB (17-x.2.1).toNat x.1&&decide (x.2.2.1+cnB (17-x.2.1).toNat x.1<=40))/\(y.1=true->y.2.1=x.2.2.1+cnB (17-x.2.1).toNat x.1)):=by
 refine T.iter (λF (x:List AV×Int×Int×Unit)=>BB x.1/\(1<=x.2.1/\x.2.1<=17/\17-x.2.1<F)/\0<=x.2.2.1/\x.2.2.1<=40) (λF x (y:Bool×Int×Unit)=>y.1=(okB (17-x.2.1).toNat x.1&&decide (x.2.2.1+cnB (17-x.2.1).toNat x.1<=40))/\(y.1=true->y.2.1=x.2.2.1+cnB (17-x.2.1).toNat x.1)) (λF x h self hs=>?_) (λx h=>by have:=h.2.1;omega) F x h
 obtain⟨l,d,s,⟨⟩⟩:=x
 obtain⟨hx,⟨d0,d1,d2⟩,s0,s1⟩:=h
 have hA:=hx.out
 dsimp only at hA d0 d1 d2 s0 s1 ⊢
 have hl:=hA.1
 have hg:∀{k:Int},0<=k->k<(l.length:Int)->and (bnd k (aj l)) (eu (atI l k AV.any))=true:=λh0 h1=>okg (λa ha=>(hA.2 a ha).1) h0 h1
 unfold MW
 by_cases hd:d=17
 .subst hd
  show T _ (λy:Bool×Int×Unit=>y.1=(decide (l.length=0)&&decide (s+(l.length:Int)<=40))/\(y.1=true->y.2.1=s+(l.length:Int)))
  refine T.pass (l.length:Int) (λk=>False) (λk=>(17,l,aj l,k,s,())) (by omega) (λk h0 h1 _=>?_) (λhp=>?_)
  .dsimp only
   refine T.ct (by rw[aT,av];exact h1) (T.grd (hg h0 h1) (T.ct rfl (T.out ⟨?_,λq=>by cases q⟩)))
   rw[decide_eq_false (by omega)];rfl
  .dsimp only
   have hz:l.length=0:=by
    rcases Nat.eq_zero_or_pos l.length with q|q
    .exact q
    .exact(hp 0 (Int.le_refl _) (by omega)).elim
   refine T.cf (by rw[bL,av];omega) (T.out ⟨?_,λ_=>by dsimp only;omega⟩)
   rw[decide_eq_true hz,decide_eq_true (by omega)];rfl
 obtain⟨r,hr⟩:∃r:Nat,(17-d).toNat=r+1:=⟨(17-d).toNat-1,by omega⟩
 rw[hr]
 unfold okB cnB
 rw[<- KO]
 generalize hp:(λa=>bA (ay a).1&&(gD (ay a).2.1&&okB r (ay a).2.2.1))=p
 have hk:∀a,p a=(bA (ay a).1&&(gD (ay a).2.1&&okB r (ay a).2.2.1)):=λa=>by rw[<- hp]
 generalize hf:(λa=>1+cnB r (ay a).2.2.1)=f
 have hfk:∀a,f a=1+cnB r (ay a).2.2.1:=λa=>by rw[<- hf]
 have hle:=BL (f:=f) l
 have hz0:sm f l 0=0:=by unfold sm;simp
 have no:∀{k:Int} {z:Int},0<=k->k<(l.length:Int)->(p (atI l k AV.any)=false\/40<s+(sm f l (k+1).toNat:Int))->(((false,z,()):Bool×Int×Unit).1=(l.all p&&decide (s+((l.map f).sum:Int)<=40))/\(((false,z,()):Bool×Int×Unit).1=true->((false,z,()):Bool×Int×Unit).2.1=s+((l.map f).sum:Int))):=fun{k z} h0 h1 q=>by
  refine⟨?_,λq=>by cases q⟩
  rcases q with q|q
  .rw[pK h0 h1 q];rfl
  .have:=hle (k+1).toNat
   symm;rw[l6];right
   exact decide_eq_false (by omega)
 refine Eq.mpr (congrArg (λz=>T (aJ _ (d,l,aj l,(0:Int),z,())) _) (show s=s+((sm f l (Int.toNat 0):Nat):Int) by show s=s+((sm f l 0:Nat):Int);omega)) (T.pass (l.length:Int) (λk=>p (atI l k AV.any)=true/\s+(sm f l (k+1).toNat:Int)<=40) (λk=>(d,l,aj l,k,s+(sm f l k.toNat:Int),())) (by omega) (λk h0 h1 hp=>?_) (λhp=>?_))
 .dsimp only
  have hm:=hA.2 _ (at_mem AV.any h0 h1)
  have hk:=hk (atI l k AV.any)
  have hz:=yY (f:=f) AV.any h0 h1
  have hfk:=hfk (atI l k AV.any)
  have hs0:s+(sm f l k.toNat:Int)<=40:=by
   by_cases hz:k=0
   .rw[hz];show s+((sm f l 0:Nat):Int)<=40;omega
   .have:=(hp (k-1) (by omega) (by omega)).2
    rwa [show k-1+1=k by omega]at this
  have ea:aB .i64 (s+(sm f l k.toNat:Int)) 1=s+(sm f l k.toNat:Int)+1:=aF (by omega) (by omega)
  rw[ea]
  refine T.ct (by rw[aT,av];exact h1) (T.grd (hg h0 h1) (T.cnd (λhc=>T.out (no h0 h1 ?_)) (λhc=>?_)))<;>simp only[bsX,eq_self]at hc
  .right;omega
  refine T.aO (xY _) (T.cnd (λq=>T.out (no h0 h1 (.inl ?_))) (λq=>T.aO (QV (ay (atI l k AV.any)).2.1 hm.2.1) (T.cnd (λw=>T.out (no h0 h1 (.inl ?_))) (λw=>T.call (hs (_,_,_,()) ⟨hm.2.2,⟨?_,?_,?_⟩,?_,?_⟩) (λy hy=>?_)))))
  .rw[hk,show bA (ay (atI l k AV.any)).1=false from bP.mp q];rfl
  .rw[hk,show gD (ay (atI l k AV.any)).2.1=false from bP.mp w];cases bA (ay (atI l k AV.any)).1<;>rfl
  .dsimp only;rw[aF (by omega) (by omega)];omega
  .dsimp only;rw[aF (by omega) (by omega)];omega
  .dsimp only;rw[aF (by omega) (by omega)];omega
  .dsimp only;omega
  .dsimp only;omega
  rw[show bA (ay (atI l k AV.any)).1=true from nS.mp q,show gD (ay (atI l k AV.any)).2.1=true from nS.mp w]at hk
  dsimp only at hy
  rw[aF (by omega) (by omega),show(17-(d+1)).toNat=r by omega]at hy
  obtain⟨y1,y2⟩:=hy
  cases e:y.1 with
  |false =>
   refine T.out (no h0 h1 ?_)
   rw[e]at y1
   rcases l6.mp y1.symm with w|w
   .left;exact hk.trans w
   .right
    have:=of_decide_eq_false w
    omega
  |true =>
   have y2:=y2 e
   rw[e]at y1
   obtain⟨w1,w2⟩:=cK.mp y1.symm
   have w2:=of_decide_eq_true w2
   refine T.go ⟨?_,hk.trans w1,by omega⟩ (by omega)
   rw[aF (by omega) (by omega),y2]
   congr 5
   omega
 .dsimp only
  refine T.cf (by rw[bL,av];omega) (T.out ?_)
  have ha:l.all p=true:=ny λk h0 h1=>(hp k h0 h1).1
  have hz:sm f l (l.length:Int).toNat=(List.map f l).sum:=by rw[Int.toNat_natCast,BM]
  have hk:s+(sm f l (l.length:Int).toNat:Int)<=40:=by
   by_cases hz:(l.length:Int)=0
   .rw[hz];show s+((sm f l 0:Nat):Int)<=40;omega
   .have:=(hp ((l.length:Int)-1) (by omega) (by omega)).2
    rwa [show(l.length:Int)-1+1=l.length by omega]at this
  rw[ha,Bool.true_and]
  exact⟨(decide_eq_true (by omega)).symm,λ_=>by dsimp only;omega⟩
def iL(k:Int):Int:=cond (iEq k 5) 1073741824 (cond (iEq k 6) 1073741824 (cond (iEq k 7) 1073741824 (cond (iEq k 10) 1073741824 (cond (iEq k 8) 1000000 0))))
theorem Cm(k:Int):rQ k=some (iL k,()):=by
 unfold rQ iL
 cases iEq k 5<;>cases iEq k 6<;>cases iEq k 7<;>cases iEq k 10<;>cases iEq k 8<;>rfl
theorem DU(k:Int):0<=iL k:=by
 unfold iL
 cases iEq k 5<;>cases iEq k 6<;>cases iEq k 7<;>cases iEq k 10<;>cases iEq k 8<;>decide
theorem Zx(k:Int):T (m64 k) (λy=>sEq y.1 (bs [])=!(iLe 1 k&&iLe k 10)):=by
 unfold m64
 by_cases h:1<=k/\k<=10
 .have:k=1\/k=2\/k=3\/k=4\/k=5\/k=6\/k=7\/k=8\/k=9\/k=10:=by omega
  rcases this with rfl|rfl|rfl|rfl|rfl|rfl|rfl|rfl|rfl|rfl<;>exact⟨_,rfl,by dsimp only;kernel_rfl⟩
 .have e:(iLe 1 k&&iLe k 10)=false:=by rw[l6,gy,gy];omega
  rw[e]
  iterate 10 refine T.cf (by rw[jd];omega) ?_
  exact⟨_,rfl,by dsimp only;kernel_rfl⟩
def Bn(k a:Int):Bool:=cond (iEq (iL k) 0) (iEq a 0) (iLe 1 a&&iLe a (iL k))
def LV(k:Int)(l:List AV):Bool:=decide (l.length=0)||(iEq k 3&&(okB 16 l&&decide (cnB 16 l<=40)))
def eG(c:DS1):Bool:=(iLe 1 c.1&&iLe c.1 10)&&(bA c.2.1&&(gD c.2.2.1&&(LV c.1 c.2.2.2.1&&Bn c.1 c.2.2.2.2.1)))
def XCl(c:DS1):Prop:=XX c.2.2.1/\BB c.2.2.2.1
theorem a5b(k a:Int):(cond (cond (iEq (iL k) 0) (iEq a 0) false) (some (true,())) (some (cond (cond (iLt 0 (iL k)) (iLe 1 a) false) (iLe a (iL k)) false,())):Option (Bool×Unit))=some (Bn k a,()):=by
 have:=DU k
 unfold Bn
 generalize iL k=m at *
 rw[Ht]
 congr 2
 rw[Bool.eq_iff_iff]
 by_cases q:m=0
 .subst q;cases h:iEq a 0<;>simp only[bsX,eq_self]at h<;>simp[iEq,iLe,iLt,h]
 .rw[jd.mpr q]
  rw[show iLt 0 m=true by rw[aT];omega]
  cases iLe 1 a<;>cases iLe a m<;>simp
theorem JG(c:DS1)(h:XCl c):m56 c=some (eG c,()):=by
 obtain⟨k,nm,e,l,a,⟨⟩⟩:=c
 obtain⟨h1,d,hb⟩:=h
 dsimp only at h1 hb
 have hb:=hb.up 16
 refine T.eq ?_
 unfold m56 eG
 dsimp only
 rw[show cond (iLt k 1) true (iLt 10 k)=!(iLe 1 k&&iLe k 10) by rw[Bool.eq_iff_iff,kG,aT,aT,bP,l6,gy,gy]]
 cases iLe 1 k&&iLe k 10
 .exact T.ret rfl
 refine T.cf rfl (T.aO (xX _) ?_)
 cases bA nm
 .exact T.ret rfl
 refine T.cf rfl (T.aO (QU e h1) ?_)
 cases gD e
 .exact T.ret rfl
 have am:∀b:Bool,b=true->T ((rQ k).bind λy=>cond (cond (iEq y.1 0) (iEq a 0) false) (some (true,())) (some (cond (cond (iLt 0 y.1) (iLe 1 a) false) (iLe a y.1) false,()))) (λy=>y=((true&&(true&&(true&&(b&&Bn k a)))),())):=λb q=>by
  refine T.aO (Cm k) ?_
  dsimp only
  rw[a5b,q];exact T.ret rfl
 refine T.cf rfl ?_
 unfold LV
 refine T.cnd (λhc=>?_) (λhc=>am _ ?_)
 .rw[aT,av]at hc
  rw[decide_eq_false (show ¬l.length=0 by omega),Bool.false_or,show iNe k 3=!iEq k 3 by rw[Bool.eq_iff_iff,jX,bP,jd]]
  cases iEq k 3
  .exact T.ret rfl
  refine T.cf rfl (T.aO (YK hb) ?_)
  have bk:Ux l 16=some (okB 16 l,()):=T.eq (Z0 (F:=10000) (x:=(l,16,())) ⟨⟨_,hb⟩,by dsimp only;omega,by dsimp only;omega,by dsimp only;omega⟩)
  rw[bk]
  cases q:okB 16 l with
  |false=>exact T.cnd (λ_=>T.ret rfl) (λ_=>T.ret rfl)
  |true =>
   have e1:=WO q d
   rw[Nat.add_comm]at e1
   rw[e1]
   by_cases hn:cnB 16 l<=40
   .rw[decide_eq_true hn]
    exact T.cf (by rw[bL];omega) (am true rfl)
   .rw[decide_eq_false hn]
    exact T.ct (by rw[aT];omega) (T.ret rfl)
 .rw[bL,av]at hc
  rw[decide_eq_true (show l.length=0 by omega)];rfl
theorem Zz(k:Int)(l:List AV):LV k l=cond (cond (iNe k 3) (iLt 0 (aj l)) false) false (okB 16 l&&decide (cnB 16 l<=40)):=by
 unfold LV
 rw[show iNe k 3=!iEq k 3 by rw[Bool.eq_iff_iff,jX,bP,jd],show iLt 0 (aj l)=!decide (l.length=0) by rw[Bool.eq_iff_iff,aT,bP,decide_eq_false_iff_not,av];omega]
 by_cases h:l.length=0
 .have:l=[]:=List.length_eq_zero_iff.1 h
  subst this
  cases iEq k 3<;>simp[okB,cnB]
 .rw[decide_eq_false h]
  cases iEq k 3<;>rfl
theorem a5c(k a:Int):cond (iLt a (dG 1 (iL k))) true (iLt (iL k) a)=!Bn k a:=by
 have:=DU k
 unfold Bn dG
 generalize iL k=m at *
 by_cases q:m=0
 .subst q
  rw[wJ.mpr rfl,cond_true,Bool.eq_iff_iff,kG,aT,aT,bP,jd];omega
 .rw[jd.mpr q,cond_false,Bool.eq_iff_iff,kG,aT,aT,bP,l6,gy,gy];omega
theorem Vm(c:DS1)(h:XCl c):m52 c=some (eG c,()):=by
 obtain⟨k,nm,e,l,a,⟨⟩⟩:=c
 obtain⟨h1,h2⟩:=h
 dsimp only at h1 h2
 refine T.eq ?_
 unfold m52 eG
 dsimp only
 refine T.call (Zx k) (λy hy=>?_)
 rw[hy,Zz]
 cases iLe 1 k&&iLe k 10
 .exact T.ret rfl
 refine T.cf rfl (T.aO (xY _) ?_)
 cases bA nm
 .exact T.ret rfl
 refine T.cf rfl (T.aO (QV e h1) ?_)
 cases gD e
 .exact T.ret rfl
 refine T.cf rfl ?_
 cases cond (iNe k 3) (iLt 0 (aj l)) false
 .refine T.cf rfl (T.aO (show m65 k=some (iL k,()) from Cm k) ?_)
  dsimp only
  rw[a5c]
  cases Bn k a
  .exact T.ret (by cases okB 16 l&&decide (cnB 16 l<=40)<;>rfl)
  refine T.cf rfl (T.call (X0 (F:=10000) (x:=(l,1,0,())) ⟨h2,by dsimp only;omega,by dsimp only;omega,by dsimp only;omega⟩) (λy hy=>T.ret ?_))
  have e1:y.1=(okB 16 l&&decide ((0:Int)+(cnB 16 l:Int)<=40)):=hy.1
  rw[e1,show decide ((0:Int)+(cnB 16 l:Int)<=40)=decide (cnB 16 l<=40) by rw[decide_eq_decide];omega]
  cases okB 16 l&&decide (cnB 16 l<=40)<;>rfl
 .exact T.ret rfl
def iY(l:List DS1):Bool:=decide (l.length<=40)&&l.all eG
theorem FD(l:List DS1)(h:∀c∈l,XCl c):m27 l=some (iY l,()):=by
 unfold m27 iY
 have hl:=av l
 by_cases hc:l.length<=40
 .rw[bL.mpr (by omega),decide_eq_true hc,Bool.true_and]
  refine T.Vw l zS1 eG (λk=>(l,k,())) (λk h0 h1=>?_) ?_
  .dsimp only
   refine T.ct (by rw[aT];omega) (T.grd (by rw[aP];omega) (T.aO (JG _ (h _ (at_mem _ h0 h1))) (T.round ?_ id (λq=>⟨q,rfl⟩))))
   rw[aF (by omega) (by omega)]
  .dsimp only
   rw[bL.mpr (by omega)];rfl
 .rw[aT.mpr (by omega),decide_eq_false hc];rfl
theorem FE(l:List DS1)(h:∀c∈l,XCl c):m25 l=some (iY l,()):=by
 unfold m25 iY
 have hl:=av l
 by_cases hc:l.length<=40
 .rw[bL.mpr (by omega),decide_eq_true hc,Bool.true_and]
  refine T.Vw l zS1 eG (λk=>(l,aj l,k,())) (λk h0 h1=>?_) ?_
  .dsimp only
   refine T.ct (by rw[aT];omega) (T.grd (by rw[aP];omega) (T.aO (Vm (atI l k zS1) (h _ (at_mem _ h0 h1))) (T.round ?_ id (λq=>⟨q,rfl⟩))))
   rw[aF (by omega) (by omega)]
  .dsimp only
   rw[bL.mpr (by omega)];rfl
 .rw[aT.mpr (by omega),decide_eq_false hc];rfl
def uS(p:DS2):Bool:=cond (cond (iLe 0 p.1) (iLt p.1 p.2.1) false) (iLe p.2.1 876600) false&&iLe p.2.1 876599
def nJ(x:DS3):Bool:=(uS x.1&&decide (List.length (α:=ByteArray) x.2.1<=40))&&((List.all x.2.1 bA&&dst x.2.1)&&iY x.2.2.1)
def XEn(x:DS3):Prop:=List.length (α:=ByteArray) x.2.1<=9223372036854775807/\∀c∈x.2.2.1,XCl c
theorem PX(p:DS2)(n:Nat):cond (cond (not (cond (cond (iLe 0 p.1) (iLt p.1 p.2.1) false) (iLe p.2.1 876600) false)) true (iLt 876599 p.2.1)) true (iLt 40 (n:Int))=!(uS p&&decide (n<=40)):=by
 unfold uS
 rw[show iLt 876599 p.2.1=!iLe p.2.1 876599 by rw[Bool.eq_iff_iff,aT,bP,gy],show iLt 40 (n:Int)=!decide (n<=40) by rw[Bool.eq_iff_iff,aT,bP,decide_eq_false_iff_not];omega]
 cases cond (cond (iLe 0 p.1) (iLt p.1 p.2.1) false) (iLe p.2.1 876600) false<;>cases iLe p.2.1 876599<;>cases decide (n<=40)<;>rfl
theorem a4L(x:DS3)(h:XEn x):m26 x=some (nJ x,()):=by
 obtain⟨⟨f,t,⟨⟩⟩,l,cs,⟨⟩⟩:=x
 obtain⟨h1,h2⟩:=h
 dsimp only at h1 h2
 have hl:=av l
 refine T.eq ?_
 unfold m26 nJ
 refine T.aO (show m53 (f,t,())=some _ from rfl) ?_
 dsimp only
 rw[hl,PX (f,t,PUnit.unit) l.length]
 cases hc:uS (f,t,PUnit.unit)&&decide (l.length<=40)
 .exact T.ret rfl
 have hc:=of_decide_eq_true (cK.mp hc).2
 refine T.cf rfl ?_
 rw[Bool.true_and]
 refine T.pass (l.length:Int) (λk=>bA (atI l k ByteArray.empty)=true/\∀j,0<=j->j<k->¬atI l k ByteArray.empty=atI l j ByteArray.empty) (λk=>(l,(l.length:Int),k,f,t,l,cs,())) (by omega) (λk h0 h1 _=>?_) (λhp=>?_)
 .dsimp only
  have hc:(jQ 0 k l).length<=9223372036854775807:=by rw[show jQ 0 k l=l.take k.toNat from rfl,List.length_take];omega
  refine T.ct (by rw[aT];omega) (T.grd (by rw[aP];omega) (T.aO (xY _) ?_))
  refine T.grd (by rw[kY,Es];left;omega) (T.cnd (λq=>T.out ?_) (λq=>T.aO (D7 _ _ hc) ?_))
  .rw[KW h0 h1 (bP.mp q)];rfl
  refine T.cnd (λr=>T.out ?_) (λr=>T.go ⟨?_,nS.mp q,(Ec h0 (by omega)).mp r⟩ (by omega))
  .rw[KX h0 h1 r];rfl
  .rw[aF (by omega) (by omega)]
 .dsimp only
  refine T.cf (by rw[bL];omega) (T.eP (T.aO (FE cs h2) (T.ret ?_)))
  rw[Ef hp];rfl
def pV(w:DS4):Bool:=decide (List.length (α:=DS3) w.2.1<=12)&&(iY w.1&&List.all w.2.1 nJ)
def XW(w:DS4):Prop:=(∀c∈w.1,XCl c)/\∀x∈w.2.1,XEn x
theorem xq(w:DS4)(h:XW w):m16 w=some (pV w,()):=by
 obtain⟨cs,l,⟨⟩⟩:=w
 obtain⟨h1,h2⟩:=h
 dsimp only at h1 h2
 have hl:=av l
 refine T.eq ?_
 unfold m16 pV
 dsimp only
 refine T.cnd (λhc=>T.ret ?_) (λhc=>?_)<;>simp only[bsX,eq_self]at hc
 .rw[decide_eq_false (by omega)];rfl
 rw[decide_eq_true (by omega),Bool.true_and]
 refine T.aO (FD cs h1) ?_
 cases iY cs
 .exact T.ret rfl
 refine T.cf rfl ?_
 rw[Bool.true_and]
 refine T.pass (l.length:Int) (λk=>nJ (atI l k zS3)=true) (λk=>(k,cs,l,())) (by omega) (λk h0 h1 _=>?_) (λhp=>?_)
 .dsimp only
  have hx:=h2 _ (at_mem zS3 h0 h1)
  have no:nJ (atI l k zS3)=false->((false,()):Bool×Unit)=(List.all l nJ,()):=λq=>by rw[pK h0 h1 q]
  have he:nJ (atI l k zS3)=((uS (atI l k zS3).1&&decide (List.length (α:=ByteArray) (atI l k zS3).2.1<=40))&&((List.all (atI l k zS3).2.1 bA&&dst (atI l k zS3).2.1)&&iY (atI l k zS3).2.2.1)):=rfl
  generalize atI l k zS3=x at hx no he ⊢
  obtain⟨⟨f,t,⟨⟩⟩,rm,cl,⟨⟩⟩:=x
  obtain⟨r1,r2⟩:=hx
  dsimp only at r1 r2 he ⊢
  refine T.ct (by rw[aT];omega) (T.grd (by rw[aP];omega) (T.aO (show m28 (f,t,())=some _ from rfl) ?_))
  dsimp only
  rw[av rm,PX (f,t,PUnit.unit) rm.length]
  cases q1:uS (f,t,PUnit.unit)&&decide (rm.length<=40)
  .rw[q1]at he;exact T.out (no he)
  rw[q1]at he
  refine T.cf rfl (T.aO (DT rm r1) ?_)
  cases q2:List.all rm bA
  .rw[q2]at he;exact T.out (no he)
  rw[q2]at he
  refine T.cf rfl (T.aO (wS rm r1) ?_)
  cases q3:dst rm
  .rw[q3]at he;exact T.out (no he)
  rw[q3]at he
  refine T.cf rfl (T.aO (FD cl r2) (T.round ?_ (λq=>he.trans q) (λq=>no (he.trans q))))
  rw[aF (by omega) (by omega)]
 .dsimp only
  exact T.cf (by rw[bL];omega) (T.out (by rw[ny hp]))
theorem xu(w:DS4)(h:XW w):m15 w=some (pV w,()):=by
 obtain⟨cs,l,⟨⟩⟩:=w
 obtain⟨h1,h2⟩:=h
 dsimp only at h1 h2
 have hl:=av l
 refine T.eq ?_
 unfold m15 pV
 dsimp only
 refine T.cnd (λhc=>T.ret ?_) (λhc=>?_)<;>simp only[bsX,eq_self]at hc
 .rw[decide_eq_false (by omega)];rfl
 rw[decide_eq_true (by omega),Bool.true_and]
 refine T.aO (FE cs h1) ?_
 cases iY cs
 .exact T.ret rfl
 refine T.cf rfl ?_
 rw[Bool.true_and]
 refine T.pass (l.length:Int) (λk=>nJ (atI l k zS3)=true) (λk=>(l,aj l,k,())) (by omega) (λk h0 h1 _=>?_) (λhp=>?_)
 .dsimp only
  refine T.ct (by rw[aT];omega) (T.grd (by rw[aP];omega) (T.aO (a4L (atI l k zS3) (h2 _ (at_mem _ h0 h1))) (T.round ?_ id (λq=>?_))))
  .rw[aF (by omega) (by omega)]
  .rw[pK h0 h1 q]
 .dsimp only
  exact T.cf (by rw[bL];omega) (T.out (by rw[ny hp]))
theorem a1u(s:ByteArray):T (m57 s) (λ_=>True):=T.of (xX s) trivial
theorem Yj(l:List ByteArray)(h:Bd l.length):T (m29 l) (λ_=>True):=T.of (DT l (by omega)) trivial
theorem Od(l:List ByteArray)(h:Bd l.length):T (m30 l) (λ_=>True):=T.of (wS l (by omega)) trivial
theorem a2A(a:DS5)(h:Bd (List.length (α:=ByteArray) a.2.2.1)):T (Ni a) (λy=>True):=by
 unfold Ni
 repeat' (first|(refine T.aO (show rP _=some _ from rfl) ?_)|(refine T.call (Yj _ (by assumption)) (λ_ _=>?_))|(refine T.call (Od _ (by assumption)) (λ_ _=>?_))|(refine T.grd ?_ ?_)|(refine T.cnd (λhc=>?_) (λhc=>?_)<;>try simp only[bsX,eq_self]at hc)|(refine T.ret ?_))
 all_goals(try dsimp only[LQ,JQ])
 all_goals(repeat' (with_reducible refine And.intro ?_ ?_))<;>first|trivial|assumption|omega|(first|(simp(disch:=omega) only[bsX,eq_self,arX];omega)|(simp(disch:=omega) only[bsX,eq_self,arX];done))
theorem Ti(a:DS6)(h:Bd (List.length a.1))(h2:∀x∈a.1,Bd (List.length (α:=ByteArray) x.2.2.1)):T (Np a) (λy=>True):=by
 unfold Np
 repeat' (first|(refine T.call (a1u _) (λ_ _=>?_))|(refine T.call (a2A _ k3) (λ_ _=>?_))|(refine T.loop (λq=>q.1=s.1/\0<=q.2.1/\List.length q.2.2.1=List.length s.2.1/\Bd (List.length (α:=ByteArray) q.2.2.2.2.2.1)/\∀x∈q.2.2.1,Bd (List.length (α:=ByteArray) x.2.2.1)) (λq=>(s.1-q.2.1).toNat) ?_ (λq ⟨k0,k1,k2,k3,k4⟩=>?_))|(refine T.loop (λs=>0<=s.1/\Bd (List.length s.2.1)/\∀x∈s.2.1,Bd (List.length (α:=ByteArray) x.2.2.1)) (λs=>((List.length s.2.1:Int)-s.1).toNat) ?_ (λs ⟨j0,j1,j2⟩=>?_))|(refine T.grd ?_ ?_)|(refine T.cnd (λhc=>?_) (λhc=>?_)<;>try simp only[bsX,eq_self]at hc)|(refine T.eP ?_)|(refine T.go ?_ ?_)|(refine T.out ?_)|(refine T.ret ?_))
 all_goals(try dsimp only[LQ,JQ])
 all_goals(repeat' (with_reducible refine And.intro ?_ ?_))<;>first|trivial|assumption|omega|(first|(simp(disch:=omega) only[bsX,eq_self,arX];omega)|(simp(disch:=omega) only[bsX,eq_self,arX];done))|exact j2 _ (at_mem _ (by omega) (by omega))
def WE:Nat->DS0->Prop
 |0,_=>False
 |k+1,e=>Bd (List.length (α:=ByteArray) e.2.2.1)/\List.length (α:=AV) e.2.2.2.2.2.1<=3/\∀a∈e.2.2.2.2.2.1,jK a=true/\WE k (aL a)
def WA(k:Nat)(l:List AV):Prop:=∀a∈l,jK a=true/\WE k (aL a)
def WB:Nat->List AV->Prop
 |0,_=>False
 |k+1,l=>Bd l.length/\∀a∈l,eu a=true/\WE 10 (ay a).2.1/\WB k (ay a).2.2.1
def WBA(k:Nat)(l:List AV):Prop:=∀a∈l,eu a=true/\WE 10 (ay a).2.1/\WB k (ay a).2.2.1
theorem WE.up:∀{k:Nat} {e:DS0},WE k e->∀d,WE (k+d) e
 |0,_,h,_=>h.elim
 |k+1,e,h,d=>by
  rw[show k+1+d=(k+d)+1 by omega]
  exact⟨h.1,h.2.1,λa ha=>⟨(h.2.2 a ha).1,(h.2.2 a ha).2.up d⟩⟩
theorem WB.up:∀{k:Nat} {l:List AV},WB k l->∀d,WB (k+d) l
 |0,_,h,_=>h.elim
 |k+1,l,h,d=>by
  rw[show k+1+d=(k+d)+1 by omega]
  exact⟨h.1,λa ha=>⟨(h.2 a ha).1,(h.2 a ha).2.1,(h.2 a ha).2.2.up d⟩⟩
theorem WE.to{k:Nat}{e:DS0}(h:WE k e){m:Nat}(hm:k<=m):WE m e:=by have:=h.up (m-k);rwa [show k+(m-k)=m by omega]at this
theorem WB.to{k:Nat}{l:List AV}(h:WB k l){m:Nat}(hm:k<=m):WB m l:=by have:=h.up (m-k);rwa [show k+(m-k)=m by omega]at this
def WC(c:DS1):Prop:=WE 10 c.2.2.1/\WB 10 c.2.2.2.1
theorem a1y(k:Int):T (rQ k) (λy=>0<=y.1/\y.1<=1073741824):=by
 unfold rQ
 repeat' (first|(refine T.grd ?_ ?_)|(refine T.cnd (λhc=>?_) (λhc=>?_)<;>try simp only[bsX,eq_self]at hc)|(refine T.ret ?_))
 all_goals(try dsimp only[LQ,JQ])
 all_goals(repeat' (with_reducible refine And.intro ?_ ?_))<;>first|trivial|assumption|omega|(first|(simp(disch:=omega) only[bsX,eq_self,arX];omega)|(simp(disch:=omega) only[bsX,eq_self,arX];done))
theorem WE.x:∀{k:Nat} {e:DS0},WE k e->XE k e/\dpE k e=true
 |0,_,h=>h.elim
 |k+1,e,h=>⟨⟨by have:=h.1;omega,by have:=h.2.1;omega,λa ha=>⟨(h.2.2 a ha).1,(h.2.2 a ha).2.x.1⟩⟩,List.all_eq_true.2 λa ha=>(h.2.2 a ha).2.x.2⟩
theorem WB.x:∀{k:Nat} {l:List AV},WB k l->XB k l
 |0,_,h=>h.elim
 |k+1,l,h=>⟨by have:=h.1;omega,λa ha=>⟨(h.2 a ha).1,⟨_,(h.2 a ha).2.1.x.1⟩,(h.2 a ha).2.2.x⟩⟩
theorem WC.x{c:DS1}(h:WC c):XCl c:=⟨⟨_,h.1.x.1⟩,_,h.2.x⟩
theorem Vn(a:DS1)(h:WC a):T (m56 a) (λy=>y=(eG a,())):=T.of (JG a h.x) rfl
theorem Og(l:List DS1)(s:ByteArray)(h:Bd l.length):T (DY l s) (λy=>y.2.1=true->0<=y.1/\y.1<(List.length l:Int)):=by
 unfold DY
 repeat' (first|(refine T.loop (λs=>0<=s.2.2.1/\s.1=l) (λs=>((List.length l:Int)-s.2.2.1).toNat) ?_ (λs ⟨j0,j1⟩=>?_))|(refine T.grd ?_ ?_)|(refine T.cnd (λhc=>?_) (λhc=>?_)<;>try simp only[bsX,eq_self]at hc)|(refine T.go ?_ ?_)|(refine T.out ?_)|(refine T.ret ?_))
 all_goals(try dsimp only[LQ,JQ])
 all_goals(repeat' (with_reducible refine And.intro ?_ ?_))<;>first|trivial|assumption|omega|(first|(simp(disch:=omega) only[bsX,eq_self,arX];omega)|(simp(disch:=omega) only[bsX,eq_self,arX];done))|(intro _;first|omega|(refine⟨by omega,?_⟩;rw[j1]at *;omega))|(rw[j1]at *;simp(disch:=omega) only[bsX,eq_self,arX];omega)|(intro q;cases q)
theorem KS(l:DS6)(s:ByteArray)(h:Bd (List.length l.1)):T (J2 l s) (λy=>y.2.1=true->0<=y.1/\y.1<(List.length l.1:Int)):=by
 unfold J2
 repeat' (first|(refine T.loop (λs=>0<=s.2.1/\s.2.2.1=l.1) (λs=>((List.length l.1:Int)-s.2.1).toNat) ?_ (λs ⟨j0,j1⟩=>?_))|(refine T.grd ?_ ?_)|(refine T.cnd (λhc=>?_) (λhc=>?_)<;>try simp only[bsX,eq_self]at hc)|(refine T.go ?_ ?_)|(refine T.out ?_)|(refine T.ret ?_))
 all_goals(try dsimp only[LQ,JQ])
 all_goals(repeat' (with_reducible refine And.intro ?_ ?_))<;>first|trivial|assumption|omega|(first|(simp(disch:=omega) only[bsX,eq_self,arX];omega)|(simp(disch:=omega) only[bsX,eq_self,arX];done))|(intro _;first|omega|(refine⟨by omega,?_⟩;rw[j1]at *;omega))|(rw[j1]at *;simp(disch:=omega) only[bsX,eq_self,arX];omega)|(intro q;cases q)
theorem EH(l:List ByteArray)(s:ByteArray)(h:Bd l.length):T (IX l s) (λy=>True):=by
 unfold IX
 repeat' (first|(refine T.loop (λs=>0<=s.2.2.1/\Bd (List.length s.1)) (λs=>((List.length s.1:Int)-s.2.2.1).toNat) ?_ (λs ⟨k0,k1⟩=>?_))|(refine T.grd ?_ ?_)|(refine T.cnd (λhc=>?_) (λhc=>?_)<;>try simp only[bsX,eq_self]at hc)|(refine T.go ?_ ?_)|(refine T.out ?_)|(refine T.ret ?_))
 all_goals(try dsimp only[LQ,JQ])
 all_goals(repeat' (with_reducible refine And.intro ?_ ?_))<;>first|trivial|assumption|omega|(first|(simp(disch:=omega) only[bsX,eq_self,arX];omega)|(simp(disch:=omega) only[bsX,eq_self,arX];done))
theorem CQ(l:List DS1)(s:ByteArray)(h:Bd l.length):T (m9 l s) (λy=>(y.2.1=true->0<=y.1/\y.1<(List.length l:Int))/\∀j,0<=j->j<y.1->¬(atI l j zS1).2.1=s):=by
 unfold m9
 have hl:=av l
 refine T.pass (l.length:Int) (λk=>¬(atI l k zS1).2.1=s) (λk=>(l,s,k,())) (by omega) (λk h0 h1 hp=>?_) (λhp=>?_)
 .dsimp only
  refine T.ct (by rw[aT];omega) (T.grd (by rw[aP];omega) (T.cnd (λq=>T.out ⟨λ_=>⟨h0,h1⟩,hp⟩) (λq=>T.go ⟨?_,Mj.mp q⟩ (by omega))))
  rw[aF (by omega) (by omega)]
 .dsimp only
  exact T.cf (by rw[bL];omega) (T.out ⟨λq=>Bool.noConfusion q,λj j0 j1=>by dsimp only at j1;omega⟩)
def SB(a:DS6):Prop:=Bd (List.length a.1)/\∀x∈a.1,Bd (List.length (α:=ByteArray) x.2.2.1)
def CB(l:List DS1):Prop:=l.length<=500/\∀c∈l,WC c
theorem Yh(s:DS6)(l:List DS1)(a:DS0)(h:SB s)(h2:Bd (List.length (α:=ByteArray) a.2.2.1))(h3:Bd l.length):T (Nh s l a) (λy=>True):=by
 unfold Nh
 refine T.call (KS (s.1,()) _ h.1) (λu q=>?_)
 dsimp only at q
 have hb:u.2.1=true->bnd u.1 (aj s.1)=true:=λe=>by have:=q e;rw[aP,av];omega
 have hm:u.2.1=true->Bd (List.length (α:=ByteArray) (atI s.1 u.1 zS5).2.2.1):=λe=>h.2 _ (at_mem _ (q e).1 (q e).2)
 repeat' (first|(refine T.call (Og _ _ h3) (λ_ _=>?_))|(refine T.call (EH _ _ (by assumption)) (λ_ _=>?_))|(refine T.loop (λs=>0<=s.1/\Bd (List.length (α:=ByteArray) s.2.2.2.1)/\Bd (List.length (α:=ByteArray) s.2.2.2.2.2.2.2.2.2.1)) (λs=>((List.length (α:=ByteArray) s.2.2.2.1:Int)-s.1).toNat) ?_ (λs ⟨j0,j1,j2⟩=>?_))|(refine T.grd ?_ ?_)|(refine T.cnd (λhc=>?_) (λhc=>?_)<;>try simp only[bsX,eq_self]at hc)|(refine T.eP ?_)|(refine T.go ?_ ?_)|(refine T.out ?_)|(refine T.jgo ?_)|(refine T.jN ?_)|(refine T.mO ?_)|(refine T.ret ?_))
 all_goals(try dsimp only[LQ,JQ])
 all_goals(repeat' (with_reducible refine And.intro ?_ ?_))<;>first|trivial|assumption|omega|(first|(simp(disch:=omega) only[bsX,eq_self,arX];omega)|(simp(disch:=omega) only[bsX,eq_self,arX];done))|exact hb (by assumption)|exact hm (by assumption)|(cases hu:u.2.1<;>simp[hb,hu,bEq])
theorem IK{n:Nat}{x:DS6×List DS1×DS0×Unit}(h:WE n x.2.2.1/\SB x.1/\Bd (List.length x.2.1)):T (bg (λself (x:DS6×List DS1×DS0×Unit)=>Gq self x.1 x.2.1 x.2.2.1) n x) (λy:Int×Unit=>True):=by
 refine T.iter (λn (x:DS6×List DS1×DS0×Unit)=>WE n x.2.2.1/\SB x.1/\Bd (List.length x.2.1)) (λ_ _ (y:Int×Unit)=>True) (λn x h self hs=>?_) (λx h=>h.1.elim) n x h
 unfold Gq
 obtain⟨⟨e1,e2,e3⟩,h4,h5⟩:=h
 have e3:WA n _:=e3
 repeat' (first|(refine T.call (Yh _ _ _ h4 e1 h5) (λ_ _=>?_))|(refine T.call (hs _ ⟨(j2 _ (at_mem _ (by omega) (by omega))).2,j3,j4⟩) (λ_ _=>?_))|(refine T.loop (λs=>0<=s.2.1/\Bd (List.length s.2.2.2.2.2.2.2.2.1)/\WA n s.2.2.2.2.2.2.2.2.1/\SB (s.2.2.1,())/\Bd (List.length s.1)) (λs=>((List.length s.2.2.2.2.2.2.2.2.1:Int)-s.2.1).toNat) ?_ (λs ⟨j0,j1,j2,j3,j4⟩=>?_))|(refine T.grd ?_ ?_)|(refine T.cnd (λhc=>?_) (λhc=>?_)<;>try simp only[bsX,eq_self]at hc)|(refine T.go ?_ ?_)|(refine T.out ?_)|(refine T.ret ?_))
 all_goals(try dsimp only[LQ,JQ])
 all_goals(repeat' (with_reducible refine And.intro ?_ ?_))<;>first|trivial|assumption|omega|(first|(simp(disch:=omega) only[bsX,eq_self,arX];omega)|(simp(disch:=omega) only[bsX,eq_self,arX];done))|exact cK.mpr ⟨by rw[aP,av];omega,(j2 _ (at_mem _ (by omega) (by omega))).1⟩
theorem Vt{n:Nat}{x:DS6×List DS1×List AV×Unit}(h:WB n x.2.2.1/\SB x.1/\Bd (List.length x.2.1)):T (bg (λself (x:DS6×List DS1×List AV×Unit)=>Gp self x.1 x.2.1 x.2.2.1) n x) (λy:Int×Unit=>True):=by
 refine T.iter (λn (x:DS6×List DS1×List AV×Unit)=>WB n x.2.2.1/\SB x.1/\Bd (List.length x.2.1)) (λ_ _ (y:Int×Unit)=>True) (λn x h self hs=>?_) (λx h=>h.1.elim) n x h
 unfold Gp
 obtain⟨⟨e1,e3⟩,h4,h5⟩:=h
 have e3:WBA n _:=e3
 repeat' (first|(refine T.call (IK (x:=(_,_,_,())) ⟨(j2 _ (at_mem _ (by omega) (by omega))).2.1.to (by omega),j3,j4⟩) (λ_ _=>?_))|(refine T.call (hs _ ⟨(j2 _ (at_mem _ (by omega) (by omega))).2.2,j3,j4⟩) (λ_ _=>?_))|(refine T.loop (λs=>0<=s.2.2.1/\Bd (List.length s.2.1)/\WBA n s.2.1/\SB (s.2.2.2.1,())/\Bd (List.length s.1)) (λs=>((List.length s.2.1:Int)-s.2.2.1).toNat) ?_ (λs ⟨j0,j1,j2,j3,j4⟩=>?_))|(refine T.grd ?_ ?_)|(refine T.cnd (λhc=>?_) (λhc=>?_)<;>try simp only[bsX,eq_self]at hc)|(refine T.go ?_ ?_)|(refine T.out ?_)|(refine T.ret ?_))
 all_goals(try dsimp only[LQ,JQ])
 all_goals(repeat' (with_reducible refine And.intro ?_ ?_))<;>first|trivial|assumption|omega|(first|(simp(disch:=omega) only[bsX,eq_self,arX];omega)|(simp(disch:=omega) only[bsX,eq_self,arX];done))|exact cK.mpr ⟨by rw[aP,av];omega,(j2 _ (at_mem _ (by omega) (by omega))).1⟩
theorem a2X(l:List ByteArray)(s:ByteArray)(h:l.length<=1000000000):T (Nc l s) (λy=>List.length (α:=ByteArray) y.1<=l.length+1):=by
 unfold Nc
 refine T.loop (λs=>0<=s.2.2.2.1/\s.1.length=l.length/\(s.2.2.2.2.1.length:Int)<=s.2.2.2.1+1/\s.2.2.2.1<=(l.length:Int)/\(s.2.2.1=false->(s.2.2.2.2.1.length:Int)<=s.2.2.2.1)) (λs=>((l.length:Int)-s.2.2.2.1).toNat) ⟨by simp,rfl,by simp,by simp,by simp⟩ (λs ⟨j0,j1,j2,j5,j3⟩=>?_)
 cases hb:s.2.2.1
 .have j4:=j3 hb
  simp only[Bool.not_false,cond_true]
  repeat' (first|(refine T.grd ?_ ?_)|(refine T.cnd (λhc=>?_) (λhc=>?_)<;>try simp only[bsX,eq_self]at hc)|(refine T.eP ?_)|(refine T.go ?_ ?_)|(refine T.out ?_)|(refine T.jgo ?_)|(refine T.jN ?_)|(refine T.mO ?_)|(refine T.ret ?_))
  all_goals(try dsimp only[LQ,JQ])
  all_goals(repeat' (with_reducible refine And.intro ?_ ?_))<;>first|trivial|assumption|omega|(first|(simp(disch:=omega) only[bsX,eq_self,arX];omega)|(simp(disch:=omega) only[bsX,eq_self,arX];done))|exact λq=>Bool.noConfusion q|(intro _;(first|(simp(disch:=omega) only[bsX,eq_self,arX];omega)|(simp(disch:=omega) only[bsX,eq_self,arX];done)))
 .clear j3
  simp only[Bool.not_true,cond_false]
  repeat' (first|(refine T.grd ?_ ?_)|(refine T.cnd (λhc=>?_) (λhc=>?_)<;>try simp only[bsX,eq_self]at hc)|(refine T.eP ?_)|(refine T.go ?_ ?_)|(refine T.out ?_)|(refine T.jgo ?_)|(refine T.jN ?_)|(refine T.mO ?_)|(refine T.ret ?_))
  all_goals(try dsimp only[LQ,JQ])
  all_goals(repeat' (with_reducible refine And.intro ?_ ?_))<;>first|trivial|assumption|omega|(first|(simp(disch:=omega) only[bsX,eq_self,arX];omega)|(simp(disch:=omega) only[bsX,eq_self,arX];done))|exact λq=>Bool.noConfusion q|(intro q;rw[hb]at q;cases q)
def pw:Nat->Nat
 |0=>1
 |n+1=>4*pw n
theorem PU:∀n,1<=pw n
 |0=>Nat.le_refl _
 |n+1=>by have:=PU n;simp only[pw];omega
theorem a0i:pw 10=1048576:=by simp[pw]
theorem UW:∀(k n:Nat) (x:List ByteArray×DS0×Unit),k<=n->WE k x.2.1->x.1.length+pw k<=1000000000->T (bg (λself (x:List ByteArray×DS0×Unit)=>zq self x.1 x.2.1) n x) (λy:List ByteArray×Unit=>y.1.length<=x.1.length+pw k):=by
 intro k
 induction k with
 |zero=>intro n x _ h;exact h.elim
 |succ n ih =>
 intro m x hn h h4
 obtain⟨m,rfl⟩:∃m',m=m'+1:=⟨m-1,by omega⟩
 have hs:=λy=>ih m y (by omega)
 show T (zq (bg _ m) x.1 x.2.1) _
 generalize bg (λself (x:List ByteArray×DS0×Unit)=>zq self x.1 x.2.1) m=self at hs ⊢
 clear ih hn
 unfold zq
 obtain⟨e1,e2,e3⟩:=h
 have e3:WA n _:=e3
 have hG:=PU n
 simp only[pw]at h4 ⊢
 have hmul:∀i:Int,0<=i->(i+1).toNat*pw n=i.toNat*pw n+pw n:=λi hi=>by rw[show(i+1).toNat=i.toNat+1 by omega,Nat.succ_mul]
 have hle:∀(i:Int) (m:Nat),i<=m->i.toNat*pw n<=m*pw n:=λi m hi=>Nat.mul_le_mul_right _ (by omega)
 repeat' (first|(refine T.call (a2X _ _ (by omega)) (λv q=>?_))|(refine T.call (hs (_,_,()) (j4 _ (at_mem _ (by omega) (by omega))).2 (by have:=hle s.2.1 2 (by omega);dsimp only;omega)) (λu q=>?_))|(refine T.loop (λs=>0<=s.2.1/\List.length s.2.2.2.2.2.2.2.1<=3/\s.2.1<=(List.length s.2.2.2.2.2.2.2.1:Int)/\WA n s.2.2.2.2.2.2.2.1/\s.1.length<=x.1.length+1+s.2.1.toNat*pw n) (λs=>(3-s.2.1).toNat) ?_ (λs ⟨j1,j2,j3,j4,j5⟩=>?_))|(refine T.grd ?_ ?_)|(refine T.cnd (λhc=>?_) (λhc=>?_)<;>try simp only[bsX,eq_self]at hc)|(refine T.eP ?_)|(refine T.go ?_ ?_)|(refine T.out ?_)|(refine T.jgo ?_)|(refine T.jN ?_)|(refine T.mO ?_)|(refine T.ret ?_))
 all_goals(try dsimp only[LQ,JQ])
 all_goals(repeat' (with_reducible refine And.intro ?_ ?_))<;>first|trivial|assumption|omega|(first|(simp(disch:=omega) only[bsX,eq_self,arX];omega)|(simp(disch:=omega) only[bsX,eq_self,arX];done))|exact cK.mpr ⟨by rw[aP,av];omega,(j4 _ (at_mem _ (by omega) (by omega))).1⟩|(rw[aF (by omega) (by omega),hmul _ (by omega)];dsimp only at q;omega)|(have:=hle s.2.1 3 (by omega);omega)|(simp;omega)
theorem a2e(l:List ByteArray)(e:DS0)(h:WE 10 e)(h2:l.length+pw 10<=1000000000):T (Ur l e) (λy:List ByteArray×Unit=>y.1.length<=l.length+pw 10):=UW 10 10000 (l,e,()) (by omega) h h2
theorem Oy(e:DS0)(h:WE 10 e):T (Ng e) (λy=>y.1.length<=1048576):=by
 unfold Ng
 refine T.call (a2e [] _ h (by rw[a0i];simp)) (λu q=>T.ret ?_)
 rw[a0i]at q
 simpa using q
def nF:List Bool->Nat
 |[]=>0
 |b::l=>cond b 0 1+nF l
theorem a1v(n:Nat):nF (List.replicate n false)=n:=by
 induction n with
 |zero=>rfl
 |succ n ih=>rw[List.replicate_succ];simp only[nF,ih,cond_false];omega
theorem Qn:∀(l:List Bool) (i:Nat),i<l.length->l.getD i false=false->nF (l.set i true)+1=nF l
 |[],i,h,_=>by simp at h
 |b::l,0,_,h2=>by
  have:b=false:=by simpa using h2
  subst this
  simp only[List.set_cons_zero,nF,cond_true,cond_false];omega
 |b::l,i+1,h,h2=>by
  have:=Qn l i (by simpa using h) (by simpa using h2)
  simp only[List.set_cons_succ,nF];omega
theorem XY(l:List DS1)(h:CB l):T (Nn l) (λ_=>True):=by
 unfold Nn
 have hl:=h.1
 refine T.grd (by rw[KZ,av];omega) ?_
 refine T.loop (λs=>l=s.1/\s.2.2.1.length=l.length/\s.2.1.length+nF s.2.2.1<=l.length) (λs=>nF s.2.2.1) ⟨rfl,by simp[aj],by simp[aj,a1v]⟩ ?_
 rintro⟨_,s2,s3,⟨⟩⟩ ⟨rfl,e2,e3⟩
 dsimp only at e2 e3 ⊢
 refine T.loop (λq=>l=q.1/\s2=q.2.2.2.2.1/\s3=q.2.2.2.2.2.1/\0<=q.2.2.2.1/\(q.2.1=-1\/0<=q.2.1/\q.2.1<(l.length:Int)/\List.getD s3 q.2.1.toNat false=false)) (λq=>((l.length:Int)-q.2.2.2.1).toNat) ⟨rfl,rfl,rfl,by simp,.inl rfl⟩ ?_
 rintro⟨_,q2,q3,q4,_,_,⟨⟩⟩ ⟨rfl,rfl,rfl,q0,qn⟩
 dsimp only at q0 qn ⊢
 refine T.cnd (λhc=>?_) (λhc=>?_)<;>simp only[bsX,eq_self]at hc
 .refine T.grd (by rw[aP,av];omega) (T.grd (kY.mpr (.inl (by rw[aP,av];omega))) (T.grd (kY.mpr (.inl (by rw[nk];omega))) (T.cnd (λhd=>?_) (λhd=>?_))))<;>simp only[bsX,eq_self]at hd
  .refine T.go ⟨rfl,rfl,rfl,?_,qn⟩ ?_<;>dsimp only<;>(rw[aF (by omega) (by omega)];omega)
  refine T.grd (by rw[aP,av];omega) ?_
  refine T.call (Oy _ (h.2 _ (at_mem _ q0 (by omega))).1) (λu hu=>?_)
  refine T.loop (λr=>l=r.1/\q2=r.2.1/\q4=r.2.2.2.1/\u.1=r.2.2.2.2.2.1/\0<=r.2.2.2.2.2.2.1/\s2=r.2.2.2.2.2.2.2.1/\s3=r.2.2.2.2.2.2.2.2.1) (λr=>((List.length (α:=ByteArray) u.1:Int)-r.2.2.2.2.2.2.1).toNat) ⟨rfl,rfl,rfl,rfl,by simp,rfl,rfl⟩ ?_
  rintro⟨_,_,r3,_,r5,_,r7,_,_,⟨⟩⟩ ⟨rfl,rfl,rfl,rfl,r0,rfl,rfl⟩
  dsimp only at r0 ⊢
  refine T.cnd (λhr=>?_) (λhr=>?_)<;>simp only[bsX,eq_self]at hr
  .refine T.grd (by rw[aP,av];omega) (T.call (Og _ _ (by show l.length<=_;omega)) (λv w=>?_))
   have hg:v.2.1=true->bnd v.1 (aj s3)=true/\inB v.1.toNat s3=true:=λe=>by have:=w e;rw[aP,av,nk];omega
   refine T.cnd (λ_=>T.grd ?_ (T.grd ?_ (T.go ⟨rfl,rfl,rfl,rfl,?_,rfl,rfl⟩ ?_))) (λ_=>T.go ⟨rfl,rfl,rfl,rfl,?_,rfl,rfl⟩ ?_)
   .cases hv:v.2.1 with
    |true=>rw[(hg hv).1];rfl
    |false=>exact kY.mpr (.inr rfl)
   .cases hv:v.2.1 with
    |true=>rw[(hg hv).2];rfl
    |false=>exact kY.mpr (.inr rfl)
   all_goals dsimp only
   all_goals rw[aF (by omega) (by omega)]
   all_goals omega
  .refine T.map (T.cnd (λ_=>T.ret ⟨⟨rfl,rfl,rfl,?_,.inr ⟨q0,by dsimp only;omega,hd.2⟩⟩,?_⟩) (λ_=>T.ret ⟨⟨rfl,rfl,rfl,?_,qn⟩,?_⟩))
   all_goals dsimp only
   all_goals rw[aF (by omega) (by omega)]
   all_goals omega
 .refine T.map (T.cnd (λhd=>T.cnd (λ_=>T.ret trivial) (λ_=>T.ret trivial)) (λhd=>?_))
  simp only[bsX,eq_self]at hd
  rcases qn with qn|⟨n0,n1,n2⟩
  .omega
  have hs:=Qn s3 q2.toNat (by omega) n2
  refine T.grd (by rw[fM];simp;omega) (T.grd (by rw[aP,av];omega) (T.grd (by rw[nk];omega) (T.ret ⟨⟨rfl,by simp[e2],by simp;omega⟩,by dsimp only;omega⟩)))
theorem O9{n:Nat}{x:List DS1×DS0×Int×Unit}(h:CB x.1/\0<=x.2.2.1/\∃k,WE k x.2.1/\k<=10/\k+11*((List.length x.1:Int)+1-x.2.2.1).toNat<=n):T (bg (λself (x:List DS1×DS0×Int×Unit)=>Gg self x.1 x.2.1 x.2.2.1) n x) (λy:Int×Unit=>0<=y.1/\y.1<=2001):=by
 refine T.iter (λn (x:List DS1×DS0×Int×Unit)=>CB x.1/\0<=x.2.2.1/\∃k,WE k x.2.1/\k<=10/\k+11*((List.length x.1:Int)+1-x.2.2.1).toNat<=n) (λ_ _ (y:Int×Unit)=>0<=y.1/\y.1<=2001) (λn x h self hs=>?_) (λx ⟨_,_,k,hk,_,hn⟩=>by cases k with|zero=>exact hk.elim|succ k=>omega) n x h
 unfold Gg
 obtain⟨hcb,h0,k,hk,hk2,hk3⟩:=h
 obtain⟨j,rfl⟩:∃j,k=j+1:=by
  cases k with
  |zero=>exact hk.elim
  |succ j=>exact⟨j,rfl⟩
 obtain⟨e1,e2,e3⟩:=hk
 have e3:WA j _:=e3
 have hb:Bd (List.length x.1):=by have:=hcb.1;omega
 repeat' (first|(refine T.call (Og _ _ hb) (λv w=>?_))|(refine T.call (hs (_,_,_,()) ⟨hcb,(by simp(disch:=omega) only[aF];omega),10,(hcb.2 _ (at_mem _ (w (by assumption)).1 (w (by assumption)).2)).1,by omega,(by simp(disch:=omega) only[aF];omega)⟩) (λu ⟨q0,q1⟩=>?_))|(refine T.call (hs (_,_,_,()) ⟨j0▸hcb,by simp only[<- j1];exact h0,j,(j6 _ (at_mem _ (by omega) (by omega))).2,by omega,by simp only[<- j0,<- j1];omega⟩) (λu ⟨q0,q1⟩=>?_))|(refine T.loop (λs=>x.1=s.1/\x.2.2.1=s.2.1/\(0<=s.2.2.1/\s.2.2.1<=4001)/\0<=s.2.2.2.1/\List.length s.2.2.2.2.2.2.2.2.2.1<=3/\WA j s.2.2.2.2.2.2.2.2.2.1) (λs=>((List.length s.2.2.2.2.2.2.2.2.2.1:Int)-s.2.2.2.1).toNat) ?_ (λs ⟨j0,j1,⟨j2,j3⟩,j4,j5,j6⟩=>?_))|(refine T.grd ?_ ?_)|(refine T.cnd (λhc=>?_) (λhc=>?_)<;>try simp only[bsX,eq_self]at hc)|(refine T.go ?_ ?_)|(refine T.out ?_)|(refine T.ret ?_))
 all_goals(try dsimp only[LQ,JQ])
 all_goals(repeat' (with_reducible refine And.intro ?_ ?_))<;>first|trivial|assumption|omega|(first|(simp(disch:=omega) only[bsX,eq_self,arX];omega)|(simp(disch:=omega) only[bsX,eq_self,arX];done))|exact cK.mpr ⟨by rw[aP,av];omega,(j6 _ (at_mem _ (by omega) (by omega))).1⟩|(unfold dG;omega)|(rw[aP,av];exact w (by assumption))
theorem WJ(l:List DS1)(e:DS0)(h:CB l)(he:WE 10 e):T (IZ l e) (λy=>0<=y.1/\y.1<=2001):=by
 unfold IZ
 have hl:=h.1
 exact T.call (O9 (n:=10000) (x:=(l,e,0,())) ⟨h,Int.le_refl _,10,he,by omega,by dsimp only;omega⟩) λu q=>T.ret q
theorem Ym{n:Nat}{x:List DS1×List AV×Unit}(h:WB n x.2.1/\CB x.1):T (bg (λself (x:List DS1×List AV×Unit)=>Gn self x.1 x.2.1) n x) (λy:Bool×Unit=>True):=by
 refine T.iter (λn (x:List DS1×List AV×Unit)=>WB n x.2.1/\CB x.1) (λ_ _ (y:Bool×Unit)=>True) (λn x h self hs=>?_) (λx h=>h.1.elim) n x h
 unfold Gn
 obtain⟨⟨e1,e3⟩,hc⟩:=h
 have e3:WBA n _:=e3
 repeat' (first|(refine T.call (WJ _ _ j3 (j2 _ (at_mem _ (by omega) (by omega))).2.1) (λ_ _=>?_))|(refine T.call (hs (_,_,()) ⟨(j2 _ (at_mem _ (by omega) (by omega))).2.2,j3⟩) (λ_ _=>?_))|(refine T.loop (λs=>0<=s.2.2.1/\Bd (List.length s.2.1)/\WBA n s.2.1/\CB s.1) (λs=>((List.length s.2.1:Int)-s.2.2.1).toNat) ?_ (λs ⟨j0,j1,j2,j3⟩=>?_))|(refine T.grd ?_ ?_)|(refine T.cnd (λhc=>?_) (λhc=>?_)<;>try simp only[bsX,eq_self]at hc)|(refine T.go ?_ ?_)|(refine T.out ?_)|(refine T.ret ?_))
 all_goals(try dsimp only[LQ,JQ])
 all_goals(repeat' (with_reducible refine And.intro ?_ ?_))<;>first|trivial|assumption|omega|(first|(simp(disch:=omega) only[bsX,eq_self,arX];omega)|(simp(disch:=omega) only[bsX,eq_self,arX];done))|exact cK.mpr ⟨by rw[aP,av];omega,(j2 _ (at_mem _ (by omega) (by omega))).1⟩|exact kY.mpr (.inl (cK.mpr ⟨by rw[aP,av];omega,(j2 _ (at_mem _ (by omega) (by omega))).1⟩))
def VL(l:List DS1):Prop:=∀k:Int,0<=k->k<(l.length:Int)->eG (atI l k zS1)=true/\∀j,0<=j->j<k->¬(atI l j zS1).2.1=(atI l k zS1).2.1
theorem FH(s:DS6)(l:List DS1)(h:SB s)(h2:CB l):T (m89 s l) (λy=>y.2.1=0->VL l):=by
 unfold m89
 have hB:Bd (List.length l):=by have:=h2.1;omega
 have hl:=av l
 obtain⟨s1,⟨⟩⟩:=s
 refine T.call (Ti _ h.1 h.2) (λu _=>T.cnd (λhc=>T.ret λq=>?_) (λ_=>T.cnd (λ_=>T.ret λq=>by cases q) (λ_=>?_)))
 .simp only[bsX,eq_self]at hc;exact absurd q hc
 refine T.pass (l.length:Int) (λk=>eG (atI l k zS1)=true/\∀j,0<=j->j<k->¬(atI l j zS1).2.1=(atI l k zS1).2.1) (λk=>(l,k,s1,())) (by omega) (λk h0 h1 _=>?_) (λhV=>?_)
 .dsimp only
  have hg:bnd k (aj l)=true:=by rw[aP];omega
  have hc:=h2.2 _ (at_mem zS1 h0 h1)
  refine T.ct (by rw[aT];omega) (T.grd hg (T.call (Vn _ hc) (λy hy=>?_)))
  rw[hy]
  have no:∀(z x:Int),¬x=0->T (some (Sum.inr (α:=List DS1×Int×List DS5×Unit) ((z,x,()):Int×Int×Unit))) (LQ (λs=>s=(l,k+1,s1,())/\(eG (atI l k zS1)=true/\∀j,0<=j->j<k->¬(atI l j zS1).2.1=(atI l k zS1).2.1)) (λ_=>0) 1 (λy:Int×Int×Unit=>y.2.1=0->VL l)):=λz x hx=>T.out λq=>absurd q hx
  refine T.cnd (λ_=>no _ _ (by decide)) (λhv=>T.grd hg (T.call (CQ _ _ hB) (λv hw=>?_)))
  refine T.cnd (λ_=>no _ _ (by decide)) (λhk=>T.grd hg (T.call (KS (s1,()) _ h.1) (λ_ _=>?_)))
  refine T.cnd (λ_=>no _ _ (by decide)) (λ_=>T.grd hg (T.call (IK (n:=10000) (x:=(_,_,_,())) ⟨hc.1.to (by omega),h,hB⟩) (λ_ _=>?_)))
  refine T.cnd (λhq=>no _ _ ?_) (λ_=>T.grd hg (T.call (Vt (n:=10000) (x:=(_,_,_,())) ⟨hc.2.to (by omega),h,hB⟩) (λ_ _=>?_)))
  .simp only[bsX,eq_self]at hq;exact hq
  refine T.cnd (λhq=>no _ _ ?_) (λ_=>T.go ⟨?_,nS.mp hv,λj j0 j1=>hw.2 j j0 ?_⟩ (by omega))
  .simp only[bsX,eq_self]at hq;exact hq
  .rw[aF (by omega) (by omega)]
  .simp only[bsX,eq_self]at hk;omega
 .have hV:VL l:=hV
  dsimp only
  refine T.cf (by rw[bL];omega) (T.eP ?_)
  repeat' (first|(refine T.call (XY _ h2) (λ_ _=>?_))|(refine T.call (WJ _ _ i2 (i2.2 _ (at_mem _ (by omega) (by omega))).1) (λ_ _=>?_))|(refine T.call (Ym (n:=10000) (x:=(_,_,())) ⟨(i2.2 _ (at_mem _ (by omega) (by omega))).2.to (by omega),i2⟩) (λ_ _=>?_))|(refine T.loop (λr=>0<=r.2.1/\Bd (List.length r.1)/\CB r.1) (λr=>((List.length r.1:Int)-r.2.1).toNat) ?_ (λr ⟨i0,i1,i2⟩=>?_))|(refine T.grd ?_ ?_)|(refine T.cnd (λhc=>?_) (λhc=>?_)<;>try simp only[bsX,eq_self]at hc)|(refine T.eP ?_)|(refine T.go ?_ ?_)|(refine T.out ?_)|(refine T.jgo ?_)|(refine T.jN ?_)|(refine T.mO ?_)|(refine T.ret ?_))
  all_goals(try dsimp only[LQ,JQ])
  all_goals(repeat' (with_reducible refine And.intro ?_ ?_))<;>first|trivial|assumption|omega|(first|(simp(disch:=omega) only[bsX,eq_self,arX];omega)|(simp(disch:=omega) only[bsX,eq_self,arX];done))|exact λ_=>hV
theorem fq{α:Type}{P:α->Prop}{xs:List α}{y:α}(h:∀x∈xs,P x)(hy:P y):∀x∈xs++[y],P x:=by
 intro x hx
 rcases List.mem_append.1 hx with q|q
 .exact h x q
 .rw[List.mem_singleton.1 q];exact hy
theorem AU{α:Type}{xs:List α}{n:Nat}(z:α)(h:n<xs.length):List.getD xs n z∈xs:=by
 rw[List.getD_eq_getElem?_getD,List.getElem?_eq_getElem h]
 exact List.getElem_mem h
def CW(n:Nat)(l:List DS1):Prop:=l.length<=n/\∀c∈l,WC c
theorem CW.cb{n:Nat}{l:List DS1}(h:CW n l)(hn:n<=500):CB l:=⟨by have:=h.1;omega,h.2⟩
def EW(x:DS3):Prop:=List.length (α:=ByteArray) x.2.1<=1000/\CW 40 x.2.2.1
def WW(w:DS4):Prop:=CW 40 w.1/\List.length (α:=DS3) w.2.1<=12/\∀x∈w.2.1,EW x
theorem WW.x{w:DS4}(h:WW w):XW w:=⟨λc hc=>(h.1.2 c hc).x,λx hx=>⟨by have:=(h.2.2 x hx).1;omega,λc hc=>((h.2.2 x hx).2.2 c hc).x⟩⟩
theorem xw(w:DS4)(h:WW w):T (m16 w) (λy=>True):=T.of (xq w h.x) trivial
theorem a5d(l:List Int)(x:Int)(h:l.length<=1000):T (IY l x) (λy=>List.length (α:=Int) y.1<=l.length+1):=by
 unfold IY
 refine T.loop (λs=>0<=s.2.2.2.1/\s.1.length=l.length/\(s.2.2.2.2.1.length:Int)<=s.2.2.2.1+1/\s.2.2.2.1<=(l.length:Int)/\(s.2.2.1=false->(s.2.2.2.2.1.length:Int)<=s.2.2.2.1)) (λs=>((l.length:Int)-s.2.2.2.1).toNat) ⟨by simp,rfl,by simp,by simp,by simp⟩ (λs ⟨j0,j1,j2,j5,j3⟩=>?_)
 cases hb:s.2.2.1
 .have j4:=j3 hb
  simp only[Bool.not_false,cond_true]
  repeat' (first|(refine T.grd ?_ ?_)|(refine T.cnd (λhc=>?_) (λhc=>?_)<;>try simp only[bsX,eq_self]at hc)|(refine T.eP ?_)|(refine T.go ?_ ?_)|(refine T.out ?_)|(refine T.jgo ?_)|(refine T.jN ?_)|(refine T.mO ?_)|(refine T.ret ?_))
  all_goals(try dsimp only[LQ,JQ])
  all_goals(repeat' (with_reducible refine And.intro ?_ ?_))<;>first|trivial|assumption|omega|(first|(simp(disch:=omega) only[bsX,eq_self,arX];omega)|(simp(disch:=omega) only[bsX,eq_self,arX];done))|exact λq=>Bool.noConfusion q|(intro _;(first|(simp(disch:=omega) only[bsX,eq_self,arX];omega)|(simp(disch:=omega) only[bsX,eq_self,arX];done)))
 .clear j3
  simp only[Bool.not_true,cond_false]
  repeat' (first|(refine T.grd ?_ ?_)|(refine T.cnd (λhc=>?_) (λhc=>?_)<;>try simp only[bsX,eq_self]at hc)|(refine T.eP ?_)|(refine T.go ?_ ?_)|(refine T.out ?_)|(refine T.jgo ?_)|(refine T.jN ?_)|(refine T.mO ?_)|(refine T.ret ?_))
  all_goals(try dsimp only[LQ,JQ])
  all_goals(repeat' (with_reducible refine And.intro ?_ ?_))<;>first|trivial|assumption|omega|(first|(simp(disch:=omega) only[bsX,eq_self,arX];omega)|(simp(disch:=omega) only[bsX,eq_self,arX];done))|exact λq=>Bool.noConfusion q|(intro q;rw[hb]at q;cases q)
theorem TJ(w:DS4)(h:WW w):T (m91 w) (λy=>List.length (α:=Int) y.1<=100):=by
 unfold m91
 repeat' (first|(refine T.call (xw _ h) (λ_ _=>?_))|(refine T.call (a5d _ _ (by omega)) (λu q=>?_))|(refine T.loop (λs=>0<=s.2.1/\List.length s.2.2.2.1<=12/\(List.length s.1:Int)<=1+2*s.2.1/\s.2.1<=12) (λs=>((List.length s.2.2.2.1:Int)-s.2.1).toNat) ?_ (λs ⟨j0,j1,j2,j3⟩=>?_))|(refine T.grd ?_ ?_)|(refine T.cnd (λhc=>?_) (λhc=>?_)<;>try simp only[bsX,eq_self]at hc)|(refine T.go ?_ ?_)|(refine T.out ?_)|(refine T.ret ?_))
 all_goals(try dsimp only[LQ,JQ])
 all_goals(repeat' (with_reducible refine And.intro ?_ ?_))<;>first|trivial|assumption|omega|(first|(simp(disch:=omega) only[bsX,eq_self,arX];omega)|(simp(disch:=omega) only[bsX,eq_self,arX];done))|exact h.2.1
theorem Yu(w:DS4)(t:Int)(h:WW w):T (m92 w t) (λy=>CW 100 y.1):=by
 unfold m92
 refine T.call (xw _ h) (λ_ _=>T.cnd (λ_=>T.ret ⟨Nat.zero_le _,λc q=>by simp at q⟩) (λ_=>?_))
 refine T.aO (show Ut _=some _ from rfl) (T.cnd (λ_=>T.ret ⟨Nat.zero_le _,λc q=>by simp at q⟩) (λ_=>?_))
 refine T.loop (λs=>0<=s.2.1/\w.1=s.2.2.1/\w.2.1=s.2.2.2.1/\(s.2.2.2.2.1.length:Int)<=s.2.1/\s.2.1<=(List.length w.1:Int)/\∀c∈s.2.2.2.2.1,WC c) (λs=>((List.length w.1:Int)-s.2.1).toNat) ⟨by simp,rfl,rfl,by simp,by simp,λc q=>by simp at q⟩ ?_
 obtain⟨w1,w2,⟨⟩⟩:=w
 obtain⟨⟨a1,a2⟩,a3,a4⟩:=h
 dsimp only at a1 a2 a3 a4 ⊢
 rintro⟨s1,i,_,_,l,⟨⟩⟩ ⟨j0,rfl,rfl,j1,j2,j3⟩
 dsimp only at j0 j1 j2 j3 ⊢
 refine T.cnd (λhc=>?_) (λhc=>?_)<;>simp only[bsX,eq_self]at hc
 .refine T.grd (by rw[aP,av];omega) (T.call (CQ _ _ (by omega)) (λ_ _=>T.cnd (λ_=>T.out ⟨Nat.zero_le _,λc q=>by simp at q⟩) (λ_=>?_)))
  refine T.grd (by rw[aP,av];omega) (T.grd (by rw[fM];simp;omega) (T.go ⟨?_,rfl,rfl,?_,?_,fq j3 (a2 _ (at_mem _ j0 hc))⟩ ?_))
  all_goals dsimp only
  all_goals rw[aF (by omega) (by omega)]
  all_goals(try simp)
  all_goals omega
 refine T.map ?_
 refine T.loop (λs=>0<=s.2.1/\w2=s.2.2.2.1/\CW 100 s.2.2.2.2.1) (λs=>((w2.length:Int)-s.2.1).toNat) ⟨by simp,rfl,by dsimp only;omega,j3⟩ ?_
 clear j3 j2 j1 j0 hc
 rintro⟨s1,i,s3,_,l,⟨⟩⟩ ⟨j0,rfl,j1,j2⟩
 dsimp only at j0 j1 j2 ⊢
 refine T.cnd (λhc=>?_) (λhc=>T.out ⟨j1,j2⟩)<;>simp only[bsX,eq_self]at hc
 have hx:=a4 _ (at_mem zS3 j0 hc)
 generalize atI w2 i zS3=x at hx ⊢
 obtain⟨x1,rm,xc,⟨⟩⟩:=x
 obtain⟨b1,b2,b3⟩:=hx
 dsimp only at b1 b2 b3 ⊢
 refine T.grd (by rw[aP,av];omega) (T.aO (show Us _ _=some _ from rfl) (T.cnd (λ_=>T.go ⟨?_,rfl,j1,j2⟩ ?_) (λ_=>?_)))
 .dsimp only;rw[aF (by omega) (by omega)];omega
 .dsimp only;rw[aF (by omega) (by omega)];omega
 refine T.loop (λs=>0<=s.2.2.1/\w2=s.2.2.2.2.1/\l=s.2.2.2.2.2.1/\rm=s.2.2.2.2.2.2.2.2.1/\xc=s.2.2.2.2.2.2.2.2.2.1/\i=s.2.1) (λs=>((rm.length:Int)-s.2.2.1).toNat) ⟨by simp,rfl,rfl,rfl,rfl,rfl⟩ ?_
 rintro⟨t1,_,k,t4,_,_,t7,t8,_,_,⟨⟩⟩ ⟨k0,rfl,rfl,rfl,rfl,rfl⟩
 dsimp only at k0 ⊢
 refine T.cnd (λhk=>?_) (λhk=>?_)<;>simp only[bsX,eq_self]at hk
 .refine T.grd (by rw[aP,av];omega) (T.call (CQ _ _ (by omega)) (λ_ _=>T.cnd (λ_=>T.out ⟨Nat.zero_le _,λc q=>by simp at q⟩) (λ_=>T.go ⟨?_,rfl,rfl,rfl,rfl,rfl⟩ ?_)))
  all_goals dsimp only
  all_goals rw[aF (by omega) (by omega)]
  all_goals omega
 refine T.map ?_
 clear hk k0
 refine T.loop (λs=>0<=s.2.2.1/\w2=s.2.2.2.2.1/\l=s.2.2.2.2.2.1/\rm=s.2.2.2.2.2.2.2.2.1/\xc=s.2.2.2.2.2.2.2.2.2.1/\i=s.2.1/\(s.2.2.2.2.2.2.2.2.2.2.1.length:Int)<=s.2.2.1/\s.2.2.1<=(l.length:Int)/\∀c∈s.2.2.2.2.2.2.2.2.2.2.1,WC c) (λs=>((l.length:Int)-s.2.2.1).toNat) ⟨by simp,rfl,rfl,rfl,rfl,rfl,by simp,by simp,λc q=>by simp at q⟩ ?_
 rintro⟨t1,_,k,t4,_,_,t7,t8,_,_,lf,⟨⟩⟩ ⟨k0,rfl,rfl,rfl,rfl,rfl,k1,k2,k3⟩
 dsimp only at k0 k1 k2 k3 ⊢
 refine T.cnd (λhk=>?_) (λhk=>?_)<;>simp only[bsX,eq_self]at hk
 .have hi:k.toNat<l.length:=by omega
  refine T.grd (by rw[aP,av];omega) (T.grd (by rw[nk];exact hi) (T.call (EH _ _ (by show rm.length<=_;omega)) (λ_ _=>T.cnd (λ_=>T.grd (by rw[aP,av];omega) (T.grd (by rw[nk];exact hi) (T.grd (by rw[fM];simp;omega) (T.go ⟨?_,rfl,rfl,rfl,rfl,rfl,?_,?_,fq k3 (j2 _ (AU _ hi))⟩ ?_)))) (λ_=>T.go ⟨?_,rfl,rfl,rfl,rfl,rfl,?_,?_,k3⟩ ?_))))
  all_goals dsimp only
  all_goals rw[aF (by omega) (by omega)]
  all_goals(try simp)
  all_goals omega
 refine T.map ?_
 refine T.loop (λs=>0<=s.2.2.1/\w2=s.2.2.2.2.1/\xc=s.2.2.2.2.2.2.2.2.1/\i=s.2.1/\(s.2.2.2.2.2.2.2.2.2.1.length:Int)<=100+s.2.2.1/\s.2.2.1<=(xc.length:Int)/\∀c∈s.2.2.2.2.2.2.2.2.2.1,WC c) (λs=>((xc.length:Int)-s.2.2.1).toNat) ⟨by simp,rfl,rfl,rfl,by dsimp only;omega,by simp,k3⟩ ?_
 clear k0 k1 k2 k3 hk
 rintro⟨t1,_,k,t4,_,t7,t8,t9,_,lf,⟨⟩⟩ ⟨k0,rfl,rfl,rfl,k1,k2,k3⟩
 dsimp only at k0 k1 k2 k3 ⊢
 refine T.cnd (λhk=>?_) (λhk=>?_)<;>simp only[bsX,eq_self]at hk
 .refine T.grd (by rw[aP,av];omega) (T.call (CQ _ _ (by omega)) (λ_ _=>T.cnd (λ_=>T.out ⟨Nat.zero_le _,λc q=>by simp at q⟩) (λ_=>?_)))
  refine T.grd (by rw[aP,av];omega) (T.grd (by rw[fM];simp;omega) (T.go ⟨?_,rfl,rfl,rfl,?_,?_,fq k3 (b3 _ (at_mem _ k0 hk))⟩ ?_))
  all_goals dsimp only
  all_goals rw[aF (by omega) (by omega)]
  all_goals(try simp)
  all_goals omega
 refine T.map (T.cnd (λ_=>T.ret ⟨Nat.zero_le _,λc q=>by simp at q⟩) (λhl=>T.ret ⟨⟨?_,rfl,?_,k3⟩,?_⟩))<;>simp only[bsX,eq_self]at hl
 .dsimp only;rw[aF (by omega) (by omega)];omega
 .dsimp only;omega
 .dsimp only;rw[aF (by omega) (by omega)];omega
theorem YP(s:DS6)(w:DS4)(hs:SB s)(h:WW w):T (m50 s w) (λy=>True):=by
 unfold m50
 repeat' (first|(refine T.call (xw _ h) (λ_ _=>?_))|(refine T.call (TJ _ h) (λu hu=>?_))|(refine T.call (Yu _ _ j3) (λv hv=>?_))|(refine T.call (FH _ _ j4 (hv.cb (by omega))) (λ_ _=>?_))|(refine T.loop (λs=>0<=s.2.1/\List.length s.1<=100/\WW (s.2.2.2.1,s.2.2.2.2.1,())/\SB (s.2.2.1,())) (λs=>((List.length s.1:Int)-s.2.1).toNat) ?_ (λs ⟨j0,j1,j3,j4⟩=>?_))|(refine T.grd ?_ ?_)|(refine T.cnd (λhc=>?_) (λhc=>?_)<;>try simp only[bsX,eq_self]at hc)|(refine T.go ?_ ?_)|(refine T.out ?_)|(refine T.ret ?_))
 all_goals(try dsimp only[LQ,JQ])
 all_goals(repeat' (with_reducible refine And.intro ?_ ?_))<;>first|trivial|assumption|omega|(first|(simp(disch:=omega) only[bsX,eq_self,arX];omega)|(simp(disch:=omega) only[bsX,eq_self,arX];done))
theorem KL:∀c:List ByteArray,(List.map (Ty.enc .str) (show List (Ty.den .str) from c)).map (λy=>yH .str y.cells)=c
 |[]=>rfl
 |x::c=>congrArg (x::·) (KL c)
theorem JE(x:DS0):aL (Ty.enc tS0 x)=x:=by
 obtain⟨a,b,c,d,e,f,⟨⟩⟩:=x
 exact congrArg (λz:List ByteArray=>(a,b,z,d,e,f,())) (KL c)
theorem H9:∀c:List ByteArray,(List.map (Ty.enc .str) (show List (Ty.den .str) from c)).all (λa=>shp .str a&&okC .str a.cells)=true
 |[]=>rfl
 |_::c=>H9 c
theorem ok0(x:DS0):jK (Ty.enc tS0 x)=true:=by
 obtain⟨a,b,c,d,e,f,⟨⟩⟩:=x
 exact(congrArg (λz=>(true&&(true&&(true&&((true&&z)&&(true&&(true&&(true&&true)))))))) (H9 c)).trans rfl
theorem Vl(x:DS7):ay (Ty.enc tS7 x)=x:=by
 obtain⟨n,y,u,⟨⟩⟩:=x
 exact congrArg (λz:DS0=>(n,z,u,())) (JE y)
theorem ok7(x:DS7):eu (Ty.enc tS7 x)=true:=by
 obtain⟨n,y,u,⟨⟩⟩:=x
 exact(congrArg (λz=>(true&&(true&&(z&&(true&&true))))) (ok0 y)).trans rfl
theorem WE.mk{k:Nat}{a:Int}{b:ByteArray}{c:List ByteArray}{d e:Int}{l:List DS0}(hc:c.length<=1000)(hl:l.length<=3)(h:∀x∈l,WE k x):WE (k+1) (a,b,c,d,e,pF l,()):=by
 refine⟨by dsimp only;omega,Nat.le_trans (Nat.le_of_eq (List.length_map _)) hl,λy hy=>?_⟩
 obtain⟨x,hx,rfl⟩:=List.mem_map.1 hy
 exact⟨ok0 x,Eq.mpr (congrArg (WE k) (JE x)) (h x hx)⟩
theorem WB.mk{k:Nat}{l:List DS7}(hl:l.length<=1000)(h:∀x∈l,WE 10 x.2.1/\WB k x.2.2.1):WB (k+1) (zG l):=by
 refine⟨Nat.le_trans (Nat.le_of_eq (List.length_map _)) (Nat.le_trans hl (by omega)),λy hy=>?_⟩
 obtain⟨x,hx,rfl⟩:=List.mem_map.1 hy
 exact⟨ok7 x,Eq.mpr (congrArg (λz:DS7=>WE 10 z.2.1/\WB k z.2.2.1) (Vl x)) (h x hx)⟩
theorem WE.leaf{a:Int}{b:ByteArray}{c:List ByteArray}{d e:Int}(hc:c.length<=1000):WE 1 (a,b,c,d,e,([]:List AV),()):=⟨by dsimp only;omega,by simp,λy hy=>by simp at hy⟩
def VE(k:Nat)(e:DS0):Prop:=okE k e=true/\szE k e<=4^k
def EE(k:Nat)(e:DS0):Prop:=WE k e/\VE k e
theorem EE.to{k:Nat}{e:DS0}(h:EE k e){m:Nat}(hm:k<=m):EE m e:=by
 obtain⟨_,h2,h3⟩:=Gy (Gz h.2.1) (m-k)
 rw[show k+(m-k)=m by omega]at h2 h3
 exact⟨h.1.to hm,h3.trans h.2.1,by rw[h2];exact Nat.le_trans h.2.2 (Nat.pow_le_pow_right (by omega) hm)⟩
theorem EE.leaf{e:DS0}(h:oV e=true)(hl:List.length (α:=AV) e.2.2.2.2.2.1=0)(hw:List.length (α:=ByteArray) e.2.2.1<=1000):EE 1 e:=by
 have hn:e.2.2.2.2.2.1=[]:=List.length_eq_zero_iff.1 hl
 refine⟨⟨by omega,by omega,λy hy=>by rw[hn]at hy;cases hy⟩,?_,?_⟩
 .unfold okE;rw[h,hn];rfl
 .unfold szE;rw[hn];decide
theorem EE.mk{k:Nat}{op:Int}{l:List DS0}(ho:(op=6/\l.length=1)\/((op=7\/op=8)/\2<=l.length))(hl:l.length<=3)(h:∀x∈l,EE k x):EE (k+1) (op,bs [],([]:List ByteArray),0,0,pF l,()):=by
 have he:List.length (pF l)=l.length:=List.length_map _
 refine⟨WE.mk (by simp) hl λx hx=>(h x hx).1,?_,?_⟩
 .unfold okE
  rw[cK]
  refine⟨?_,List.all_eq_true.2 λy hy=>?_⟩
  .unfold oV
   dsimp only
   have ha:Bl op (List.length (pF l):Int)=true:=by
    rw[he]
    rcases ho with⟨rfl,q⟩|⟨rfl|rfl,q⟩
    .exact wJ.mpr (by omega)
    .exact jY.mpr (by omega)
    .exact jY.mpr (by omega)
   rw[ha]
   rcases ho with⟨rfl,_⟩|⟨rfl|rfl,_⟩<;>(show((_:Bool)=true))<;>kernel_rfl
  .obtain⟨x,hx,rfl⟩:=List.mem_map.1 hy
   exact(congrArg (λz=>okE k z) (JE x)).trans (h x hx).2.1
 .unfold szE
  have key:∀l:List DS0,(∀x∈l,EE k x)->(List.map (λa=>szE k (aL a)) (pF l)).sum<=l.length*4^k:=by
   intro l
   induction l with
   |nil=>intro _;exact Nat.zero_le _
   |cons x l ih =>
    intro h
    have h1:=ih λy hy=>h y (List.mem_cons_of_mem _ hy)
    have h2:szE k (aL (Ty.enc tS0 x))<=4^k:=(congrArg (λz=>szE k z<=4^k) (JE x)).mpr (h x List.mem_cons_self).2.2
    show szE k (aL (Ty.enc tS0 x))+(List.map (λa=>szE k (aL a)) (pF l)).sum<=(l.length+1)*4^k
    rw[Nat.succ_mul];omega
  have h1:=key l h
  have h2:l.length*4^k<=3*4^k:=Nat.mul_le_mul_right _ hl
  have h3:1<=4^k:=Nat.pow_pos (by omega)
  rw[Nat.pow_succ]
  dsimp only
  omega
theorem EE.s{k:Nat}{e:DS0}(h:EE k e)(hk:k<=4):gD e=true:=by
 obtain⟨_,h2,h3⟩:=Gy (Gz h.2.1) (16-k)
 rw[show k+(16-k)=16 by omega]at h2 h3
 unfold gD
 have:4^k<=4^4:=Nat.pow_le_pow_right (by omega) hk
 rw[h3,h.2.1,h2,decide_eq_true (by have:=h.2.2;omega)];rfl
def ndS:List ByteArray->Bool
 |[]=>true
 |a::l=>l.all (λb=>!sEq a b)&&ndS l
theorem Wo:∀l:List ByteArray,ndS l=true->l.Nodup
 |[],_=>List.nodup_nil
 |a::l,h=>by
  obtain⟨h1,h2⟩:=cK.mp h
  refine List.nodup_cons.2 ⟨λq=>?_,Wo l h2⟩
  have:=bP.mp (List.all_eq_true.1 h1 a q)
  exact Mj.mp this rfl
theorem UZ{l:List ByteArray}(h:(l.all bA&&ndS l)=true):(List.all l bA&&dst l)=true:=by
 obtain⟨h1,h2⟩:=cK.mp h
 rw[h1,D5.mpr (Wo l h2)];rfl
def tK(x:List ByteArray)(f:Int)(t:Nat):List ByteArray:=(List.range t).map fun(i:Nat)=>atI x ((f+(i:Int))%(x.length:Int)) ByteArray.empty
theorem zi(x:List ByteArray)(f:Int)(t:Nat):(tK x f t).length=t:=by unfold tK;simp
theorem TA(x:List ByteArray)(f:Int)(t:Nat):tK x f (t+1)=tK x f t++[atI x ((f+(t:Int))%(x.length:Int)) ByteArray.empty]:=by unfold tK;rw[List.range_succ,List.map_append];rfl
theorem PN(x:List ByteArray)(f:Int){t:Nat}{k:Int}(h0:0<=k)(h1:k<(t:Int)):atI (tK x f t) k ByteArray.empty=atI x ((f+k)%(x.length:Int)) ByteArray.empty:=by
 show List.getD (tK x f t) k.toNat ByteArray.empty=_
 rw[List.getD_eq_getElem?_getD,tK,List.getElem?_map,List.getElem?_range (by omega)]
 show atI x ((f+(k.toNat:Int))%(x.length:Int)) ByteArray.empty=_
 rw[Int.toNat_of_nonneg h0]
theorem a0g{x:List ByteArray}{f:Int}{t:Nat}(h:(List.all x bA&&dst x)=true)(h1:1<=t)(h2:t<=x.length)(h3:x.length<=12):qU (tK x f t)=true:=by
 obtain⟨a1,a2⟩:=cK.mp h
 have hn:=(tO ByteArray.empty).1 (D5.mp a2)
 have hm:∀k:Int,0<=(f+k)%(x.length:Int)/\(f+k)%(x.length:Int)<(x.length:Int):=λk=>⟨Int.emod_nonneg _ (by omega),Int.emod_lt_of_pos _ (by omega)⟩
 unfold qU
 rw[zi,decide_eq_true (by omega),Bool.true_and]
 refine Ef λk h0 h1=>?_
 rw[zi]at h1
 rw[PN x f h0 h1]
 refine⟨List.all_eq_true.1 a1 _ (at_mem _ (hm k).1 (hm k).2),λj j0 j1 q=>?_⟩
 rw[PN x f j0 (by omega)]at q
 have ne:¬(f+k)%(x.length:Int)=(f+j)%(x.length:Int):=λe=>by
  have e:=Int.emod_eq_emod_iff_emod_sub_eq_zero.1 e
  rw[show f+k-(f+j)=k-j by omega,Int.emod_eq_of_lt (by omega) (by omega)]at e
  omega
 rcases Int.lt_or_gt_of_ne ne with w|w
 .exact hn _ (hm j).1 (hm j).2 _ (hm k).1 w q.symm
 .exact hn _ (hm k).1 (hm k).2 _ (hm j).1 w q
def AO(x:DS5):Prop:=(x.2.1=1->1<=List.length (α:=ByteArray) x.2.2.1)/\List.length (α:=ByteArray) x.2.2.1<=12/\(-1000000000<=x.2.2.2.1/\x.2.2.2.1<=x.2.2.2.2.1/\x.2.2.2.2.1<=1000000000)/\bA x.1=true/\(x.2.1=1->(List.all x.2.2.1 bA&&dst x.2.2.1)=true)
def SK(a:DS6):Prop:=(1<=List.length a.1/\List.length a.1<=6)/\∀x∈a.1,AO x
theorem SK.sb{a:DS6}(h:SK a):SB a:=⟨by have:=h.1;omega,λx hx=>by have:=(h.2 x hx).2.1;omega⟩
theorem a1J(k:Int):T (m23 k) (λy=>SK y.1):=by
 unfold m23
 refine T.call (Sr k (by omega) (by omega)) (λ_ _=>?_)
 repeat' (first|(refine T.aO (show m51=some _ from rfl) ?_)|(refine T.grd ?_ ?_)|(refine T.cnd (λhc=>?_) (λhc=>?_)<;>try simp only[bsX,eq_self]at hc)|(refine T.eP ?_)|(refine T.go ?_ ?_)|(refine T.out ?_)|(refine T.jgo ?_)|(refine T.jN ?_)|(refine T.mO ?_)|(refine T.ret ?_))
 all_goals refine⟨by simp,λx hx=>?_⟩
 all_goals simp only[List.mem_cons,List.not_mem_nil,or_false]at hx
 all_goals(first|(rcases hx with rfl|rfl|rfl|rfl)|(rcases hx with rfl|rfl|rfl)|(rcases hx with rfl|rfl)|subst hx)
 all_goals exact⟨by simp,by simp,by simp,by kernel_rfl,λq=>by first|(exact UZ (by kernel_rfl))|(exact absurd q (by decide))⟩
theorem AO.w{x:DS5}(h:AO x)(e:x.2.1=1):1<=List.length (α:=ByteArray) x.2.2.1/\List.length (α:=ByteArray) x.2.2.1<=12:=⟨h.1 e,h.2.1⟩
theorem a2T{a b:Int}(h0:0<=a)(h1:0<b):0<=eY a b/\eY a b<b:=⟨Int.tmod_nonneg _ h0,Int.tmod_lt_of_pos _ h1⟩
theorem FU{s:List DS5}{i:Int}(h:SK (s,()))(h0:0<=i)(h1:i<(s.length:Int)):AO (atI s i zS5):=h.2 _ (at_mem _ h0 h1)
theorem a2B{L:List Int}{a:Int}(s:DS6)(hs:SK s)(h:aK L a):T (Nj s L a) (λy=>EE 1 y.1/\aK y.2.1 y.2.2.1):=by
 unfold Nj
 obtain⟨s1,⟨⟩⟩:=s
 have hl:=hs.1
 dsimp only at hl ⊢
 refine T.call (bQ (by assumption) (by rw[av];omega) (by rw[av];omega)) (λy ⟨d,y0,y1⟩=>?_)
 refine T.grd (by rw[aP];exact⟨y0,y1⟩) ?_
 have hx:=FU hs y0 (by rw[av]at y1;exact y1)
 generalize atI s1 y.1 zS5=x at hx ⊢
 obtain⟨x1,x2,x3,x4,x5,⟨⟩⟩:=x
 obtain⟨b1,b2,⟨b3,b4,b5⟩,b6,b7⟩:=hx
 dsimp only at b1 b2 b3 b4 b5 b6 b7 ⊢
 have hz:=av x3
 have he:aB .i64 (bf .i64 x5 x4) 1=x5-x4+1:=by rw[aV (by omega) (by omega),aF (by omega) (by omega)]
 have nd:∀{op:Int} {ws:List ByteArray} {lo hi:Int},(op=3\/op=4\/op=5)->vV op ws=true->wu op lo hi=true->oV (op,x1,ws,lo,hi,([]:List AV),())=true:=fun{op ws lo hi} ho hw hr=>by
  unfold oV MU
  dsimp only
  rw[hw,hr]
  rcases ho with rfl|rfl|rfl<;>(show(true&&(true&&(bA x1&&true)))=true)<;>rw[b6]<;>rfl
 refine T.cnd (λhc=>T.ret ⟨EE.leaf (nd (.inl rfl) rfl rfl) rfl (by simp),d⟩) (λ_=>T.cnd (λhc=>?_) (λ_=>?_))
 .rw[wJ]at hc
  have b1:=b1 hc
  have b7:=b7 hc
  refine T.call (bQ d (by omega) (by omega)) (λu ⟨u0,u1,u2⟩=>T.call (vD u0 (by omega) (by omega) (by omega)) (λv ⟨v0,v1,v2⟩=>?_))
  refine T.loop (λs=>∃t:Nat,(t:Int)<=v.1/\s=(u.1+(t:Int),v.1-(t:Int),v.2.1,v.2.2.1,0,bs [],0,0,x1,x2,x3,x4,x5,4,x1,0,0,tK x3 u.1 t,())) (λs=>s.2.1.toNat) ⟨0,by omega,by rw[show u.1+((0:Nat):Int)=u.1 by omega,show v.1-((0:Nat):Int)=v.1 by omega];rfl⟩ ?_
  rintro _ ⟨t,ht,rfl⟩
  dsimp only
  refine T.cnd (λhg=>?_) (λhg=>?_)<;>simp only[bsX,eq_self]at hg
  .have hr:eY (u.1+(t:Int)) (aj x3)=(u.1+(t:Int))%(x3.length:Int):=by rw[hz];exact Int.tmod_eq_emod_of_nonneg (by omega)
   have r0:=Int.emod_nonneg (u.1+(t:Int)) (show(x3.length:Int)≠0 by omega)
   have r1:=Int.emod_lt_of_pos (u.1+(t:Int)) (show 0<(x3.length:Int) by omega)
   rw[hr]
   refine T.grd (by rw[jX];omega) (T.grd (by rw[aP,hz];exact⟨r0,r1⟩) (T.grd (by rw[fM,zi];simp;omega) (T.go ⟨t+1,by omega,?_⟩ ?_)))
   .rw[aF (by omega) (by omega),aV (by omega) (by omega),TA,show u.1+((t+1:Nat):Int)=u.1+(t:Int)+1 by omega,show v.1-((t+1:Nat):Int)=v.1-(t:Int)-1 by omega]
   .dsimp only;rw[aV (by omega) (by omega)];omega
  .refine T.out ⟨EE.leaf (nd (.inr (.inl rfl)) (show qU _=true from a0g b7 (by omega) (by omega) (by omega)) rfl) rfl (by show List.length (tK x3 u.1 t)<=1000;rw[zi];omega),v0⟩
 ·have n5:∀ {lo hi:Int},x4<=lo->lo<=hi->hi<=x5->EE 1 (5,x1,([]:List ByteArray),lo,hi,([]:List AV),()):=fun {lo hi} p q r=>EE.leaf (nd (.inr (.inr rfl)) rfl (by
   show(iLe (-1000000000) lo&&(iLe lo 1000000000&&(iLe (-1000000000) hi&&(iLe hi 1000000000&&iLe lo hi))))=true
   rw[jY.mpr (by omega),jY.mpr (by omega),jY.mpr (by omega),jY.mpr (by omega),jY.mpr q];rfl)) rfl (by simp)
  rw[he]
  refine T.call (bQ d (by omega) (by omega)) (λu ⟨u0,u1,u2⟩=>?_)
  refine T.join (λj=>(x4<=j.1/\j.1<=x5)/\aK j.2.1 j.2.2.1/\x1=j.2.2.2.2.2.2.2.1/\x5=j.2.2.2.2.2.2.2.2.2.2.2.1) ?_ (λj hj=>?_)
  .refine T.call (bQ u0 (by omega) (by omega)) (λv ⟨v0,_,_⟩=>T.cnd (λ_=>T.call (bQ v0 (by omega) (by omega)) (λw ⟨w0,w1,w2⟩=>T.jgo ⟨⟨?_,?_⟩,w0,rfl,rfl⟩)) (λ_=>T.jgo ⟨⟨?_,?_⟩,v0,rfl,rfl⟩))
   .dsimp only;unfold dG uV;rw[aV (by omega) (by omega)];omega
   .dsimp only;unfold dG uV;omega
   .dsimp only;rw[aF (by omega) (by omega)];omega
   .dsimp only;rw[aF (by omega) (by omega)];omega
  .obtain⟨lo,L,a,_,_,_,_,_,_,_,_,_,⟨⟩⟩:=j
   obtain⟨⟨l0,l1⟩,hd,rfl,rfl⟩:=hj
   dsimp only at l0 l1 hd ⊢
   have he:aB .i64 (bf .i64 x5 lo) 1=x5-lo+1:=by rw[aV (by omega) (by omega),aF (by omega) (by omega)]
   rw[he]
   refine T.call (bQ hd (by omega) (by omega)) (λv ⟨v0,v1,v2⟩=>T.call (bQ v0 (by omega) (by omega)) (λw ⟨w0,_,_⟩=>T.cnd (λ_=>T.call (bQ w0 (by omega) (by omega)) (λz ⟨z0,z1,z2⟩=>T.ret ⟨n5 l0 ?_ ?_,z0⟩)) (λ_=>T.ret ⟨n5 l0 ?_ ?_,w0⟩)))
   .unfold dG;rw[aF (by omega) (by omega)];omega
   .unfold dG;omega
   .rw[aF (by omega) (by omega)];omega
   .rw[aF (by omega) (by omega)];omega
theorem Z5{L:List Int}{a:Int}(s:DS6)(l:List ByteArray)(hs:SK s)(h:aK L a)(hn:l.length<=1000):T (Cr s L a l) (λy=>WE 1 y.1/\aK y.2.1 y.2.2.1/\y.2.2.2.1=l):=by
 unfold Cr
 obtain⟨s1,⟨⟩⟩:=s
 have hl:=hs.1
 dsimp only at hl ⊢
 have part:∀{L:List Int} {a:Int},aK L a->T ((m24 (aj s1) L a).bind λaZ=> cond (bnd aZ.1 (aj s1))  (cond (iEq ((atI s1 aZ.1 zS5).2.1) 3)  (some ((3,(atI s1 aZ.1 zS5).1,([]:List ByteArray),0,0,([]:List AV),()),aZ.2.1,aZ.2.2.1,l,()))  (cond (iEq ((atI s1 aZ.1 zS5).2.1) 1)  ((m24 (aj ((atI s1 aZ.1 zS5).2.2.1)) aZ.2.1 aZ.2.2.1).bind λAb=> (m88 1 (aj ((atI s1 aZ.1 zS5).2.2.1)) Ab.2.1 Ab.2.2.1).bind λAa=> aJ (S:=Int×Int×(List Int)×Int×(List ByteArray)×Int×ByteArray×Int×Int×ByteArray×Int×(List ByteArray)×Int×Int×Int×ByteArray×Int×Int×(List ByteArray)×Unit) (R:=DS0×(List Int)×Int×(List ByteArray)×Unit) (λaU=> cond (iLt 0 aU.2.1)  (cond (iNe (aj aU.2.2.2.2.2.2.2.2.2.2.2.1) 0)  (cond (bnd (eY aU.1 (aj aU.2.2.2.2.2.2.2.2.2.2.2.1)) (aj aU.2.2.2.2.2.2.2.2.2.2.2.1))  (cond (fits (List.length aU.2.2.2.2.2.2.2.2.2.2.2.2.2.2.2.2.2.2.1+List.length ([atI aU.2.2.2.2.2.2.2.2.2.2.2.1 (eY aU.1 (aj aU.2.2.2.2.2.2.2.2.2.2.2.1)) ByteArray.empty]:List ByteArray)) 16)  (some (.inl (aB .i64 aU.1 1,bf .i64 aU.2.1 1,aU.2.2.1,aU.2.2.2.1,aU.2.2.2.2.1,aU.2.2.2.2.2.1,aU.2.2.2.2.2.2.1,aU.2.2.2.2.2.2.2.1,aU.2.2.2.2.2.2.2.2.1,aU.2.2.2.2.2.2.2.2.2.1,aU.2.2.2.2.2.2.2.2.2.2.1,aU.2.2.2.2.2.2.2.2.2.2.2.1,aU.2.2.2.2.2.2.2.2.2.2.2.2.1,aU.2.2.2.2.2.2.2.2.2.2.2.2.2.1,aU.2.2.2.2.2.2.2.2.2.2.2.2.2.2.1,aU.2.2.2.2.2.2.2.2.2.2.2.2.2.2.2.1,aU.2.2.2.2.2.2.2.2.2.2.2.2.2.2.2.2.1,aU.2.2.2.2.2.2.2.2.2.2.2.2.2.2.2.2.2.1,aU.2.2.2.2.2.2.2.2.2.2.2.2.2.2.2.2.2.2.1++([atI aU.2.2.2.2.2.2.2.2.2.2.2.1 (eY aU.1 (aj aU.2.2.2.2.2.2.2.2.2.2.2.1)) ByteArray.empty]:List ByteArray),()))) none) none) none)  (some (.inr ((aU.2.2.2.2.2.2.2.2.2.2.2.2.2.2.1,aU.2.2.2.2.2.2.2.2.2.2.2.2.2.2.2.1,aU.2.2.2.2.2.2.2.2.2.2.2.2.2.2.2.2.2.2.1,aU.2.2.2.2.2.2.2.2.2.2.2.2.2.2.2.2.1,aU.2.2.2.2.2.2.2.2.2.2.2.2.2.2.2.2.2.1,([]:List AV),()),aU.2.2.1,aU.2.2.2.1,aU.2.2.2.2.1,()))))  (Ab.1,Aa.1,Aa.2.1,Aa.2.2.1,l,0,(bs []),0,0,(atI s1 aZ.1 zS5).1,(atI s1 aZ.1 zS5).2.1,(atI s1 aZ.1 zS5).2.2.1,(atI s1 aZ.1 zS5).2.2.2.1,(atI s1 aZ.1 zS5).2.2.2.2.1,4,(atI s1 aZ.1 zS5).1,0,0,([]:List ByteArray),()))  ((m24 (aB .i64 (bf .i64 ((atI s1 aZ.1 zS5).2.2.2.2.1) ((atI s1 aZ.1 zS5).2.2.2.1)) 1) aZ.2.1 aZ.2.2.1).bind λA9=> jW (S:=Int×(List Int)×Int×(List ByteArray)×Int×ByteArray×Int×Int×ByteArray×Int×(List ByteArray)×Int×Int×Unit) (R:=DS0×(List Int)×Int×(List ByteArray)×Unit)  ((m24 2 A9.2.1 A9.2.2.1).bind λsV=> cond (iEq sV.1 0)  ((m24 12 sV.2.1 sV.2.2.1).bind λA8=> some (.inl (dG (uV (bf .i64 A8.1 4) ((atI s1 aZ.1 zS5).2.2.2.1)) ((atI s1 aZ.1 zS5).2.2.2.2.1),A8.2.1,A8.2.2.1,l,0,(bs []),0,0,(atI s1 aZ.1 zS5).1,(atI s1 aZ.1 zS5).2.1,(atI s1 aZ.1 zS5).2.2.1,(atI s1 aZ.1 zS5).2.2.2.1,(atI s1 aZ.1 zS5).2.2.2.2.1,())))  (some (.inl (aB .i64 ((atI s1 aZ.1 zS5).2.2.2.1) A9.1,sV.2.1,sV.2.2.1,l,0,(bs []),0,0,(atI s1 aZ.1 zS5).1,(atI s1 aZ.1 zS5).2.1,(atI s1 aZ.1 zS5).2.2.1,(atI s1 aZ.1 zS5).2.2.2.1,(atI s1 aZ.1 zS5).2.2.2.2.1,()))))  (λgQ=> (m24 (aB .i64 (bf .i64 gQ.2.2.2.2.2.2.2.2.2.2.2.2.1 gQ.1) 1) gQ.2.1 gQ.2.2.1).bind λzZ=> (m24 2 zZ.2.1 zZ.2.2.1).bind λsU=> cond (iEq sU.1 0)  ((m24 4 sU.2.1 sU.2.2.1).bind λzY=> some ((5,gQ.2.2.2.2.2.2.2.2.1,([]:List ByteArray),gQ.1,dG (aB .i64 gQ.1 zY.1) gQ.2.2.2.2.2.2.2.2.2.2.2.2.1,([]:List AV),()),zY.2.1,zY.2.2.1,gQ.2.2.2.1,()))  (some ((5,gQ.2.2.2.2.2.2.2.2.1,([]:List ByteArray),gQ.1,aB .i64 gQ.1 zZ.1,([]:List AV),()),sU.2.1,sU.2.2.1,gQ.2.2.2.1,())))))) none) (λy=>WE 1 y.1/\aK y.2.1 y.2.2.1/\y.2.2.2.1=l):=by
  intro L a h
  refine T.call (bQ (by assumption) (by rw[av];omega) (by rw[av];omega)) (λy ⟨d,y0,y1⟩=>?_)
  refine T.grd (by rw[aP];exact⟨y0,y1⟩) ?_
  have hx:=FU hs y0 (by rw[av]at y1;exact y1)
  generalize atI s1 y.1 zS5=x at hx ⊢
  obtain⟨x1,x2,x3,x4,x5,⟨⟩⟩:=x
  obtain⟨b1,b2,⟨b3,b4,b5⟩,b6,b7⟩:=hx
  dsimp only at b1 b2 b3 b4 b5 ⊢
  have hz:=av x3
  have he:aB .i64 (bf .i64 x5 x4) 1=x5-x4+1:=by rw[aV (by omega) (by omega),aF (by omega) (by omega)]
  repeat' (first|(refine T.call (bQ (by assumption) (by first|omega|(rw[av];first|omega|(have:=b1 (by assumption);omega))|(simp(disch:=omega) only[aF,aV];omega)) (by first|omega|(rw[av];first|omega|(have:=b1 (by assumption);omega))|(simp(disch:=omega) only[aF,aV];omega))) (λ_ ⟨_,_,_⟩=>?_))|(refine T.call (vD (by assumption) (by omega) (by first|omega|(rw[av];first|omega|(have:=b1 (by assumption);omega))|(simp(disch:=omega) only[aF,aV];omega)) (by first|omega|(rw[av];first|omega|(have:=b1 (by assumption);omega))|(simp(disch:=omega) only[aF,aV];omega))) (λ_ ⟨_,_,_⟩=>?_))|(refine T.loop (λs=>0<=s.1/\0<=s.2.1/\s.1+s.2.1<=1000/\(1<=List.length (α:=ByteArray) s.2.2.2.2.2.2.2.2.2.2.2.1/\List.length (α:=ByteArray) s.2.2.2.2.2.2.2.2.2.2.2.1<=12)/\(List.length (α:=ByteArray) s.2.2.2.2.2.2.2.2.2.2.2.2.2.2.2.2.2.2.1:Int)+s.2.1<=12/\aK s.2.2.1 s.2.2.2.1/\s.2.2.2.2.1=l) (λs=>(s.2.1).toNat) ?_ (λs ⟨j0,j1,j2,⟨j3,j4⟩,j5,j6,j7⟩=>?_))|(refine T.join (λj=>x4<=j.1/\j.1<=x5/\j.2.2.2.2.2.2.2.2.2.2.2.2.1=x5/\aK j.2.1 j.2.2.1/\j.2.2.2.1=l) ?_ (λ_ ⟨_,_,_,_,_⟩=>?_))|(refine T.grd ?_ ?_)|(refine T.cnd (λhc=>?_) (λhc=>?_)<;>try simp only[bsX,eq_self]at hc)|(refine T.eP ?_)|(refine T.go ?_ ?_)|(refine T.out ?_)|(refine T.jgo ?_)|(refine T.jN ?_)|(refine T.mO ?_)|(refine T.ret ?_))
  all_goals(try dsimp only[LQ,JQ])
  all_goals(repeat' (with_reducible refine And.intro ?_ ?_))<;>first|trivial|assumption|omega|exact WE.leaf (by first|(simp;done)|omega)|(simp;done)|(have:=b1 (by assumption);omega)|(rw[aP,av];exact a2T (by omega) (by omega))|(simp only[dG,uV];simp(disch:=omega) only[aF,aV];omega)|(first|(simp(disch:=omega) only[bsX,eq_self,arX];omega)|(simp(disch:=omega) only[bsX,eq_self,arX];done))|(have:=b1 (by assumption);simp;omega)|(simp(disch:=omega) only[aF,aV,dG,uV]at *;omega)
 refine T.cnd (λhc=>?_) (λ_=>part h)
 simp only[bsX,eq_self]at hc
 refine T.call (bQ h (by omega) (by omega)) (λu ⟨d0,u0,u1⟩=>T.cnd (λ_=>?_) (λ_=>part d0))
 exact T.call (bQ d0 (by rw[av];omega) (by rw[av];omega)) (λv ⟨d1,v0,v1⟩=>T.grd (by rw[aP];exact⟨v0,v1⟩) (T.grd (by rw[nk];rw[av]at v1;omega) (T.ret ⟨WE.leaf (by simp),d1,rfl⟩)))
section
theorem yN{a b:List ByteArray}(h:b=a):Nat.beq a.length b.length=true:=by rw[h];exact Nat.beq_refl _
theorem Lc{n:Nat}{x:DS6×Int×List Int×Int×Unit}(h:SK x.1/\aK x.2.2.1 x.2.2.2.1/\x.2.1<=3/\x.2.1<=n/\1<=n):T (bg (λself (x:DS6×Int×List Int×Int×Unit)=>Gs self x.1 x.2.1 x.2.2.1 x.2.2.2.1) n x) (fun(y:DS0×List Int×Int×Unit)=>EE (x.2.1.toNat+1) y.1/\aK y.2.1 y.2.2.1):=by
 refine T.iter (λn (x:DS6×Int×List Int×Int×Unit)=>SK x.1/\aK x.2.2.1 x.2.2.2.1/\x.2.1<=3/\x.2.1<=n/\1<=n) (λ_ x (y:DS0×List Int×Int×Unit)=>EE (x.2.1.toNat+1) y.1/\aK y.2.1 y.2.2.1) (λn x h self hs=>?_) (λx h=>by have:=h.2.2.2.2;omega) n x h
 obtain⟨⟨s1,⟨⟩⟩,d,L,a,⟨⟩⟩:=x
 obtain⟨hk,hd,h3,h4,h5⟩:=h
 dsimp only at hd h3 h4 h5 ⊢
 unfold Gs
 refine T.call (bQ hd (by omega) (by omega)) (λu ⟨u0,u1,u2⟩=>T.cnd (λhc=>?_) (λhc=>?_))<;>simp only[bsX,eq_self]at hc
 .refine T.call (bQ u0 (by omega) (by omega)) (λv ⟨v0,_,_⟩=>T.cnd (λ_=>T.ret ⟨EE.to (EE.leaf (by show(_:Bool)=true;kernel_rfl) rfl (by simp)) (by omega),v0⟩) (λ_=>T.cnd (λ_=>T.ret ⟨EE.to (EE.leaf (by show(_:Bool)=true;kernel_rfl) rfl (by simp)) (by omega),v0⟩) (λ_=>T.call (a2B _ hk v0) (λw ⟨w0,w1⟩=>T.ret ⟨w0.to (by omega),w1⟩))))
 obtain⟨m,rfl⟩:∃m:Nat,d=(m:Int)+1:=⟨d.toNat-1,by omega⟩
 have hi:bf .i64 ((m:Int)+1) 1=(m:Int):=by rw[aV (by omega) (by omega)];omega
 have sf:∀(L:List Int) (a:Int),aK L a->T (self ((s1,()),(m:Int),L,a,())) (λy=>EE (m+1) y.1/\aK y.2.1 y.2.2.1):=λL a hd=>hs ((s1,()),(m:Int),L,a,()) ⟨hk,hd,by dsimp only;omega,by dsimp only;omega,by omega⟩
 rw[hi,show((m:Int)+1).toNat+1=m+1+1 by omega]
 refine T.cnd (λ_=>T.call (sf _ _ u0) (λv ⟨v0,v1⟩=>T.ret ⟨EE.mk (.inl ⟨rfl,rfl⟩) (by simp) (λq hq=>by rw[List.mem_singleton.1 hq];exact v0),v1⟩)) (λhq=>?_)
 simp only[bsX,eq_self]at hq
 refine T.call (vD u0 (by omega) (by omega) (by omega)) (λv ⟨v0,v1,v2⟩=>?_)
 rw[show aB .i64 u.1 1=u.1+1 from aF (by omega) (by omega)]
 refine T.loop (λs=>(m:Int)+1=s.1/\0<=s.2.1/\(List.length (α:=DS0) s.2.2.2.2.2.2.2.2.2.2.2.2.2.1:Int)+s.2.1=v.1/\aK s.2.2.1 s.2.2.2.1/\s1=s.2.2.2.2.1/\(u.1+1=s.2.2.2.2.2.2.2.2.2.1/\bs []=s.2.2.2.2.2.2.2.2.2.2.1/\0=s.2.2.2.2.2.2.2.2.2.2.2.1/\0=s.2.2.2.2.2.2.2.2.2.2.2.2.1)/\∀q∈s.2.2.2.2.2.2.2.2.2.2.2.2.2.1,EE (m+1) q) (λs=>s.2.1.toNat) ⟨rfl,by dsimp only;omega,by simp,v0,rfl,⟨rfl,rfl,rfl,rfl⟩,λq hq=>absurd hq List.not_mem_nil⟩ ?_
 rintro⟨_,k,L,a,_,t6,t7,t8,t9,_,_,_,_,l,⟨⟩⟩ ⟨rfl,k0,k1,hd,rfl,⟨rfl,rfl,rfl,rfl⟩,hw⟩
 dsimp only at k0 k1 hd hw ⊢
 rw[hi]
 refine T.cnd (λhg=>?_) (λhg=>?_)<;>simp only[bsX,eq_self]at hg
 .refine T.call (sf _ _ hd) (λw ⟨w0,w1⟩=>T.grd (by rw[fM];simp;omega) (T.go ⟨rfl,?_,?_,w1,rfl,⟨rfl,rfl,rfl,rfl⟩,fq hw w0⟩ ?_))
  all_goals dsimp only
  all_goals rw[aV (by omega) (by omega)]
  all_goals(try simp only[List.length_append,List.length_cons,List.length_nil])
  all_goals omega
 .exact T.out ⟨EE.mk (.inr ⟨by omega,by omega⟩) (by omega) hw,hd⟩
theorem Lb{n:Nat}{x:DS6×Int×List Int×Int×List ByteArray×Unit}(h:SK x.1/\aK x.2.2.1 x.2.2.2.1/\x.2.1<=3/\x.2.1<=n/\1<=n/\List.length (α:=ByteArray) x.2.2.2.2.1<=1000):T (bg (λself (x:DS6×Int×List Int×Int×List ByteArray×Unit)=>zw self x.1 x.2.1 x.2.2.1 x.2.2.2.1 x.2.2.2.2.1) n x) (λy:DS0×List Int×Int×List ByteArray×Unit=>WE (x.2.1.toNat+1) y.1/\aK y.2.1 y.2.2.1/\y.2.2.2.1=x.2.2.2.2.1):=by
 refine T.iter (λn (x:DS6×Int×List Int×Int×List ByteArray×Unit)=>SK x.1/\aK x.2.2.1 x.2.2.2.1/\x.2.1<=3/\x.2.1<=n/\1<=n/\List.length (α:=ByteArray) x.2.2.2.2.1<=1000) (λ_ x (y:DS0×List Int×Int×List ByteArray×Unit)=>WE (x.2.1.toNat+1) y.1/\aK y.2.1 y.2.2.1/\y.2.2.2.1=x.2.2.2.2.1) (λn x h self hs=>?_) (λx h=>by have:=h.2.2.2.2.1;omega) n x h
 unfold zw
 obtain⟨hk,hd,h3,h4,h5,hn⟩:=h
 have hk2:SK (x.1.1,()):=hk
 repeat' (first|(refine T.call (bQ (by assumption) (by omega) (by omega)) (λ_ ⟨_,_,_⟩=>?_))|(refine T.call (vD (by assumption) (by omega) (by omega) (by omega)) (λ_ ⟨_,_,_⟩=>?_))|(refine T.call (Z5 _ _ hk (by assumption) hn) (λ_ ⟨k0,k1,k2⟩=>?_))|(refine T.call (hs (_,_,_,_,_,()) ⟨j4,j3,by dsimp only;simp(disch:=omega) only[j0,aV];omega,by dsimp only;simp(disch:=omega) only[j0,aV];omega,by omega,by rw[j6];exact hn⟩) (λ_ ⟨k0,k1,k2⟩=>?_))|(refine T.call (hs (_,_,_,_,_,()) ⟨hk,by assumption,by dsimp only;simp(disch:=omega) only[aV];omega,by dsimp only;simp(disch:=omega) only[aV];omega,by omega,hn⟩) (λ_ ⟨k0,k1,k2⟩=>?_))|(refine T.loop (λs=>s.1=x.2.1/\0<=s.2.1/\(List.length (α:=DS0) s.2.2.2.2.2.2.2.2.2.2.2.2.2.2.1:Int)+s.2.1<=3/\aK s.2.2.1 s.2.2.2.1/\SK (s.2.2.2.2.2.1,())/\(∀q∈s.2.2.2.2.2.2.2.2.2.2.2.2.2.2.1,WE x.2.1.toNat q)/\s.2.2.2.2.1=x.2.2.2.2.1) (λs=>(s.2.1).toNat) ?_ (λs ⟨j0,j1,j2,j3,j4,j5,j6⟩=>?_))|(refine T.grd ?_ ?_)|(refine T.cnd (λhc=>?_) (λhc=>?_)<;>try simp only[bsX,eq_self]at hc)|(refine T.eP ?_)|(refine T.go ?_ ?_)|(refine T.out ?_)|(refine T.jgo ?_)|(refine T.jN ?_)|(refine T.mO ?_)|(refine T.ret ?_))
 all_goals(try dsimp only[LQ,JQ])
 all_goals(repeat' (with_reducible refine And.intro ?_ ?_))<;>first|trivial|assumption|omega|(first|(simp(disch:=omega) only[bsX,eq_self,arX];omega)|(simp(disch:=omega) only[bsX,eq_self,arX];done))|exact k0.to (by omega)|exact WE.to (k:=1) (WE.leaf (by simp)) (by omega)|exact λ_ hq=>absurd hq List.not_mem_nil|exact hs2|(have e:x.2.1.toNat=(bf .i64 x.2.1 1).toNat+1:=(by rw[aV (by omega) (by omega)];omega);rw[e];exact WE.mk (by simp) (by simp) (λq hq=>by rw[List.mem_singleton.1 hq];exact k0))|exact WE.mk (by simp) (by omega) j5|(refine fq j5 ?_;have e:x.2.1.toNat=(bf .i64 s.1 1).toNat+1:=(by rw[j0,aV (by omega) (by omega)];omega);rw[e];exact k0)|exact cK.mpr ⟨yN (by assumption),rfl⟩|exact k2.trans j6|exact k2|(rw[k2];assumption)|(rw[k2];exact hn)
theorem Vv{n:Nat}{x:DS6×Int×List Int×Int×Unit}(h:SK x.1/\aK x.2.2.1 x.2.2.2.1/\x.2.1<=2/\x.2.1+1<=n/\1<=n):T (bg (λself (x:DS6×Int×List Int×Int×Unit)=>Gr self x.1 x.2.1 x.2.2.1 x.2.2.2.1) n x) (λy:List AV×List Int×Int×Unit=>WB (x.2.1.toNat+1) y.1/\aK y.2.1 y.2.2.1):=by
 refine T.iter (λn (x:DS6×Int×List Int×Int×Unit)=>SK x.1/\aK x.2.2.1 x.2.2.2.1/\x.2.1<=2/\x.2.1+1<=n/\1<=n) (λ_ x (y:List AV×List Int×Int×Unit)=>WB (x.2.1.toNat+1) y.1/\aK y.2.1 y.2.2.1) (λn x h self hs=>?_) (λx h=>by have:=h.2.2.2.2;omega) n x h
 unfold Gr
 obtain⟨hk,hd,h3,h4,h5⟩:=h
 have hk2:SK (x.1.1,()):=hk
 repeat' (first|(refine T.call (bQ (by assumption) (by omega) (by omega)) (λ_ ⟨_,y0,y1⟩=>?_))|(refine T.call (Lc (n:=10000) (x:=(_,_,_,_,())) ⟨j4,by assumption,by dsimp only;omega,by dsimp only;omega,by omega⟩) (λ_ ⟨k0,k1⟩=>?_))|(refine T.call (hs (_,_,_,_,()) ⟨j4,by assumption,by dsimp only;simp(disch:=omega) only[j0,aV];omega,by dsimp only;simp(disch:=omega) only[j0,aV];omega,by omega⟩) (λ_ ⟨m0,m1⟩=>?_))|(refine T.loop (λs=>s.1=x.2.1/\0<=s.2.1/\(List.length (α:=DS7) s.2.2.2.2.2.1:Int)+s.2.1<=3/\aK s.2.2.1 s.2.2.2.1/\SK (s.2.2.2.2.1,())/\(∀q∈s.2.2.2.2.2.1,WE 10 q.2.1/\WB x.2.1.toNat q.2.2.1)) (λs=>(s.2.1).toNat) ?_ (λs ⟨j0,j1,j2,j3,j4,j5⟩=>?_))|(refine T.grd ?_ ?_)|(refine T.cnd (λhc=>?_) (λhc=>?_)<;>try simp only[bsX,eq_self]at hc)|(refine T.eP ?_)|(refine T.go ?_ ?_)|(refine T.out ?_)|(refine T.jgo ?_)|(refine T.jN ?_)|(refine T.mO ?_)|(refine T.ret ?_))
 all_goals(try dsimp only[LQ,JQ])
 all_goals(repeat' (with_reducible refine And.intro ?_ ?_))<;>first|trivial|assumption|omega|(first|(simp(disch:=omega) only[bsX,eq_self,arX];omega)|(simp(disch:=omega) only[bsX,eq_self,arX];done))|exact λ_ hq=>absurd hq List.not_mem_nil|exact WB.mk (by omega) j5|exact cK.mpr ⟨yN (by assumption),rfl⟩|(refine fq j5 ⟨WE.to (k:=3) k0.1 (by omega),?_⟩;have e:x.2.1.toNat=(bf .i64 s.1 1).toNat+1:=(by rw[j0,aV (by omega) (by omega)];omega);rw[e];exact m0)
theorem Vu{n:Nat}{x:DS6×Int×List Int×Int×List ByteArray×Unit}(h:SK x.1/\aK x.2.2.1 x.2.2.2.1/\x.2.1<=2/\x.2.1+1<=n/\1<=n/\List.length (α:=ByteArray) x.2.2.2.2.1<=1000):T (bg (λself (x:DS6×Int×List Int×Int×List ByteArray×Unit)=>zu self x.1 x.2.1 x.2.2.1 x.2.2.2.1 x.2.2.2.2.1) n x) (λy:List AV×List Int×Int×List ByteArray×Unit=>WB (x.2.1.toNat+1) y.1/\aK y.2.1 y.2.2.1/\y.2.2.2.1=x.2.2.2.2.1):=by
 refine T.iter (λn (x:DS6×Int×List Int×Int×List ByteArray×Unit)=>SK x.1/\aK x.2.2.1 x.2.2.2.1/\x.2.1<=2/\x.2.1+1<=n/\1<=n/\List.length (α:=ByteArray) x.2.2.2.2.1<=1000) (λ_ x (y:List AV×List Int×Int×List ByteArray×Unit)=>WB (x.2.1.toNat+1) y.1/\aK y.2.1 y.2.2.1/\y.2.2.2.1=x.2.2.2.2.1) (λn x h self hs=>?_) (λx h=>by have:=h.2.2.2.2.1;omega) n x h
 unfold zu
 obtain⟨hk,hd,h3,h4,h5,hn⟩:=h
 have hk2:SK (x.1.1,()):=hk
 repeat' (first|(refine T.call (bQ (by assumption) (by omega) (by omega)) (λ_ ⟨_,y0,y1⟩=>?_))|(refine T.call (Lb (n:=10000) (x:=(_,_,_,_,_,())) ⟨j4,by assumption,by dsimp only;omega,by dsimp only;omega,by omega,by rw[j6];exact hn⟩) (λ_ ⟨k0,k1,k2⟩=>?_))|(refine T.call (hs (_,_,_,_,_,()) ⟨j4,by assumption,by dsimp only;simp(disch:=omega) only[j0,aV];omega,by dsimp only;simp(disch:=omega) only[j0,aV];omega,by omega,by first|exact hn|(rw[j6];exact hn)|(rw[k2,j6];exact hn)|(dsimp only at k2 ⊢;rw[k2,j6];exact hn)⟩) (λ_ ⟨m0,m1,m2⟩=>?_))|(refine T.loop (λs=>s.1=x.2.1/\0<=s.2.1/\(List.length (α:=DS7) s.2.2.2.2.2.2.1:Int)+s.2.1<=3/\aK s.2.2.1 s.2.2.2.1/\SK (s.2.2.2.2.2.1,())/\(∀q∈s.2.2.2.2.2.2.1,WE 10 q.2.1/\WB x.2.1.toNat q.2.2.1)/\s.2.2.2.2.1=x.2.2.2.2.1) (λs=>(s.2.1).toNat) ?_ (λs ⟨j0,j1,j2,j3,j4,j5,j6⟩=>?_))|(refine T.grd ?_ ?_)|(refine T.cnd (λhc=>?_) (λhc=>?_)<;>try simp only[bsX,eq_self]at hc)|(refine T.eP ?_)|(refine T.go ?_ ?_)|(refine T.out ?_)|(refine T.jgo ?_)|(refine T.jN ?_)|(refine T.mO ?_)|(refine T.ret ?_))
 all_goals(try dsimp only[LQ,JQ])
 all_goals(repeat' (with_reducible refine And.intro ?_ ?_))<;>first|trivial|assumption|omega|(first|(simp(disch:=omega) only[bsX,eq_self,arX];omega)|(simp(disch:=omega) only[bsX,eq_self,arX];done))|exact λ_ hq=>absurd hq List.not_mem_nil|exact WB.mk (by omega) j5|exact cK.mpr ⟨yN (by assumption),rfl⟩|(refine fq j5 ⟨WE.to (k:=3) k0 (by omega),?_⟩;have e:x.2.1.toNat=(bf .i64 s.1 1).toNat+1:=(by rw[j0,aV (by omega) (by omega)];omega);rw[e];exact m0)|exact m2.trans (k2.trans j6)|exact j6|exact cK.mpr ⟨yN m2,rfl⟩|exact cK.mpr ⟨yN k2,rfl⟩
theorem a4K{L:List Int}{a:Int}(s:DS6)(d:Int)(hs:SK s)(h:aK L a)(h3:d<=3):T (J3 s d L a) (λy=>(WE 10 y.1/\gD y.1=true)/\aK y.2.1 y.2.2.1) :=
 (Lc (n:=10000) (x:=(s,d,L,a,())) ⟨hs,h,h3,by dsimp only;omega,by omega⟩).mono λy q=>⟨⟨q.1.1.to (by dsimp only;omega),q.1.s (by dsimp only;omega)⟩,q.2⟩
theorem a4J{L:List Int}{a:Int}(s:DS6)(d:Int)(l:List ByteArray)(hs:SK s)(h:aK L a)(h3:d<=3)(hn:l.length<=1000):T (yu s d L a l) (λy=>WE 10 y.1/\aK y.2.1 y.2.2.1/\y.2.2.2.1=l) :=
 (Lb (n:=10000) (x:=(s,d,L,a,l,())) ⟨hs,h,h3,by dsimp only;omega,by omega,hn⟩).mono λy q=>⟨q.1.to (by dsimp only;omega),q.2⟩
theorem a4X{L:List Int}{a:Int}(s:DS6)(d:Int)(hs:SK s)(h:aK L a)(h3:d<=2):T (Nq s d L a) (λy=>WB 10 y.1/\aK y.2.1 y.2.2.1) :=
 (Vv (n:=10000) (x:=(s,d,L,a,())) ⟨hs,h,h3,by dsimp only;omega,by omega⟩).mono λy q=>⟨q.1.to (by dsimp only;omega),q.2⟩
theorem a4W{L:List Int}{a:Int}(s:DS6)(d:Int)(l:List ByteArray)(hs:SK s)(h:aK L a)(h3:d<=2)(hn:l.length<=1000):T (Ct s d L a l) (λy=>WB 10 y.1/\aK y.2.1 y.2.2.1/\y.2.2.2.1=l) :=
 (Vu (n:=10000) (x:=(s,d,L,a,l,())) ⟨hs,h,h3,by dsimp only;omega,by omega,hn⟩).mono λy q=>⟨q.1.to (by dsimp only;omega),q.2⟩
attribute [local irreducible] J3 yu Nq Ct
theorem Yk(k:Int):iL k<=1073741824:=by
 unfold iL
 cases iEq k 5<;>cases iEq k 6<;>cases iEq k 7<;>cases iEq k 10<;>cases iEq k 8<;>decide
theorem Ri{L:List Int}{a:Int}(s:DS6)(k:Int)(p:ByteArray)(hs:SK s)(h:aK L a):T (m85 s k p L a) (λy=>WC y.1/\aK y.2.1 y.2.2.1/\y.1.1=k/\y.1.2.1=p/\gD y.1.2.2.1=true/\(k=2->y.1.2.2.2.1=[]/\y.1.2.2.2.2.1=0)):=by
 unfold m85
 obtain⟨s5,⟨⟩⟩:=s
 have hm0:=DU k
 have hm1:=Yk k
 have up:∀{L:List Int} {a:Int},aK L a->iLt 0 (iL k)=true->T (yj (bf .i64 (iL k) 1) L a) (λy=>aK y.2.1 y.2.2.1/\0<=y.1/\y.1<=bf .i64 (iL k) 1):=λhd hm=>by
  rw[aT]at hm
  exact OP hd (by rw[aV (by omega) (by omega)];omega) (by rw[aV (by omega) (by omega)];omega)
 refine T.call (a4K (s5,()) _ hs h (by omega)) (λu ⟨⟨k0,ks⟩,k1⟩=>T.cnd (λhc=>?_) (λhc=>?_))<;>simp only[bsX,eq_self]at hc
 .exact T.call (a4X _ _ hs k1 (by omega)) (λv ⟨m0,m1⟩=>T.aO (Cm k) (T.cnd (λhm=>T.call (up m1 hm) (λw ⟨w0,_,_⟩=>T.ret ⟨⟨k0,m0⟩,w0,rfl,rfl,ks,λq=>absurd hc (by omega)⟩)) (λ_=>T.ret ⟨⟨k0,m0⟩,m1,rfl,rfl,ks,λq=>absurd hc (by omega)⟩)))
 .have wn:WB 10 ([]:List AV):=WB.to (k:=1) (WB.mk (l:=[]) (by simp) (λ_ hq=>absurd hq List.not_mem_nil)) (by omega)
  exact T.aO (Cm k) (T.cnd (λhm=>T.call (up k1 hm) (λw ⟨w0,_,_⟩=>T.ret ⟨⟨k0,wn⟩,w0,rfl,rfl,ks,λq=>by subst q;exact absurd hm (by decide)⟩)) (λ_=>T.ret ⟨⟨k0,wn⟩,k1,rfl,rfl,ks,λ_=>⟨rfl,rfl⟩⟩))
theorem Rh{L:List Int}{a:Int}(s:DS6)(k:Int)(p:ByteArray)(l:List ByteArray)(hn:l.length<=1000)(hs:SK s)(h:aK L a):T (Cq s k p L a l) (λy=>WC y.1/\aK y.2.1 y.2.2.1/\y.2.2.2.1=l):=by
 unfold Cq
 repeat' (first|(refine T.call (a4J _ _ _ hs h (by omega) hn) (λu ⟨k0,k1,k2⟩=>?_))|(refine T.call (a4W _ _ _ hs k1 (by omega) (by rw[k2];exact hn)) (λv ⟨m0,m1,m2⟩=>?_))|(refine T.call (OP (by assumption) (by simp(disch:=omega) only[aV];omega) (by simp(disch:=omega) only[aV];omega)) (λ_ ⟨_,_,_⟩=>?_))|(refine T.call (a1y _) (λ_ ⟨_,_⟩=>?_))|(refine T.grd ?_ ?_)|(refine T.cnd (λhc=>?_) (λhc=>?_)<;>try simp only[bsX,eq_self]at hc)|(refine T.eP ?_)|(refine T.go ?_ ?_)|(refine T.out ?_)|(refine T.jgo ?_)|(refine T.jN ?_)|(refine T.mO ?_)|(refine T.ret ?_))
 all_goals(try dsimp only[LQ,JQ])
 all_goals(repeat' (with_reducible refine And.intro ?_ ?_))<;>first|trivial|assumption|omega|exact⟨k0,m0⟩|exact⟨k0,WB.to (k:=1) (WB.mk (l:=[]) (by simp) (λ_ hq=>absurd hq List.not_mem_nil)) (by omega)⟩|exact m2.trans k2|exact k2|exact cK.mpr ⟨yN m2,rfl⟩|exact cK.mpr ⟨yN k2,rfl⟩|(first|(simp(disch:=omega) only[bsX,eq_self,arX];omega)|(simp(disch:=omega) only[bsX,eq_self,arX];done))
end
section
theorem JL(l:List Int):(bsI l).size=l.length:=by simp[bsI,ByteArray.size]
theorem xI(a b:ByteArray):(wo a b).size=a.size+b.size:=by simp[wo]
theorem Aj{a b:ByteArray}(ha:a.size<=2000)(hb:b.size<=2000):zf a b=true:=by unfold zf;exact decide_eq_true (by omega)
theorem Fa(p:ByteArray)(k:Int)(h:p.size<=1000):T (m86 p k) (λ_=>True):=by
 unfold m86
 exact T.grd rfl (T.grd rfl (T.grd rfl (T.grd (Aj (by omega) (by rw[JL];simp)) (T.ret trivial))))
attribute [local irreducible] m89 m50 m85 Cq
theorem VL.all{l:List DS1}(h:VL l):∀c∈l,eG c=true:=λc hc=>by
 obtain⟨k,h0,h1,rfl⟩:=yO (z:=zS1) hc
 exact(h k h0 h1).1
theorem VL.one{c:DS1}(h:eG c=true):VL [c]:=λk h0 h1=>by
 obtain rfl:k=0:=by simp at h1;omega
 exact⟨h,λj j0 j1=>by omega⟩
theorem Lm{c:DS1}(h1:c.1=2)(h2:bA c.2.1=true)(h3:gD c.2.2.1=true)(h4:c.2.2.2.1=[]/\c.2.2.2.2.1=0):eG c=true:=by
 unfold eG
 rw[h1,h2,h3,h4.1,h4.2];rfl
theorem Yz:gD (1,bs [],([]:List ByteArray),0,0,([]:List AV),())=true:=(show EE 1 _ from EE.leaf (by show(_:Bool)=true;kernel_rfl) rfl (by simp)).s (by omega)
theorem zW{L:List Int}{a:Int}(s:DS6)(n:Int)(p:ByteArray)(hs:SK s)(h:aK L a)(n0:0<=n)(n1:n<=6)(hp:p.size<=1000)(hq:(m86 p 0).elim false (λy=>bA y.1)=true):T (m48 s n p L a) (λy=>aK y.1 y.2.1/\CW 7 y.2.2.1/\1<=List.length y.2.2.1/\VL y.2.2.1):=by
 unfold m48
 obtain⟨u,hu,_⟩:=Fa p 0 hp
 rw[hu]at hq
 have hq:bA u.1=true:=hq
 refine T.aO hu (T.call (Ri _ _ _ hs h) (λv ⟨v0,v1,w1,w2,w3,w4⟩=>?_))
 have w4:=w4 rfl
 refine T.join (λj=>n=j.1/\p=j.2.1/\aK j.2.2.1 j.2.2.2.1/\SK (j.2.2.2.2.1,())/\List.length j.2.2.2.2.2.1=1/\(∀c∈j.2.2.2.2.2.1,WC c)/\VL j.2.2.2.2.2.1) ?_ (λj hj=>?_)
 .refine T.call (bQ v1 (by omega) (by omega)) (λw ⟨w0,_,_⟩=>T.cnd (λ_=>T.grd rfl (T.grd rfl (T.jgo ⟨rfl,rfl,w0,hs,rfl,λc hc=>?_,?_⟩))) (λ_=>T.jgo ⟨rfl,rfl,w0,hs,rfl,λc hc=>?_,VL.one (Lm w1 (by rw[w2];exact hq) w3 w4)⟩))
  .rw[List.mem_singleton.1 hc];exact⟨WE.to (k:=1) (WE.leaf (by simp)) (by omega),v0.2⟩
  .exact VL.one (c:=(v.1.1,v.1.2.1,(1,bs [],([]:List ByteArray),0,0,([]:List AV),()),v.1.2.2.2.1,v.1.2.2.2.2.1,())) (Lm w1 (show bA v.1.2.1=true by rw[w2];exact hq) Yz w4)
  .rw[List.mem_singleton.1 hc];exact v0
 obtain⟨_,_,L,a,s5,l,⟨⟩⟩:=j
 obtain⟨rfl,rfl,hd,hk,hl,hw,hv⟩:=hj
 dsimp only at hd hk hl hw hv ⊢
 refine T.loop (λs=>n=s.1/\p=s.2.1/\(1<=s.2.2.1/\s.2.2.1<=n+1)/\aK s.2.2.2.1 s.2.2.2.2.1/\s5=s.2.2.2.2.2.1/\(List.length (α:=ByteArray) s.2.2.2.2.2.2.1:Int)<=s.2.2.1/\(1<=List.length (α:=DS1) s.2.2.2.2.2.2.2.1/\(List.length (α:=DS1) s.2.2.2.2.2.2.2.1:Int)<=s.2.2.1)/\(∀c∈s.2.2.2.2.2.2.2.1,WC c)/\VL s.2.2.2.2.2.2.2.1) (λs=>(n+1-s.2.2.1).toNat) ⟨rfl,rfl,⟨by simp,by dsimp only;omega⟩,hd,rfl,by simp,⟨by dsimp only;omega,by dsimp only;omega⟩,hw,hv⟩ ?_
 clear hv hw hl hd
 rintro⟨_,_,k,L,a,_,nm,l,⟨⟩⟩ ⟨rfl,rfl,⟨k0,k1⟩,hd,rfl,hn,⟨l0,l1⟩,hw,hv⟩
 dsimp only at k0 k1 hd hn l0 l1 hw hv ⊢
 refine T.cnd (λhc=>?_) (λhc=>T.out ⟨hd,⟨by dsimp only;omega,hw⟩,l0,hv⟩)
 simp only[bsX,eq_self]at hc
 refine T.aO (show m87 _ _=some _ from rfl) (T.cnd (λ_=>?_) (λ_=>T.out ⟨hd,⟨by dsimp only;omega,hw⟩,l0,hv⟩))
 refine T.call (vD hd (by omega) (by omega) (by omega)) (λx ⟨x0,_,_⟩=>T.call (Fa _ _ hp) (λy _=>T.call (Rh _ _ _ _ (by omega) hk x0) (λz ⟨z0,z1,z2⟩=>?_)))
 have hcb:CB (([]++l)++[z.1]):=⟨by simp;omega,fq hw z0⟩
 have hz:(List.length (α:=ByteArray) z.2.2.2.1:Int)<=k:=by rw[z2];exact hn
 refine T.grd (cK.mpr ⟨yN z2,rfl⟩) (T.grd (by rw[fM];simp;omega) (T.grd (by rw[fM];simp;omega) (T.call (FH _ _ hk.sb hcb) (λe he=>T.cnd (λ_=>T.go ⟨rfl,rfl,⟨?_,?_⟩,z1,rfl,?_,⟨l0,?_⟩,hw,hv⟩ ?_) (λhne=>T.cnd (λ_=>T.grd (by rw[fM];simp;omega) (T.go ⟨rfl,rfl,⟨?_,?_⟩,z1,rfl,?_,⟨?_,?_⟩,fq hw z0,he (Gw.mp hne)⟩ ?_)) (λ_=>T.go ⟨rfl,rfl,⟨?_,?_⟩,z1,rfl,?_,⟨?_,?_⟩,fq hw z0,he (Gw.mp hne)⟩ ?_))))))
 all_goals dsimp only
 all_goals(try rw[aF (by omega) (by omega)])
 all_goals(try simp only[List.length_append,List.length_cons,List.length_nil])
 all_goals omega
end
section
attribute [local irreducible] m48 m50
theorem R6{f t:Int}{rm:List ByteArray}{xc:List DS1}(h1:uS (f,t,())=true)(h2:rm.length<=40)(h3:∀w∈rm,bA w=true)(h4:rm.Nodup)(h5:xc.length<=40)(h6:∀c∈xc,eG c=true):nJ ((f,t,()),rm,xc,())=true:=by
 unfold nJ iY
 dsimp only
 rw[h1,decide_eq_true h2,List.all_eq_true.2 h3,D5.mpr h4,decide_eq_true h5,List.all_eq_true.2 h6];rfl
def RM(cl:List DS1)(i:Int)(rm:List ByteArray):Prop:=rm.Nodup/\∀w∈rm,∃j,0<=j/\j<i/\w=(atI cl j zS1).2.1
theorem RM.up{cl:List DS1}{i:Int}{rm:List ByteArray}(h:RM cl i rm):RM cl (i+1) rm:=⟨h.1,λw hw=>by
 obtain⟨j,j0,j1,e⟩:=h.2 w hw
 exact⟨j,j0,by omega,e⟩⟩
theorem RM.add{cl:List DS1}{i:Int}{rm:List ByteArray}(h:RM cl i rm)(hv:VL cl)(h0:0<=i)(h1:i<(cl.length:Int)):RM cl (i+1) (rm++[(atI cl i zS1).2.1]):=by
 refine⟨?_,fq h.up.2 ⟨i,h0,by omega,rfl⟩⟩
 refine List.nodup_append.2 ⟨h.1,by simp,λw hw v hv2 e=>?_⟩
 rw[List.mem_singleton]at hv2
 obtain⟨j,j0,j1,e2⟩:=h.2 w hw
 exact(hv i h0 h1).2 j j0 j1 (by rw[<- e2,e,hv2])
theorem Rf{c:DS1}(h:eG c=true):bA c.2.1=true:=(cK.mp (cK.mp h).2).1
theorem RM.nm{cl:List DS1}{i:Int}{rm:List ByteArray}(h:RM cl i rm)(hv:VL cl)(h1:i<=(cl.length:Int)):∀w∈rm,bA w=true:=λw hw=>by
 obtain⟨j,j0,j1,rfl⟩:=h.2 w hw
 exact Rf (hv j j0 (by omega)).1
theorem K4{L:List Int}{a:Int}(s:DS6)(b:Bool)(hs:SK s)(h:aK L a):T (m22 s 6 b L a) (λy=>(CW 7 y.2.2.1/\1<=List.length y.2.2.1/\VL y.2.2.1)/\List.length (α:=DS3) y.2.2.2.1<=2/\∀x∈y.2.2.2.1,EW x/\nJ x=true):=by
 unfold m22
 refine T.call (zW _ _ _ hs h (by omega) (by omega) (by decide) (by kernel_rfl)) (λu ⟨u0,u1,u2,u3⟩=>T.call (bQ u0 (by omega) (by omega)) (λv ⟨v0,v1,v2⟩=>?_))
 obtain⟨s5,⟨⟩⟩:=s
 refine T.loop (λs=>(0<=s.2.1/\s.2.1<=2)/\aK s.2.2.1 s.2.2.2.1/\s5=s.2.2.2.2.1/\CW 7 s.2.2.2.2.2.1/\(1<=List.length (α:=DS1) s.2.2.2.2.2.1/\VL s.2.2.2.2.2.1)/\(List.length (α:=DS3) s.2.2.2.2.2.2.1:Int)+s.2.1<=2/\∀x∈s.2.2.2.2.2.2.1,EW x/\nJ x=true) (λs=>s.2.1.toNat) ⟨⟨v1,by dsimp only;omega⟩,v0,rfl,u1,⟨u2,u3⟩,by simp;omega,λx hx=>absurd hx List.not_mem_nil⟩ ?_
 rintro⟨b,k,L,a,_,cl,en,⟨⟩⟩ ⟨⟨k0,k1⟩,hd,rfl,hc,⟨hl,hv⟩,he,hw⟩
 dsimp only at k0 k1 hd hc hl hv he hw ⊢
 refine T.cnd (λhg=>?_) (λ_=>T.out ⟨⟨hc,hl,hv⟩,by dsimp only;omega,hw⟩)
 simp only[bsX,eq_self]at hg
 refine T.call (TL hd) (λp ⟨hp,hp0⟩=>T.cnd (λ_=>T.go ⟨⟨?_,?_⟩,hp,rfl,hc,⟨hl,hv⟩,?_,hw⟩ ?_) (λhf=>?_))
 .dsimp only;rw[aV (by omega) (by omega)];omega
 .dsimp only;rw[aV (by omega) (by omega)];omega
 .dsimp only;rw[aV (by omega) (by omega)];omega
 .dsimp only;rw[aV (by omega) (by omega)];omega
 have a8J:uS (p.1,dG p.2.1 876599,())=true:=by
  simp only[bsX,eq_self]at hf
  unfold dG at *
  unfold uS
  dsimp only
  rw[jY.mpr hp0,aT.mpr hf,jY.mpr (show min p.2.1 876599<=876600 by omega),jY.mpr (show min p.2.1 876599<=876599 by omega)];rfl
 have hq2:(m86 (wo (wo (bs [101]) (bsI ([IntKind.wrap .u8 (aB .i64 48 k)]:List Int))) (bs [45])) 0).elim false (λy=>bA y.1)=true:=by
  have:k=1\/k=2:=by omega
  rcases this with rfl|rfl<;>(show((_:Bool)=true))<;>kernel_rfl
 have h1:∀z:Int,(bsI [z]).size=1:=λz=>JL [z]
 have h2:ByteArray.size (bs [101])=1:=rfl
 have h3:ByteArray.size (bs [45])=1:=rfl
 refine T.grd (Aj (by omega) (by rw[h1];omega)) (T.grd (Aj (by rw[xI,h1];omega) (by omega)) ?_)
 refine T.call (zW _ _ _ hs hp (by omega) (by omega) (by rw[xI,xI,h1];omega) hq2) (λu ⟨u0,u1,u2,u3⟩=>?_)
 refine T.loop (λq=>k=q.2.1/\0<=q.2.2.1/\aK q.2.2.2.1 q.2.2.2.2.1/\s5=q.2.2.2.2.2.1/\cl=q.2.2.2.2.2.2.2.2.1/\en=q.2.2.2.2.2.2.2.2.2.1/\(List.length (α:=ByteArray) q.2.2.2.2.2.2.2.2.2.2.1:Int)<=q.2.2.1/\(q.2.2.1<=7/\q.2.2.1<=(List.length cl:Int))/\CW 7 q.2.2.2.2.2.2.2.2.2.2.2.1/\(∀c∈q.2.2.2.2.2.2.2.2.2.2.2.1,eG c=true)/\RM cl q.2.2.1 q.2.2.2.2.2.2.2.2.2.2.1/\uS (q.2.2.2.2.2.2.1,q.2.2.2.2.2.2.2.1,())=true) (λq=>((List.length cl:Int)-q.2.2.1).toNat) ⟨rfl,by simp,u0,rfl,rfl,rfl,by simp,⟨by simp,by dsimp only;omega⟩,u1,u3.all,⟨List.nodup_nil,λw hw=>absurd hw List.not_mem_nil⟩,a8J⟩ ?_
 have hc7:=hc.1
 rintro⟨b,_,i,L,a,_,f,t,_,_,rm,xc,⟨⟩⟩ ⟨rfl,i0,hd,rfl,rfl,rfl,i1,⟨i2,i3⟩,hx,hy,hr,hp2⟩
 dsimp only at i0 hd i1 i2 i3 hx hy hr hp2 ⊢
 refine T.cnd (λhi=>?_) (λhi=>?_)<;>simp only[bsX,eq_self]at hi
 .have hn:i.toNat<cl.length:=by omega
  have ea:aB .i64 i 1=i+1:=aF (by omega) (by omega)
  refine T.call (bQ hd (by omega) (by omega)) (λv ⟨v0,_,_⟩=>T.cnd (λ_=>T.grd (by rw[aP,av];omega) (T.grd (by rw[nk];exact hn) (T.grd (by rw[fM];simp;omega) (T.go ⟨rfl,?_,v0,rfl,rfl,rfl,?_,⟨?_,?_⟩,hx,hy,ea.symm▸hr.add hv i0 hi,hp2⟩ ?_)))) (λ_=>T.go ⟨rfl,?_,v0,rfl,rfl,rfl,?_,⟨?_,?_⟩,hx,hy,ea.symm▸hr.up,hp2⟩ ?_))
  all_goals dsimp only
  all_goals rw[aF (by omega) (by omega)]
  all_goals(try simp only[List.length_append,List.length_cons,List.length_nil])
  all_goals omega
 refine T.map (T.call (bQ hd (by omega) (by omega)) (λv ⟨v0,_,_⟩=>?_))
 have fin:∀(j:Bool×Int×List Int×Int×List DS5×Int×Int×List ByteArray×List DS1×List DS1×List DS3×Unit),(k=j.2.1/\aK j.2.2.1 j.2.2.2.1/\s5=j.2.2.2.2.1/\nJ ((j.2.2.2.2.2.1,j.2.2.2.2.2.2.1,()),j.2.2.2.2.2.2.2.1,j.2.2.2.2.2.2.2.2.1,())=true/\List.length (α:=ByteArray) j.2.2.2.2.2.2.2.1<=1000/\CW 7 j.2.2.2.2.2.2.2.2.1/\cl=j.2.2.2.2.2.2.2.2.2.1/\en=j.2.2.2.2.2.2.2.2.2.2.1)->T (cond (fits (List.length ([]:List DS3)+List.length j.2.2.2.2.2.2.2.2.2.2.1) 64)  (cond (fits (List.length (([]:List DS3)++j.2.2.2.2.2.2.2.2.2.2.1)+List.length ([((j.2.2.2.2.2.1,j.2.2.2.2.2.2.1,()),j.2.2.2.2.2.2.2.1,j.2.2.2.2.2.2.2.2.1,())]:List DS3)) 64)  ((m50 (j.2.2.2.2.1,()) (j.2.2.2.2.2.2.2.2.2.1,(([]:List DS3)++j.2.2.2.2.2.2.2.2.2.2.1)++([((j.2.2.2.2.2.1,j.2.2.2.2.2.2.1,()),j.2.2.2.2.2.2.2.1,j.2.2.2.2.2.2.2.2.1,())]:List DS3),())).bind λRw=> cond (cond (iEq Rw.2.2.1 0) true (not j.1))  (some (.inl (j.1,bf .i64 j.2.1 1,j.2.2.1,j.2.2.2.1,j.2.2.2.2.1,j.2.2.2.2.2.2.2.2.2.1,(([]:List DS3)++j.2.2.2.2.2.2.2.2.2.2.1)++([((j.2.2.2.2.2.1,j.2.2.2.2.2.2.1,()),j.2.2.2.2.2.2.2.1,j.2.2.2.2.2.2.2.2.1,())]:List DS3),())))  (some (.inl (j.1,bf .i64 j.2.1 1,j.2.2.1,j.2.2.2.1,j.2.2.2.2.1,j.2.2.2.2.2.2.2.2.2.1,j.2.2.2.2.2.2.2.2.2.2.1,())))) none) none) (LQ (λs=>(0<=s.2.1/\s.2.1<=2)/\aK s.2.2.1 s.2.2.2.1/\s5=s.2.2.2.2.1/\CW 7 s.2.2.2.2.2.1/\(1<=List.length (α:=DS1) s.2.2.2.2.2.1/\VL s.2.2.2.2.2.1)/\(List.length (α:=DS3) s.2.2.2.2.2.2.1:Int)+s.2.1<=2/\∀x∈s.2.2.2.2.2.2.1,EW x/\nJ x=true) (λs=>s.2.1.toNat) k.toNat (fun(y:List Int×Int×List DS1×List DS3×Unit)=>(CW 7 y.2.2.1/\1<=List.length y.2.2.1/\VL y.2.2.1)/\List.length (α:=DS3) y.2.2.2.1<=2/\∀x∈y.2.2.2.1,EW x/\nJ x=true)):=by
  rintro⟨b,_,L,a,_,f,t,rm,xc,_,_,⟨⟩⟩ ⟨rfl,d,rfl,hz,r,x,rfl,rfl⟩
  dsimp only at d hz r x ⊢
  have hE:∀e∈([]++en)++[((f,t,()),rm,xc,())],EW e/\nJ e=true:=fq hw ⟨⟨r,by have:=x.1;dsimp only;omega,x.2⟩,hz⟩
  refine T.grd (by rw[fM];simp;omega) (T.grd (by rw[fM];simp;omega) (T.call (YP _ (cl,_,()) hs.sb ⟨⟨by dsimp only;omega,hc.2⟩,by simp;omega,λe he=>(hE e he).1⟩) (λ_ _=>T.cnd (λ_=>T.go ⟨⟨?_,?_⟩,d,rfl,hc,⟨hl,hv⟩,?_,hE⟩ ?_) (λ_=>T.go ⟨⟨?_,?_⟩,d,rfl,hc,⟨hl,hv⟩,?_,hw⟩ ?_))))
  all_goals dsimp only
  all_goals rw[aV (by omega) (by omega)]
  all_goals(try simp only[List.length_append,List.length_cons,List.length_nil])
  all_goals omega
 refine T.cnd (λ_=>T.grd (by rw[aP,av];omega) (T.grd (by rw[nk];simp;omega) (T.grd (by rw[fM];simp) (T.join _ (T.jgo ⟨rfl,v0,rfl,R6 hp2 (by dsimp only;omega) (hr.nm hv (by omega)) hr.1 (by simp) (fq (λx hx=>absurd hx List.not_mem_nil) (hv 0 (by omega) (by omega)).1),?_,⟨by simp,?_⟩,rfl,rfl⟩) fin)))) (λ_=>T.join _ (T.jgo ⟨rfl,v0,rfl,R6 hp2 (by dsimp only;omega) (hr.nm hv (by omega)) hr.1 (by have:=hx.1;dsimp only;omega) hy,?_,hx,rfl,rfl⟩) fin)
 .dsimp only;omega
 .exact fq (λx hx=>absurd hx List.not_mem_nil) (hc.2 _ (AU _ (by simp;omega)))
 .dsimp only;omega
end
def iE{α:Type}(z:α)(p:α->α->Bool)(l m:List α):Bool:=decide (l.length=m.length)&&(List.range l.length).all λk=>p (atI l (k:Int) z) (atI m (k:Int) z)
section
variable{α:Type}{z:α}{p:α->α->Bool}{l m:List α}
theorem lI(h:¬l.length=m.length):iE z p l m=false:=by unfold iE;rw[decide_eq_false h];rfl
theorem lH{k:Int}(h0:0<=k)(h1:k<(l.length:Int))(h:p (atI l k z) (atI m k z)=false):iE z p l m=false:=by
 cases q:iE z p l m with
 |false=>rfl
 |true =>
  have:=List.all_eq_true.1 (cK.mp q).2 k.toNat (List.mem_range.2 (by omega))
  rw[Int.toNat_of_nonneg h0,h]at this;cases this
theorem iZ(hl:l.length=m.length)(h:∀k:Int,0<=k->k<(l.length:Int)->p (atI l k z) (atI m k z)=true):iE z p l m=true:=by
 unfold iE
 rw[decide_eq_true hl,Bool.true_and]
 exact List.all_eq_true.2 λk hk=>h k (by omega) (by have:=List.mem_range.1 hk;omega)
theorem oD(h:∀x∈l,p x x=true):iE z p l l=true:=iZ rfl λk h0 h1=>h _ (at_mem z h0 h1)
theorem nO{α β:Type}{l:List α}{m:List β}:iNe (aj l) (aj m)=!decide (l.length=m.length):=by rw[Bool.eq_iff_iff,jX,bP,decide_eq_false_iff_not,av,av];omega
end
theorem Lf(l m:List ByteArray)(h:l.length<=9223372036854775807):m61 l m=some (iE ByteArray.empty sEq l m,()):=by
 refine T.eq ?_
 unfold m61
 have hl:=av l
 rw[nO]
 by_cases hn:l.length=m.length
 case neg=>rw[decide_eq_false hn,lI hn];exact T.ret rfl
 rw[decide_eq_true hn]
 refine T.cf rfl (T.pass (l.length:Int) (λk=>sEq (atI l k ByteArray.empty) (atI m k ByteArray.empty)=true) (λk=>(l,m,aj l,k,())) (by omega) (λk h0 h1 _=>?_) (λhp=>?_))
 .dsimp only
  refine T.ct (by rw[aT];omega) (T.grd (by rw[aP];omega) (T.grd (by rw[aP,av];omega) (T.round ?_ id (λq=>?_))))
  .rw[aF (by omega) (by omega)]
  .rw[lH h0 h1 q]
 .dsimp only
  exact T.cf (by rw[bL];omega) (T.out (by rw[iZ hn hp]))
theorem Ld(l m:List ByteArray)(h:l.length<=9223372036854775807):m36 l m=some (iE ByteArray.empty sEq l m,()):=by
 refine T.eq ?_
 unfold m36
 have hl:=av l
 rw[nO]
 by_cases hn:l.length=m.length
 case neg=>rw[decide_eq_false hn,lI hn];exact T.ret rfl
 rw[decide_eq_true hn]
 refine T.cf rfl (T.pass (l.length:Int) (λk=>sEq (atI l k ByteArray.empty) (atI m k ByteArray.empty)=true) (λk=>(l,m,k,())) (by omega) (λk h0 h1 _=>?_) (λhp=>?_))
 .dsimp only
  refine T.ct (by rw[aT];omega) (T.grd (by rw[aP];omega) (T.grd (by rw[aP,av];omega) (T.round ?_ id (λq=>?_))))
  .rw[aF (by omega) (by omega)]
  .rw[lH h0 h1 q]
 .dsimp only
  exact T.cf (by rw[bL];omega) (T.out (by rw[iZ hn hp]))
theorem tq(s:ByteArray):sEq s s=true:=BX.mpr rfl
theorem oh(n:Int):iEq n n=true:=wJ.mpr rfl
def dJ:Nat->DS0->DS0->Bool
 |0,_,_=>false
 |k+1,e,f=>(iEq e.1 f.1&&sEq e.2.1 f.2.1)&&(iE ByteArray.empty sEq e.2.2.1 f.2.2.1&&((iEq e.2.2.2.1 f.2.2.2.1&&iEq e.2.2.2.2.1 f.2.2.2.2.1)&&iE AV.any (λa b=>dJ k (aL a) (aL b)) e.2.2.2.2.2.1 f.2.2.2.2.2.1))
theorem wm:∀{k:Nat} {e:DS0},WE k e->dJ k e e=true
 |0,_,h=>h.elim
 |k+1,e,h=>by
  unfold dJ
  rw[oh,tq,oh,oh,oD λx _=>tq x,oD (z:=AV.any) (p:=λa b=>dJ k (aL a) (aL b)) (l:=e.2.2.2.2.2.1) λx hx=>wm (h.2.2 x hx).2];rfl
def SP(F:Nat)(x:DS0×DS0×Unit):Prop:=WE F x.1/\XX x.2.1
theorem ZW{F:Nat}{x:DS0×DS0×Unit}(h:SP F x):T (bg (λself (x:DS0×DS0×Unit)=>N8 self x.1 x.2.1) F x) (λy:Bool×Unit=>y=(dJ F x.1 x.2.1,())):=by
 refine T.iter SP (λF x (y:Bool×Unit)=>y=(dJ F x.1 x.2.1,())) (λF x h self hs=>?_) (λx h=>h.1.elim) F x h
 obtain⟨⟨o1,n1,w1,a1,b1,l,⟨⟩⟩,⟨o2,n2,w2,a2,b2,m,⟨⟩⟩,⟨⟩⟩:=x
 obtain⟨⟨e1,e2,e3⟩,hx⟩:=h
 obtain⟨_,hA⟩:=hx.out
 dsimp only at e1 e2 e3 hA ⊢
 have hl:=av l
 unfold N8 dJ
 dsimp only
 cases iEq o1 o2<;>cases sEq n1 n2<;>first|exact T.ret rfl|skip
 refine T.ct rfl (T.aO (Lf w1 w2 (by omega)) ?_)
 dsimp only
 cases iE ByteArray.empty sEq w1 w2<;>cases iEq a1 a2<;>cases iEq b1 b2<;>first|exact T.ret rfl|skip
 refine T.ct rfl (T.aO (v:=(iE AV.any (λa b=>dJ F (aL a) (aL b)) l m,())) (T.eq ?_) (T.ret rfl))
 unfold Uw
 rw[nO]
 by_cases hn:l.length=m.length
 case neg=>rw[decide_eq_false hn,lI hn];exact T.ret rfl
 rw[decide_eq_true hn]
 refine T.cf rfl (T.pass (l.length:Int) (λk=>dJ F (aL (atI l k AV.any)) (aL (atI m k AV.any))=true) (λk=>(m,(),l,aj l,k,())) (by omega) (λk h0 h1 _=>?_) (λhp=>?_))
 .dsimp only
  have hk:=e3 _ (at_mem AV.any h0 h1)
  refine T.ct (by rw[aT];omega) (T.grd (cK.mpr ⟨by rw[aP,hl];omega,hk.1⟩) (T.grd (hA.g h0 (by omega)) (T.call (hs (aL (atI l k AV.any),aL (atI m k AV.any),()) ⟨hk.2,(hA.2 _ (at_mem AV.any h0 (by omega))).2⟩) (λy hy=>?_))))
  rw[hy]
  refine T.round (by rw[aF (by omega) (by omega)]) id (λq=>?_)
  rw[lH (p:=λa b=>dJ F (aL a) (aL b)) h0 h1 q]
 .dsimp only
  exact T.cf (by rw[bL];omega) (T.out (by rw[iZ (p:=λa b=>dJ F (aL a) (aL b)) hn hp]))
theorem ZV{F:Nat}{x:DS0×DS0×Unit}(h:SP F x):T (bg (λself (x:DS0×DS0×Unit)=>MZ self x.1 x.2.1) F x) (λy:Bool×Unit=>y=(dJ F x.1 x.2.1,())):=by
 refine T.iter SP (λF x (y:Bool×Unit)=>y=(dJ F x.1 x.2.1,())) (λF x h self hs=>?_) (λx h=>h.1.elim) F x h
 obtain⟨⟨o1,n1,w1,a1,b1,l,⟨⟩⟩,⟨o2,n2,w2,a2,b2,m,⟨⟩⟩,⟨⟩⟩:=x
 obtain⟨⟨e1,e2,e3⟩,hx⟩:=h
 obtain⟨_,hA⟩:=hx.out
 dsimp only at e1 e2 e3 hA ⊢
 have hl:=av l
 unfold MZ dJ
 dsimp only
 rw[show iNe o1 o2=!iEq o1 o2 by rw[Bool.eq_iff_iff,jX,bP,jd],show iNe a1 a2=!iEq a1 a2 by rw[Bool.eq_iff_iff,jX,bP,jd],show iNe b1 b2=!iEq b1 b2 by rw[Bool.eq_iff_iff,jX,bP,jd]]
 have hw:∀b:Bool,(b&&false)=false:=λb=>by cases b<;>rfl
 cases iEq o1 o2<;>cases sEq n1 n2<;>cases iEq a1 a2<;>cases iEq b1 b2<;>first|exact T.ret (by simp)|skip
 refine T.cf rfl (T.aO (Ld w1 w2 (by omega)) ?_)
 dsimp only
 cases iE ByteArray.empty sEq w1 w2
 .exact T.ret rfl
 rw[nO]
 by_cases hn:l.length=m.length
 case neg=>rw[decide_eq_false hn,lI hn];exact T.ret rfl
 rw[decide_eq_true hn]
 refine T.cf rfl (T.pass (l.length:Int) (λk=>dJ F (aL (atI l k AV.any)) (aL (atI m k AV.any))=true) (λk=>(k,o1,n1,w1,a1,b1,l,o2,n2,w2,a2,b2,m,())) (by omega) (λk h0 h1 _=>?_) (λhp=>?_))
 .dsimp only
  have hk:=e3 _ (at_mem AV.any h0 h1)
  refine T.ct (by rw[aT];omega) (T.grd (cK.mpr ⟨by rw[aP,hl];omega,hk.1⟩) (T.grd (hA.g h0 (by omega)) (T.call (hs (aL (atI l k AV.any),aL (atI m k AV.any),()) ⟨hk.2,(hA.2 _ (at_mem AV.any h0 (by omega))).2⟩) (λy hy=>?_))))
  rw[hy]
  refine T.round (by rw[aF (by omega) (by omega)]) id (λq=>?_)
  rw[lH (p:=λa b=>dJ F (aL a) (aL b)) h0 h1 q];rfl
 .dsimp only
  exact T.cf (by rw[bL];omega) (T.out (by rw[iZ (p:=λa b=>dJ F (aL a) (aL b)) hn hp];rfl))
theorem Pv(e f:DS0)(h:WE 10 e)(hf:XX f):m58 e f=some (dJ 10000 e f,()):=T.eq (ZW (x:=(e,f,())) ⟨h.to (by omega),hf⟩)
theorem Pt(e f:DS0)(h:WE 10 e)(hf:XX f):m62 e f=some (dJ 10000 e f,()):=T.eq (ZV (x:=(e,f,())) ⟨h.to (by omega),hf⟩)
def jB:Nat->List AV->List AV->Bool
 |0,_,_=>false
 |k+1,l,m=>iE AV.any (λa b=>sEq (ay a).1 (ay b).1&&(dJ 10000 (ay a).2.1 (ay b).2.1&&jB k (ay a).2.2.1 (ay b).2.2.1)) l m
theorem BQ:∀{k:Nat} {l:List AV},WB k l->jB k l l=true
 |0,_,h=>h.elim
 |k+1,l,h=>by
  unfold jB
  refine oD λa ha=>?_
  rw[tq,wm ((h.2 a ha).2.1.to (by omega)),BQ (h.2 a ha).2.2];rfl
theorem YZ{F:Nat}{x:List AV×List AV×Unit×Unit}(h:WB F x.1/\BB x.2.1):T (bg (λself (x:List AV×List AV×Unit×Unit)=>N7 self x.1 x.2.1 x.2.2.1) F x) (λy:Bool×Unit=>y=(jB F x.1 x.2.1,())):=by
 refine T.iter (λF (x:List AV×List AV×Unit×Unit)=>WB F x.1/\BB x.2.1) (λF x (y:Bool×Unit)=>y=(jB F x.1 x.2.1,())) (λF x h self hs=>?_) (λx h=>h.1.elim) F x h
 obtain⟨l,m,⟨⟩,⟨⟩⟩:=x
 obtain⟨⟨e1,e3⟩,hx⟩:=h
 have hA:=hx.out
 dsimp only at e1 e3 hA ⊢
 have hl:=av l
 unfold N7 jB
 generalize hp:(λa b=>sEq (ay a).1 (ay b).1&&(dJ 10000 (ay a).2.1 (ay b).2.1&&jB F (ay a).2.2.1 (ay b).2.2.1))=p
 have hk:∀a b,p a b=(sEq (ay a).1 (ay b).1&&(dJ 10000 (ay a).2.1 (ay b).2.1&&jB F (ay a).2.2.1 (ay b).2.2.1)):=λa b=>by rw[<- hp]
 rw[nO]
 by_cases hn:l.length=m.length
 case neg=>rw[decide_eq_false hn,lI hn];exact T.ret rfl
 rw[decide_eq_true hn]
 refine T.cf rfl (T.pass (l.length:Int) (λk=>p (atI l k AV.any) (atI m k AV.any)=true) (λk=>(m,(),l,aj l,k,())) (by omega) (λk h0 h1 _=>?_) (λhp=>?_))
 .dsimp only
  have ha:=e3 _ (at_mem AV.any h0 h1)
  have hb:=hA.2 _ (at_mem AV.any h0 (show k<(m.length:Int) by omega))
  have hk:=hk (atI l k AV.any) (atI m k AV.any)
  refine T.ct (by rw[aT];omega) (T.grd (cK.mpr ⟨by rw[aP,hl];omega,ha.1⟩) (T.grd (okg (λa ha=>(hA.2 a ha).1) h0 (by omega)) (T.aO (v:=(p (atI l k AV.any) (atI m k AV.any),())) ?_ (T.round (by rw[aF (by omega) (by omega)]) id (λq=>by rw[lH h0 h1 q])))))
  refine T.eq ?_
  unfold m60
  dsimp only
  rw[hk]
  cases sEq (ay (atI l k AV.any)).1 (ay (atI m k AV.any)).1
  .exact T.ret rfl
  refine T.ct rfl (T.aO (Pv (ay (atI l k AV.any)).2.1 (ay (atI m k AV.any)).2.1 ha.2.1 hb.2.1) ?_)
  cases dJ 10000 (ay (atI l k AV.any)).2.1 (ay (atI m k AV.any)).2.1
  .exact T.ret rfl
  exact T.ct rfl (T.call (hs ((ay (atI l k AV.any)).2.2.1,(ay (atI m k AV.any)).2.2.1,(),()) ⟨ha.2.2,hb.2.2⟩) (λy hy=>T.ret (by rw[hy];rfl)))
 .dsimp only
  exact T.cf (by rw[bL];omega) (T.out (by rw[iZ hn hp]))
theorem YX{F:Nat}{x:List AV×List AV×Unit}(h:WB F x.1/\BB x.2.1):T (bg (λself (x:List AV×List AV×Unit)=>MX self x.1 x.2.1) F x) (λy:Bool×Unit=>y=(jB F x.1 x.2.1,())):=by
 refine T.iter (λF (x:List AV×List AV×Unit)=>WB F x.1/\BB x.2.1) (λF x (y:Bool×Unit)=>y=(jB F x.1 x.2.1,())) (λF x h self hs=>?_) (λx h=>h.1.elim) F x h
 obtain⟨l,m,⟨⟩⟩:=x
 obtain⟨⟨e1,e3⟩,hx⟩:=h
 have hA:=hx.out
 dsimp only at e1 e3 hA ⊢
 have hl:=av l
 unfold MX jB
 generalize hp:(λa b=>sEq (ay a).1 (ay b).1&&(dJ 10000 (ay a).2.1 (ay b).2.1&&jB F (ay a).2.2.1 (ay b).2.2.1))=p
 have hk:∀a b,p a b=(sEq (ay a).1 (ay b).1&&(dJ 10000 (ay a).2.1 (ay b).2.1&&jB F (ay a).2.2.1 (ay b).2.2.1)):=λa b=>by rw[<- hp]
 rw[nO]
 by_cases hn:l.length=m.length
 case neg=>rw[decide_eq_false hn,lI hn];exact T.ret rfl
 rw[decide_eq_true hn]
 refine T.cf rfl (T.pass (l.length:Int) (λk=>p (atI l k AV.any) (atI m k AV.any)=true) (λk=>(l,m,k,())) (by omega) (λk h0 h1 _=>?_) (λhp=>?_))
 .dsimp only
  have ha:=e3 _ (at_mem AV.any h0 h1)
  have hb:=hA.2 _ (at_mem AV.any h0 (show k<(m.length:Int) by omega))
  have hk:=hk (atI l k AV.any) (atI m k AV.any)
  have g1:and (bnd k (aj l)) (eu (atI l k AV.any))=true:=cK.mpr ⟨by rw[aP,hl];omega,ha.1⟩
  have g2:and (bnd k (aj m)) (eu (atI m k AV.any))=true:=okg (λa ha=>(hA.2 a ha).1) h0 (by omega)
  have no:p (atI l k AV.any) (atI m k AV.any)=false->((false,()):Bool×Unit)=(iE AV.any p l m,()):=λq=>by rw[lH h0 h1 q]
  rw[g1,g2]
  refine T.ct (by rw[aT];omega) (T.grd rfl (T.grd rfl (T.grd rfl (T.grd rfl ?_))))
  cases q1:sEq (ay (atI l k AV.any)).1 (ay (atI m k AV.any)).1
  .exact T.ct rfl (T.grd rfl (T.grd rfl (T.out (no (by rw[hk,q1];rfl)))))
  rw[q1]at hk
  refine T.cf rfl (T.aO (Pt _ _ ha.2.1 hb.2.1) (T.grd rfl (T.grd rfl ?_)))
  cases q2:dJ 10000 (ay (atI l k AV.any)).2.1 (ay (atI m k AV.any)).2.1
  .exact T.ct rfl (T.out (no (by rw[hk,q2];rfl)))
  rw[q2]at hk
  refine T.cf rfl (T.call (hs ((ay (atI l k AV.any)).2.2.1,(ay (atI m k AV.any)).2.2.1,()) ⟨ha.2.2,hb.2.2⟩) (λy hy=>?_))
  rw[hy]
  exact T.round (by rw[aF (by omega) (by omega)]) (λq=>hk.trans q) (λq=>no (hk.trans q))
 .dsimp only
  exact T.cf (by rw[bL];omega) (T.out (by rw[iZ hn hp]))
theorem nn{a b:Int}:iNe a b=!iEq a b:=by rw[Bool.eq_iff_iff,jX,bP,jd]
def qO(c d:DS1):Bool:=((iEq c.1 d.1&&sEq c.2.1 d.2.1)&&iEq c.2.2.2.2.1 d.2.2.2.2.1)&&(dJ 10000 c.2.2.1 d.2.2.1&&jB 10000 c.2.2.2.1 d.2.2.2.1)
theorem Mf{c:DS1}(h:WC c):qO c c=true:=by
 unfold qO
 rw[oh,tq,oh,wm (h.1.to (by omega)),BQ (h.2.to (by omega))];rfl
theorem a2u(l m:List AV)(h:WB 10 l)(hm:BB m):m59 l m ()=some (jB 10000 l m,()):=T.eq (YZ (x:=(l,m,(),())) ⟨h.to (by omega),hm⟩)
theorem a2t(l m:List AV)(h:WB 10 l)(hm:BB m):m63 l m=some (jB 10000 l m,()):=T.eq (YX (x:=(l,m,())) ⟨h.to (by omega),hm⟩)
theorem Vo(c d:DS1)(h:WC c)(hd:XCl d):m32 c d=some (qO c d,()):=by
 obtain⟨k1,n1,e1,b1,a1,⟨⟩⟩:=c
 obtain⟨k2,n2,e2,b2,a2,⟨⟩⟩:=d
 obtain⟨h1,h2⟩:=h
 obtain⟨d1,d2⟩:=hd
 dsimp only at h1 h2 d1 d2
 refine T.eq ?_
 unfold m32 qO
 dsimp only
 cases iEq k1 k2<;>cases sEq n1 n2<;>cases iEq a1 a2<;>first|exact T.ret rfl|skip
 refine T.ct rfl (T.aO (Pv e1 e2 h1 d1) ?_)
 cases dJ 10000 e1 e2
 .exact T.ret rfl
 exact T.ct rfl (T.aO (a2u b1 b2 h2 d2) (T.ret rfl))
def jy(l m:List DS1):Bool:=iE zS1 qO l m
theorem FJ(l m:List DS1)(hb:l.length<=1000)(h:∀c∈l,WC c)(hm:∀c∈m,XCl c):m31 l m ()=some (jy l m,()):=by
 refine T.eq ?_
 unfold m31 jy
 have hl:=av l
 rw[nO]
 by_cases hn:l.length=m.length
 case neg=>rw[decide_eq_false hn,lI hn];exact T.ret rfl
 rw[decide_eq_true hn]
 refine T.cf rfl (T.pass (l.length:Int) (λk=>qO (atI l k zS1) (atI m k zS1)=true) (λk=>(m,(),l,aj l,k,())) (by omega) (λk h0 h1 _=>?_) (λhp=>?_))
 .dsimp only
  refine T.ct (by rw[aT];omega) (T.grd (by rw[aP];omega) (T.grd (by rw[aP,av];omega) (T.aO (Vo (atI l k zS1) (atI m k zS1) (h _ (at_mem zS1 h0 h1)) (hm _ (at_mem zS1 h0 (by omega)))) (T.round ?_ id (λq=>?_)))))
  .rw[aF (by omega) (by omega)]
  .rw[lH h0 h1 q]
 .dsimp only
  exact T.cf (by rw[bL];omega) (T.out (by rw[iZ hn hp]))
theorem FI(l m:List DS1)(hb:l.length<=1000)(h:∀c∈l,WC c)(hm:∀c∈m,XCl c):m35 l m=some (jy l m,()):=by
 refine T.eq ?_
 unfold m35 jy
 have hl:=av l
 rw[nO]
 by_cases hn:l.length=m.length
 case neg=>rw[decide_eq_false hn,lI hn];exact T.ret rfl
 rw[decide_eq_true hn]
 refine T.cf rfl (T.pass (l.length:Int) (λk=>qO (atI l k zS1) (atI m k zS1)=true) (λk=>(l,m,k,())) (by omega) (λk h0 h1 _=>?_) (λhp=>?_))
 .dsimp only
  have hc:=h _ (at_mem zS1 h0 h1)
  have hd:=hm _ (at_mem zS1 h0 (show k<(m.length:Int) by omega))
  have g1:bnd k (aj l)=true:=by rw[aP];omega
  have g2:bnd k (aj m)=true:=by rw[aP,av];omega
  have no:qO (atI l k zS1) (atI m k zS1)=false->((false,()):Bool×Unit)=(iE zS1 qO l m,()):=λq=>by rw[lH h0 h1 q]
  have hs:qO (atI l k zS1) (atI m k zS1)=(((iEq (atI l k zS1).1 (atI m k zS1).1&&sEq (atI l k zS1).2.1 (atI m k zS1).2.1)&&iEq (atI l k zS1).2.2.2.2.1 (atI m k zS1).2.2.2.2.1)&&(dJ 10000 (atI l k zS1).2.2.1 (atI m k zS1).2.2.1&&jB 10000 (atI l k zS1).2.2.2.1 (atI m k zS1).2.2.2.1)):=rfl
  generalize atI l k zS1=c at hc hs no ⊢
  generalize atI m k zS1=d at hd hs no ⊢
  obtain⟨k1,n1,e1,b1,a1,⟨⟩⟩:=c
  obtain⟨k2,n2,e2,b2,a2,⟨⟩⟩:=d
  dsimp only at hs ⊢
  rw[g1,g2,nn,nn]
  refine T.ct (by rw[aT];omega) (T.grd rfl (T.grd rfl (T.grd rfl (T.grd rfl (T.grd rfl (T.grd rfl (T.grd rfl (T.grd rfl ?_))))))))
  cases q:(iEq k1 k2&&sEq n1 n2)&&iEq a1 a2
  .have e:cond (cond (!iEq k1 k2) true (!sEq n1 n2)) true (!iEq a1 a2)=true:=by revert q;cases iEq k1 k2<;>cases sEq n1 n2<;>cases iEq a1 a2<;>simp
   rw[q]at hs
   exact T.ct e (T.grd rfl (T.grd rfl (T.out (no hs))))
  have e:cond (cond (!iEq k1 k2) true (!sEq n1 n2)) true (!iEq a1 a2)=false:=by revert q;cases iEq k1 k2<;>cases sEq n1 n2<;>cases iEq a1 a2<;>simp
  rw[q]at hs
  refine T.cf e (T.aO (Pt e1 e2 hc.1 hd.1) (T.grd rfl (T.grd rfl ?_)))
  cases q2:dJ 10000 e1 e2
  .rw[q2]at hs;exact T.ct rfl (T.out (no hs))
  rw[q2]at hs
  refine T.cf rfl (T.aO (a2t b1 b2 hc.2 hd.2) (T.round (by rw[aF (by omega) (by omega)]) (λq=>hs.trans q) (λq=>no (hs.trans q))))
 .dsimp only
  exact T.cf (by rw[bL];omega) (T.out (by rw[iZ hn hp]))
def oJ(x y:DS3):Bool:=and (iEq x.1.1 y.1.1) (and (iEq x.1.2.1 y.1.2.1) true)&&(iE ByteArray.empty sEq x.2.1 y.2.1&&jy x.2.2.1 y.2.2.1)
theorem BP{l:List DS1}(h:∀c∈l,WC c):jy l l=true:=oD λc hc=>Mf (h c hc)
theorem Me{x:DS3}(h:EW x):oJ x x=true:=by
 unfold oJ
 rw[oh,oh,oD λx _=>tq x,BP h.2.2];rfl
theorem a4M(x y:DS3)(h:EW x)(hy:XEn y):m34 x y=some (oJ x y,()):=by
 obtain⟨⟨f1,t1,⟨⟩⟩,r1,c1,⟨⟩⟩:=x
 obtain⟨⟨f2,t2,⟨⟩⟩,r2,c2,⟨⟩⟩:=y
 obtain⟨h1,h2,h3⟩:=h
 obtain⟨y1,y2⟩:=hy
 dsimp only at h1 h2 h3 y1 y2
 refine T.eq ?_
 unfold m34 oJ
 dsimp only
 cases and (iEq f1 f2) (and (iEq t1 t2) true)
 .exact T.ret rfl
 refine T.ct rfl (T.aO (Lf r1 r2 (by omega)) ?_)
 cases iE ByteArray.empty sEq r1 r2
 .exact T.ret rfl
 exact T.ct rfl (T.aO (FJ c1 c2 (by omega) h3 y2) (T.ret rfl))
def vB(a b:DS4):Bool:=jy a.1 b.1&&iE zS3 oJ a.2.1 b.2.1
theorem K5{a:DS4}(h:WW a):vB a a=true:=by
 unfold vB
 rw[BP h.1.2,oD λx hx=>Me (h.2.2 x hx)];rfl
theorem Pp(a b:DS4)(h:WW a)(hb:XW b):m17 a b=some (vB a b,()):=by
 obtain⟨c1,l,⟨⟩⟩:=a
 obtain⟨c2,m,⟨⟩⟩:=b
 obtain⟨h1,h2,h3⟩:=h
 obtain⟨b1,b2⟩:=hb
 dsimp only at h1 h2 h3 b1 b2
 refine T.eq ?_
 unfold m17 vB
 refine T.aO (FJ c1 c2 (by have:=h1.1;omega) h1.2 b1) ?_
 dsimp only
 cases jy c1 c2
 .exact T.ret rfl
 refine T.ct rfl (T.aO (v:=(iE zS3 oJ l m,())) (T.eq ?_) (T.ret rfl))
 unfold m33
 have hl:=av l
 rw[nO]
 by_cases hn:l.length=m.length
 case neg=>rw[decide_eq_false hn,lI hn];exact T.ret rfl
 rw[decide_eq_true hn]
 refine T.cf rfl (T.pass (l.length:Int) (λk=>oJ (atI l k zS3) (atI m k zS3)=true) (λk=>(m,(),l,aj l,k,())) (by omega) (λk k0 k1 _=>?_) (λhp=>?_))
 .dsimp only
  refine T.ct (by rw[aT];omega) (T.grd (by rw[aP];omega) (T.grd (by rw[aP,av];omega) (T.aO (a4M (atI l k zS3) (atI m k zS3) (h3 _ (at_mem zS3 k0 k1)) (b2 _ (at_mem zS3 k0 (by omega)))) (T.round ?_ id (λq=>?_)))))
  .rw[aF (by omega) (by omega)]
  .rw[lH k0 k1 q]
 .dsimp only
  exact T.cf (by rw[bL];omega) (T.out (by rw[iZ hn hp]))
theorem Xu(a b:DS4)(h:WW a)(hb:XW b):m18 a b=some (vB a b,()):=by
 obtain⟨c1,l,⟨⟩⟩:=a
 obtain⟨c2,m,⟨⟩⟩:=b
 obtain⟨h1,h2,h3⟩:=h
 obtain⟨b1,b2⟩:=hb
 dsimp only at h1 h2 h3 b1 b2
 refine T.eq ?_
 unfold m18 vB
 refine T.aO (FI c1 c2 (by have:=h1.1;omega) h1.2 b1) ?_
 dsimp only
 have hl:=av l
 cases jy c1 c2
 .exact T.ret rfl
 rw[nO]
 by_cases hn:l.length=m.length
 case neg=>rw[decide_eq_false hn,lI hn];exact T.ret rfl
 rw[decide_eq_true hn]
 refine T.cf rfl (T.pass (l.length:Int) (λk=>oJ (atI l k zS3) (atI m k zS3)=true) (λk=>(k,c1,l,c2,m,())) (by omega) (λk k0 k1 _=>?_) (λhp=>?_))
 .dsimp only
  have hx:=h3 _ (at_mem zS3 k0 k1)
  have hy:=b2 _ (at_mem zS3 k0 (show k<(m.length:Int) by omega))
  have no:oJ (atI l k zS3) (atI m k zS3)=false->((false,()):Bool×Unit)=(true&&iE zS3 oJ l m,()):=λq=>by rw[lH k0 k1 q];rfl
  have hs:oJ (atI l k zS3) (atI m k zS3)=(and (iEq (atI l k zS3).1.1 (atI m k zS3).1.1) (and (iEq (atI l k zS3).1.2.1 (atI m k zS3).1.2.1) true)&&(iE ByteArray.empty sEq (atI l k zS3).2.1 (atI m k zS3).2.1&&jy (atI l k zS3).2.2.1 (atI m k zS3).2.2.1)):=rfl
  refine T.ct (by rw[aT];omega) (T.grd (by rw[aP];omega) (T.grd (by rw[aP,av];omega) ?_))
  generalize atI l k zS3=x at hx hs no ⊢
  generalize atI m k zS3=y at hy hs no ⊢
  obtain⟨⟨f1,t1,⟨⟩⟩,r1,x1,⟨⟩⟩:=x
  obtain⟨⟨f2,t2,⟨⟩⟩,r2,x2,⟨⟩⟩:=y
  obtain⟨e1,e2,e3⟩:=hx
  obtain⟨y1,y2⟩:=hy
  dsimp only at e1 e2 e3 y1 y2 hs ⊢
  cases q1:and (iEq f1 f2) (and (iEq t1 t2) true)
  .rw[q1]at hs;exact T.ct rfl (T.out (no hs))
  rw[q1]at hs
  refine T.cf rfl (T.aO (Ld r1 r2 (by omega)) ?_)
  cases q2:iE ByteArray.empty sEq r1 r2
  .rw[q2]at hs;exact T.ct rfl (T.out (no hs))
  rw[q2]at hs
  refine T.cf rfl (T.aO (FI x1 x2 (by omega) e3 y2) (T.round (by rw[aF (by omega) (by omega)]) (λq=>hs.trans q) (λq=>no (hs.trans q))))
 .dsimp only
  exact T.cf (by rw[bL];omega) (T.out (by rw[iZ hn hp];rfl))
theorem mx(n:Nat)(h:n<=maxLen):n<=9223372036854775807:=h
theorem a4Z:∀(n:Nat) (xs:List AV),ZN n 34 6 (.list 6 xs)->xs.length<=9223372036854775807/\∀a∈xs,jK a=true/\XE n (aL a):=by
 intro n
 induction n using Nat.strongRecOn with
 |ind n ih =>
  intro xs h
  obtain⟨T,hT,_,ys,rfl,hl,hy⟩:=OE h
  obtain rfl:tyE=T:=Option.some.inj hT
  refine⟨hl,λa ha=>?_⟩
  obtain⟨y,hm,rfl⟩:=List.mem_map.1 ha
  obtain⟨m,hmn,hz⟩:=hy y hm
  obtain⟨_,_,hw,_,_,hr,_⟩:=hz
  obtain⟨r1,r2⟩:=ih m hmn _ hr
  refine⟨ok0 y,?_⟩
  have e:XE (m+1) y:=⟨hw.1,r1,r2⟩
  have e:=e.up (n-(m+1))
  rw[show m+1+(n-(m+1))=n by omega]at e
  exact Eq.mpr (congrArg (XE n) (JE y)) e
theorem WU{Z:Nat->Nat->AV->Prop}(hZ:∀ty sz a,Z ty sz a->∃n,ZN n ty sz a)(e:DS0)(h:OkZ Z tS0 e):XX e:=by
 obtain⟨_,_,hw,_,_,hr,_⟩:=h
 obtain⟨n,hn⟩:=hZ _ _ _ hr
 obtain⟨r1,r2⟩:=a4Z n _ hn
 exact⟨n+1,hw.1,r1,r2⟩
theorem a5a:∀(n:Nat) (xs:List AV),ZN n 63 8 (.list 8 xs)->xs.length<=9223372036854775807/\∀a∈xs,eu a=true/\XX (ay a).2.1/\XB n (ay a).2.2.1:=by
 intro n
 induction n using Nat.strongRecOn with
 |ind n ih =>
  intro xs h
  obtain⟨T,hT,_,ys,rfl,hl,hy⟩:=OE h
  obtain rfl:tyW=T:=Option.some.inj hT
  refine⟨hl,λa ha=>?_⟩
  obtain⟨y,hm,rfl⟩:=List.mem_map.1 ha
  obtain⟨m,hmn,hz⟩:=hy y hm
  obtain⟨_,he,hr,_⟩:=hz
  obtain⟨r1,r2⟩:=ih m hmn _ hr
  refine⟨ok7 y,?_⟩
  have e:XB (m+1) y.2.2.1:=⟨r1,r2⟩
  have e:=e.up (n-(m+1))
  rw[show m+1+(n-(m+1))=n by omega]at e
  exact Eq.mpr (congrArg (λz:DS7=>XX z.2.1/\XB n z.2.2.1) (Vl y)) ⟨WU (λ_ _ _ q=>⟨m,q⟩) y.2.1 he,e⟩
theorem Ox(c:DS1)(h:OkT tS1 c):XCl c:=by
 obtain⟨_,_,he,hr,_,_⟩:=h
 obtain⟨n,hn⟩:=hr
 exact⟨WU (λ_ _ _ q=>q) c.2.2.1 he,n+1,a5a n _ hn⟩
theorem a4Y(w:DS4)(h:OkT tS4 w):XW w:=by
 obtain⟨h1,h2,_⟩:=h
 refine⟨λc hc=>Ox c (h1.2 c hc),λx hx=>?_⟩
 obtain⟨_,h3,h4,_⟩:=h2.2 x hx
 exact⟨h3.1,λc hc=>Ox c (h4.2 c hc)⟩
theorem a1A(L:List Int)(h:L.length<=9223372036854775807):T (m10 L) (λy=>WW y.1/\1<=List.length (α:=DS1) y.1.1/\pV y.1=true):=by
 unfold m10
 have hd:aK L 0:=⟨h,Int.le_refl _⟩
 refine T.aO (show m14 L=some _ from rfl) (T.call (bQ hd (by omega) (by omega)) (λu ⟨u0,_,_⟩=>T.call (a1J _) (λs hs=>T.call (K4 _ _ hs u0) (λy ⟨⟨h1,h2,h3⟩,h4,h5⟩=>T.ret ⟨⟨⟨by have:=h1.1;dsimp only;omega,h1.2⟩,by dsimp only;omega,λx hx=>(h5 x hx).1⟩,h2,?_⟩))))
 unfold pV iY
 dsimp only
 rw[decide_eq_true (by omega),decide_eq_true (by have:=h1.1;omega),List.all_eq_true.2 h3.all,List.all_eq_true.2 λx hx=>(h5 x hx).2];rfl
theorem XX.leaf{a:Int}{b:ByteArray}:XX (a,b,([]:List ByteArray),0,0,([]:List AV),()):=⟨1,(WE.leaf (by simp)).x.1⟩
theorem BB.add{l:List AV}(h:WB 10 l){x:DS7}(hx:XX x.2.1)(hu:x.2.2.1=[]):BB (zG (([]++qZ l)++[x])):=by
 have hl:=(h.x:XB 10 l).up 0
 refine⟨10,?_,λa ha=>?_⟩
 .have hz:(qZ l).length=l.length:=List.length_map _
  have hq:List.length (α:=DS7) (([]++qZ l)++[x])=l.length+1:=by rw[List.nil_append,List.length_append,hz];rfl
  have:List.length (zG (([]++qZ l)++[x]))=l.length+1:=(List.length_map _).trans hq
  have:=h.1;omega
 .obtain⟨y,hy,rfl⟩:=List.mem_map.1 ha
  refine⟨ok7 y,Eq.mpr (congrArg (λz:DS7=>XX z.2.1/\XB 9 z.2.2.1) (Vl y)) ?_⟩
  rcases List.mem_append.1 hy with q|q
  .rw[List.nil_append]at q
   obtain⟨b,hb,rfl⟩:=List.mem_map.1 q
   exact⟨⟨10,(h.2 b hb).2.1.x.1⟩,(h.2 b hb).2.2.x⟩
  .rw[List.mem_singleton.1 q]
   exact⟨hx,by rw[hu];exact⟨by simp,λa ha=>absurd ha List.not_mem_nil⟩⟩
theorem a3Z{l:List AV}(h:∀a∈l,eu a=true):Wm l=true:=List.all_eq_true.2 h
theorem VG{l:List DS1}{c:DS1}{k:Nat}(h:∀c∈l,XCl c)(hc:XCl c):∀d∈l.set k c,XCl d:=λd hd=>by
 rcases List.mem_or_eq_of_mem_set hd with q|q
 .exact h d q
 .rw[q];exact hc
theorem Bh(b:Bool):bEq b b=true:=by cases b<;>rfl
theorem SA(a:DS4)(c:DS1)(L:List Int)(h:WW a)(h1:1<=List.length (α:=DS1) a.1)(hc:XCl c)(hd:aK L 0):T (m13 a c L 0) (λy=>XW y.1):=by
 obtain⟨l,en,⟨⟩⟩:=a
 obtain⟨⟨w1,w2⟩,w3,w4⟩:=h
 dsimp only at h1 w1 w2 w3 w4
 have hx:XW (l,en,()):=WW.x ⟨⟨w1,w2⟩,w3,w4⟩
 unfold m13
 dsimp only
 rw[List.nil_append]
 have hl:=av l
 refine T.grd (by rw[fM];simp;omega) (T.call (bQ hd (by omega) (by omega)) (λu ⟨u0,u1,u2⟩=>?_))
 have g1:bnd u.1 (aj l)=true:=by rw[aP];omega
 have g2:inB (Int.toNat u.1) l=true:=by rw[nk];omega
 have hw:=w2 _ (AU (n:=u.1.toNat) zS1 (by omega))
 generalize List.getD l u.1.toNat zS1=x at hw ⊢
 obtain⟨x1,x2,x3,x4,x5,⟨⟩⟩:=x
 obtain⟨x6,x7⟩:=hw
 dsimp only at x6 x7 ⊢
 have hX:XX x3:=⟨10,x6.x.1⟩
 have hB:BB x4:=⟨10,x7.x⟩
 have fin:∀{d:DS1} {z1:List Int} {z2:Int},XCl d->T (cond (bnd u.1 (aj l)) (cond (inB (Int.toNat u.1) l) (some ((List.set l (Int.toNat u.1) d,en,()),z1,z2,())) none) none) (λy:DS4×List Int×Int×Unit=>XW y.1):=λq=>T.grd g1 (T.grd g2 (T.ret ⟨VG hx.1 q,hx.2⟩))
 refine T.grd g1 (T.grd g2 (T.call (bQ u0 (by omega) (by omega)) (λv ⟨v0,v1,v2⟩=>?_)))
 refine T.cnd (λ_=>fin hc) (λ_=>?_)
 refine T.cnd (λ_=>T.call (bQ v0 (by omega) (by omega)) (λ_ _=>fin ⟨hX,hB⟩)) (λ_=>?_)
 refine T.cnd (λ_=>T.call (bQ v0 (by omega) (by omega)) (λw ⟨_,w1,w2⟩=>T.grd (by rw[aP];exact⟨w1,w2⟩) (T.grd (by rw[nk];simp;omega) (fin ⟨hX,hB⟩)))) (λ_=>?_)
 refine T.cnd (λ_=>T.call (bQ v0 (by omega) (by omega)) (λw ⟨_,w1,w2⟩=>T.grd (by rw[aP];exact⟨w1,w2⟩) (T.grd (by rw[nk];simp;omega) (fin ⟨hX,hB⟩)))) (λ_=>?_)
 refine T.cnd (λ_=>?_) (λ_=>?_)
 .have hz:(qZ x4).length=x4.length:=List.length_map _
  have:=x7.1
  refine T.grd (cK.mpr ⟨a3Z λa ha=>(x7.2 a ha).1,by rw[fM,hz];simp;omega⟩) (T.call (bQ v0 (by omega) (by omega)) (λw _=>T.grd (by rw[fM];simp[hz];omega) (fin ⟨hX,BB.add x7 XX.leaf rfl⟩)))
 refine T.cnd (λ_=>fin ⟨⟨11,(WE.mk (by simp) (by simp) (λq hq=>by rw[List.mem_singleton.1 hq];exact x6)).x.1⟩,hB⟩) (λ_=>?_)
 refine T.join (λj=>u.1=j.1/\aK j.2.2.1 j.2.2.2.1/\en=j.2.2.2.2.2.1/\l=j.2.2.2.2.2.2.1/\XCl (j.2.2.2.2.2.2.2.1,j.2.2.2.2.2.2.2.2.1,(j.2.2.2.2.2.2.2.2.2.1,j.2.2.2.2.2.2.2.2.2.2.1,j.2.2.2.2.2.2.2.2.2.2.2.1,j.2.2.2.2.2.2.2.2.2.2.2.2.1,j.2.2.2.2.2.2.2.2.2.2.2.2.2.1,j.2.2.2.2.2.2.2.2.2.2.2.2.2.2.1,()),j.2.2.2.2.2.2.2.2.2.2.2.2.2.2.2.1,j.2.2.2.2.2.2.2.2.2.2.2.2.2.2.2.2.1,())) (T.cnd (λ_=>T.jgo ⟨rfl,v0,rfl,rfl,hX,hB⟩) (λ_=>T.jgo ⟨rfl,v0,rfl,rfl,hX,hB⟩)) (λj hj=>?_)
 obtain⟨_,j2,L,a,j5,_,_,j8,j9,j10,j11,j12,j13,j14,j15,j16,j17,⟨⟩⟩:=j
 obtain⟨rfl,d,rfl,rfl,hq⟩:=hj
 dsimp only at d hq ⊢
 refine T.cnd (λ_=>?_) (λ_=>fin hq)
 rw[List.nil_append]
 refine T.grd (by rw[fM];simp;omega) (T.call (bQ d (by omega) (by omega)) (λr ⟨r0,_,_⟩=>T.call (bQ r0 (by omega) (by omega)) (λs ⟨s0,_,_⟩=>T.call (bQ s0 (by omega) (by omega)) (λt ⟨_,t1,t2⟩=>?_))))
 refine T.grd (by rw[aP];exact⟨t1,t2⟩) (T.grd (by rw[nk];simp;omega) (T.grd (by rw[fM];simp;omega) (T.grd g1 (T.grd g2 (T.ret ⟨VG hx.1 hq,fq hx.2 ⟨by simp,λc hc=>absurd hc List.not_mem_nil⟩⟩)))))
theorem Qw(w:DS4)(c:DS1)(L M:List Int)(hw:XW w)(hc:XCl c)(h1:L.length<=9223372036854775807)(h2:M.length<=9223372036854775807):m4 w c L M=some (true,()):=by
 refine T.eq ?_
 unfold m4
 have aw:∀{Q:Bool×Unit->Prop},Q (true,())->T (m7.bind λy=>some (y.1,())) Q:=λq=>T.aO (show m7=some (true,()) from rfl) (T.ret q)
 refine T.aO (show m12 w=some _ from rfl) (T.cnd (λ_=>aw rfl) (λ_=>?_))
 refine T.call (a1A L h1) (λa ⟨a1,a2,a3⟩=>T.aO (show m14 M=some (M,0,()) from rfl) (T.call (SA a.1 c M a1 a2 hc ⟨h2,Int.le_refl _⟩) (λb hb=>?_)))
 refine T.aO (xu a.1 a1.x) (T.ct a3 (T.aO (xu w hw) (T.aO (xq w hw) (T.ct (Bh _) ?_))))
 refine T.aO (xu b.1 hb) (T.aO (xq b.1 hb) (T.ct (Bh _) (T.aO (Pp a.1 a.1 a1 a1.x) (T.ct (K5 a1) ?_))))
 exact T.aO (Pp a.1 b.1 a1 hb) (T.aO (Xu a.1 b.1 a1 hb) (T.ct (Bh _) (aw rfl)))
section
open Go.RowKit
def Cj:Nat->List (Nat×List Value)->Option (List Value)
 |_,[]=>some []
 | o,(p,vs) :: r=>if p=o then match Cj (o + vs.length) r with
   |some ws=>some (vs++ws)
   |none=>none
  else none
theorem wD(cs:List Value):∀(l:List (Nat×List Value)) (o:Nat) (vs:List Value),Cj o l=some vs->(∀q∈l,(cs.drop q.1).take q.2.length=q.2)->(cs.drop o).take vs.length=vs
 |[],o,vs,h,_=>by cases h;simp
 |(p,ws)::r,o,vs,h,hq=>by
  simp only[Cj]at h
  split at h
  .rename_i hp
   subst hp
   split at h
   .rename_i us hu
    cases h
    have h1:=hq (p,ws) (by simp)
    have h2:=wD cs r (p+ws.length) us hu λq hq'=>hq q (List.mem_cons_of_mem _ hq')
    simp only at h1
    rw[List.length_append,List.take_add,h1,List.drop_drop,h2]
   .cases h
  .cases h
def cellsD(P:Program):Nat->TypeId->DataW Unit->Option (List Value)
 |0,_,_=>none
 |n+1,t,D=>match P.underlying t with
  |some .bool=>match D with
   |.lit (.bool b)=>some [.bool b]
   |_=>none
  |some (.int k)=>match D with
   |.lit (.int k' z)=>if k'=k then some [.int k z] else none
   |_=>none
  |some .string=>match D with
   |.lit (.string bs)=>some [.string ⟨⟨bs⟩⟩]
   |_=>none
  |some (.struct fs)=>match D with
   | .agg ds=>if fs.toList.length=ds.length then match (fs.toList.zip ds).mapM (fun q=>match cellsD P n q.1.type q.2 with | some vs=>if vs.length=P.cellsOf q.1.type then some (q.1.offset,vs) else none | none=>none) with
     |some l=>match Cj 0 l with
      |some vs=>if vs.length=P.cellsOf t then some vs else none
      |none=>none
     |none=>none
    else none
   |_=>none
  |some (.array m e)=>match D with
   | .agg ds=>if m=ds.length then match ((List.range m).zip ds).mapM (fun q=>match cellsD P n e q.2 with | some vs=>if vs.length=P.cellsOf e then some (q.1 * P.cellsOf e,vs) else none | none=>none) with
     |some l=>match Cj 0 l with
      |some vs=>if vs.length=P.cellsOf t then some vs else none
      |none=>none
     |none=>none
    else none
   |_=>none
  |_=>none
theorem mapM_mem{α β:Type}{f:α->Option β}:∀{l:List α} {r:List β},l.mapM f=some r->∀b∈r,∃(i:Nat) (a:α),l[i]?=some a/\f a=some b
 |[],r,h,b,hb=>by simp at h;subst h;simp at hb
 |x::l,r,h,b,hb=>by
  simp only[List.mapM_cons,Option.bind_eq_bind,Option.bind_eq_some_iff,Option.pure_def,Option.some.injEq]at h
  obtain⟨c,hc,r',hr',rfl⟩:=h
  rcases List.mem_cons.1 hb with rfl|hb
  .exact⟨0,x,rfl,hc⟩
  .obtain⟨i,a,h1,h2⟩:=mapM_mem hr' b hb
   exact⟨i+1,a,by simpa using h1,h2⟩
theorem FL {P:Program} {w:World} {base:Nat} {sp:Nat->Bool} {held:Bool} {enc:TypeId × Value->Unit}:∀ (n:Nat) (t:TypeId) (D:DataW Unit) (vs:List Value) (fuel:Nat) (cs:List Value) (p:List MemPlace),
  cellsD P n t D=some vs->DataW.trod enc P w base sp held fuel t cs=some (D,p)->cs=vs
 |0,t,D,vs,fuel,cs,p,h,_=>by cases h
 |n+1,t,D,vs,0,cs,p,h,ht=>by cases ht
 |n+1,t,D,vs,fuel+1,cs,p,h,ht=>by
  have ih:=FL (P:=P) (w:=w) (base:=base) (sp:=sp) (held:=held) (enc:=enc) n
  simp only[cellsD]at h
  split at h
  .rename_i hu
   split at h
   .rename_i b
    cases h
    simp only[DataW.trod,hu]at ht
    split at ht<;>first
     |(simp only[Option.some.injEq,Prod.mk.injEq,DataW.lit.injEq,Lit.bool.injEq]at ht;obtain⟨rfl,_⟩:=ht;rfl)
     |simp_all
   .cases h
  .rename_i k hu
   split at h
   .rename_i k' z
    split at h
    .rename_i hk
     subst hk
     cases h
     obtain⟨z',hc,he,_⟩:=DataW.trod_int hu ht
     have e:=(Prod.mk.inj he).1
     simp only[DataW.lit.injEq,Lit.int.injEq,true_and]at e
     rw[hc,e]
    .cases h
   .cases h
  .rename_i hu
   split at h
   .rename_i bs
    cases h
    simp only[DataW.trod,hu]at ht
    split at ht<;>first
     | (split at ht <;> first
       |(simp only[Option.some.injEq,Prod.mk.injEq,DataW.lit.injEq,Lit.string.injEq]at ht;obtain⟨rfl,_⟩:=ht;rfl)
       |cases ht)
     |simp_all
   .cases h
  .rename_i fs hu
   split at h
   .rename_i ds
    split at h
    .rename_i hlen
     split at h
     .rename_i l hl
      split at h
      .rename_i us hus
       split at h
       .rename_i hsz
        cases h
        simp only[DataW.trod,hu]at ht
        split at ht
        .rename_i hcl
         obtain⟨xs,hm,hx⟩:=Option.map_eq_some_iff.1 ht
         simp only[Prod.mk.injEq,DataW.agg.injEq]at hx
         have hxs:=hx.1
         have:=wD cs l 0 vs hus λq hq=>by
          obtain⟨i,a,h1,h2⟩:=mapM_mem hl q hq
          obtain⟨f,d⟩:=a
          obtain⟨g1,g2⟩:=List.getElem?_zip_eq_some.1 h1
          simp only at h2
          split at h2
          .rename_i ws hws
           split at h2
           .rename_i hwl
            cases h2
            obtain⟨b,hb,hf⟩:=Lib.mapM_at hm i f g1
            have hbd:b.1=d:=by
             have:(xs.map (·.1))[i]?=some b.1:=by simp[hb]
             rw[hxs,g2]at this
             exact(Option.some.inj this).symm
            obtain⟨b1,b2⟩:=b
            simp only at hbd
            subst hbd
            have:=ih f.type b1 ws fuel _ _ hws hf
            simp only
            rw[hwl];exact this
           .cases h2
          .cases h2
         rw[List.drop_zero,List.take_of_length_le (by omega)]at this
         exact this
        .cases ht
       .cases h
      .cases h
     .cases h
    .cases h
   .cases h
  .rename_i m e hu
   split at h
   .rename_i ds
    split at h
    .rename_i hlen
     split at h
     .rename_i l hl
      split at h
      .rename_i us hus
       split at h
       .rename_i hsz
        cases h
        simp only[DataW.trod,hu]at ht
        split at ht
        .rename_i hcl
         obtain⟨xs,hm,hx⟩:=Option.map_eq_some_iff.1 ht
         simp only[Prod.mk.injEq,DataW.agg.injEq]at hx
         have hxs:=hx.1
         have:=wD cs l 0 vs hus λq hq=>by
          obtain⟨i,a,h1,h2⟩:=mapM_mem hl q hq
          obtain⟨f,d⟩:=a
          obtain⟨g1,g2⟩:=List.getElem?_zip_eq_some.1 h1
          simp only at h2
          split at h2
          .rename_i ws hws
           split at h2
           .rename_i hwl
            cases h2
            obtain⟨b,hb,hf⟩:=Lib.mapM_at hm i f g1
            have hbd:b.1=d:=by
             have:(xs.map (·.1))[i]?=some b.1:=by simp[hb]
             rw[hxs,g2]at this
             exact(Option.some.inj this).symm
            obtain⟨b1,b2⟩:=b
            simp only at hbd
            subst hbd
            have:=ih e b1 ws fuel _ _ hws hf
            simp only
            rw[hwl];exact this
           .cases h2
          .cases h2
         rw[List.drop_zero,List.take_of_length_le (by omega)]at this
         exact this
        .cases ht
       .cases h
      .cases h
     .cases h
    .cases h
   .cases h
  .cases h
theorem zQ{P:Program}{W:World}{name:String}{D:DataW Unit}{rest:List (String×DataW Unit)}{g n:Nat}{t:TypeId}{vs:List Value}(hg:P.globalNamed name=some g)(hty:(P.globals[g]?).map (·.type)=some t)(hc:cellsD P n t D=some vs)(h:laidMet P ((name,D)::rest) W):W.var? P name=some vs.toArray:=by
 obtain⟨ps,⟨g',t',cs,fuel,p,q,hg',ht',hvar,hd,_,_⟩,_⟩:=h
 obtain rfl:=Option.some.inj (hg.symm.trans hg')
 obtain rfl:=Option.some.inj (hty.symm.trans ht')
 rw[hvar,<- FL n t D vs fuel cs.toList p hc hd]
theorem zR{P:Program}{W:World}{name:String}{g:Nat}{vs:List Value}(hg:P.globalNamed name=some g)(hv:W.var? P name=some vs.toArray)(h1:vs.all (·.oneCell')=true):RP (snap W) (.pointer (some ⟨g,0,none⟩)) (.bO (vs.map .v)):=by
 have cell:∀i (x:Value),vs[i]?=some x->snap W ⟨g,i,none⟩=some x:=λi x hx=>by
  have:=World.var?_cell hg hv i
  show W.cell? ⟨g,i,none⟩=some x
  rw[this];simpa using hx
 refine RP.bO _ _ (λj=>vs.getD j undef) (λj a hj=>?_) (λj a hj=>?_)
 .rw[List.getElem?_map]at hj
  rcases q:vs[j]? with _|z
  .rw[q]at hj;cases hj
  .have e:vs.getD j undef=z:=by rw[List.getD_eq_getElem?_getD,q];rfl
   refine⟨?_,?_⟩
   .have:(Addr.add ⟨g,0,none⟩ j:Addr)=⟨g,j,none⟩:=by simp[Addr.add];intro h;exact h.symm
    rw[this,e];exact cell j z q
   .rw[e];exact List.all_eq_true.1 h1 z (List.mem_of_getElem? q)
 .rw[List.getElem?_map]at hj
  rcases q:vs[j]? with _|z
  .rw[q]at hj;cases hj
  .rw[q]at hj
   simp only[Option.map_some,Option.some.injEq]at hj
   subst hj
   have e:vs.getD j undef=z:=by rw[List.getD_eq_getElem?_getD,q];rfl
   rw[e];exact .v _
theorem CO{P:Program}{W:World}{name:String}{g:Nat}{vs:List Value}(hg:P.globalNamed name=some g)(hv:W.var? P name=some vs.toArray)(h0:0<vs.length):g<W.heap.size/\∃us ty fr,W.heap[g]?=some (.cells us ty fr)/\us.size=vs.length:=by
 have c:=World.var?_cell hg hv 0
 have hlt:g<W.heap.size:=by
  have:vs.toArray[0]?=some vs[0]:=by simp[h0]
  rw[this]at c
  exact World.block_lt_of_cell? W _ c
 refine⟨hlt,?_⟩
 unfold World.var? at hv
 rw[hg]at hv
 simp only[Option.bind_some]at hv
 split at hv
 .rename_i us ty fr hb
  obtain rfl:=Option.some.inj hv
  exact⟨_,ty,fr,hb,by simp⟩
 .cases hv
end
end
end Abs
end Go.Proofs.YtnhgeocdffhkjaaGreatDoor
