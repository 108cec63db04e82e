/- Merged and trimmed by a program: E1 E2 D1 D2 D3 D4 D5 D6 D7 D8 D9 D10 D11 D12 D13 D14 D15 D16 D17 D18 D19 D20. -/
import Derived.Test.YtgfnhpadmifiiaaDoorZDG
set_option linter.unusedVariables false
set_option linter.unusedSimpArgs false
set_option linter.defProp false
namespace Go.Proofs.YtgfnhpadmifiiaaDoor
namespace Abs
noncomputable section
def oC(L:List Int)(a:Int):Prop:=(∀x∈L,-9223372036854775808<=x/\x<=9223372036854775807)/\L.length<=9223372036854775807/\0<=a
theorem a1k{L:List Int}{a n:Int}(h:oC L a)(hn:0<n)(hn2:n<=4611686018427387904):∃v a',m45 n L a=some (v,L,a',())/\0<=v/\v<n/\oC L a'/\a<=a'/\(a<(L.length:Int)->a'=a+1):=by
 obtain⟨h1,h2,h3⟩:=h
 unfold m45
 by_cases hl:(L.length:Int)<=a
 .refine⟨0,a,?_,by omega,hn,⟨h1,h2,h3⟩,nY _,λq=>by omega⟩
  rw[a6O (by simpa[aG]using hl)];rfl
 .have hlt:a.toNat<L.length:=by omega
  have ha:a=(a.toNat:Int):=by omega
  have hx:=h1 L[a.toNat] (aV _)
  have e1:gP .i64 (bZ .i64 a 1) 1=(a.toNat:Int):=by rw[bB (by omega) (by omega),fE (by omega) (by omega)];omega
  have b1:=Int.tmod_lt_of_pos L[a.toNat] hn
  have b2:-n<L[a.toNat].tmod n:=by have:=Int.lt_tmod_of_pos L[a.toNat] hn;omega
  have e2:bZ .i64 (xJ L[a.toNat] n) n=L[a.toNat].tmod n+n:=bB (by simp only[xJ];omega) (by simp only[xJ];omega)
  refine⟨(L[a.toNat].tmod n+n)%n,a+1,?_,Int.emod_nonneg _ (by omega),Int.emod_lt_of_pos _ hn,⟨h1,h2,by omega⟩,by omega,λ_=>rfl⟩
  rw[a6P (by simp only[aG];omega),e1]
  simp(disch:=omega) only[cond_false,a8p,aG,AO,a6N,a2j,e2,bB,WE]
theorem BK{L:List Int}{a n:Int}(h:oC L a)(hn:0<n)(hn2:n<=4611686018427387904):T (m45 n L a) (λy=>oC y.2.1 y.2.2.1/\0<=y.1/\y.1<n):=by
 obtain⟨v,a',e,h1,h2,h3,_⟩:=a1k h hn hn2
 exact⟨_,e,h3,h1,h2⟩
theorem BH(s:ByteArray):sLen s=(s.size:Int):=rfl
def spn(p:Int->Bool)(s:ByteArray):Nat->Nat->Nat
 |0,i=>i
 |n+1,i=>if p (sAt s (i:Int))=true then spn p s n (i+1) else i
def wm(p:Int->Bool)(s:ByteArray)(i:Nat):Nat:=spn p s (s.size-i) i
theorem G5(p:Int->Bool)(s:ByteArray)(i:Nat)(h:i<s.size):wm p s i=if p (sAt s (i:Int))=true then wm p s (i+1) else i:=by
 unfold wm
 obtain⟨n,hn⟩:∃n,s.size-i=n+1:=⟨s.size-i-1,by omega⟩
 rw[hn]
 conv=>lhs;unfold spn
 rw[show s.size-(i+1)=n by omega]
theorem J6(p:Int->Bool)(s:ByteArray):wm p s s.size=s.size:=by unfold wm;rw[ou];rfl
def isLet(c:Int):Bool:=decide (97<=c/\c<=122)
def Ey(c:Int):Bool:=decide (48<=c/\c<=57)
def sw(c:Int):Bool:=isLet c||Ey c||decide (c=45)
theorem YA(c:Int):m99 c=some (isLet c,()):=by unfold m99 isLet iLe;by_cases h:97<=c<;>simp[h]
theorem Yz(c:Int):Il c=some (isLet c,()):=by unfold Il isLet iLe;by_cases h:97<=c<;>simp[h]
theorem a8j(c:Int):LX c=some (Ey c,()):=by unfold LX Ey iLe;by_cases h:48<=c<;>simp[h]
theorem a8i(c:Int):LY c=some (Ey c,()):=by unfold LY Ey iLe;by_cases h:48<=c<;>simp[h]
theorem a5z(c:Int):M0 c=some (sw c,()):=by
 unfold M0 sw
 rw[YA,a8j]
 simp only[ku]
 cases isLet c<;>cases Ey c<;>simp[iEq,BEq.beq]
theorem a5G(s:ByteArray)(i:Nat)(hi:i<=s.size)(hs:s.size<=4611686018427387904):M4 s (i:Int) ()=some ((wm sw s i:Int),()):=by
 refine T.eq ?_
 unfold M4
 refine T.loop (λq=>∃j:Nat,j<=s.size/\wm sw s j=wm sw s i/\q=(s,(j:Int),(),())) (λq=>s.size-q.2.1.toNat) ⟨i,hi,rfl,rfl⟩ ?_
 rintro _ ⟨j,hj,he,rfl⟩
 dsimp only
 have hl:=BH s
 refine T.grd (by first|(simp(disch:=omega) only[bD,bg,gD,gF,dF,dP,gJ,gX,bE,l9,fM,l7,eO,iD,iO,jh,ji,l6,dO,gW,iM,lq,fG,nR,dN,dQ,eX,fq,jQ,fC,jR,iR,jA,jy,jv,eP,fZ,eB,iq,iy,gK,bG,dH,dn,aT,bB,fE,jV,aY,aB,bF,cZ,bT,bL,bX,bV];omega)|(simp(disch:=omega) only[bD,bg,gD,gF,dF,dP,gJ,gX,bE,l9,fM,l7,eO,iD,iO,jh,ji,l6,dO,gW,iM,lq,fG,nR,dN,dQ,eX,fq,jQ,fC,jR,iR,jA,jy,jv,eP,fZ,eB,iq,iy,gK,bG,dH,dn,aT,bB,fE,jV,aY,aB,bF,cZ,bT,bL,bX,bV];done)) ?_
 refine T.cnd (λhc=>?_) (λhc=>?_)<;>simp only[bD,bg]at hc
 .rw[G5 sw s j (by omega)]at he
  refine T.dz (a5z _) ?_
  refine T.cnd (λhp=>?_) (λhp=>T.out ?_)
  .rw[ak hp]at he
   refine T.go ⟨j+1,by omega,he,by rw[bB (by omega) (by omega)];rfl⟩ ?_
   dsimp only;rw[bB (by omega) (by omega)];omega
  .rw[au (by simpa using hp)]at he
   rw[<- he]
 .refine T.out ?_
  have:j=s.size:=by omega
  subst this
  rw[J6]at he
  rw[<- he]
def uY(s:ByteArray):Bool:=if s.size=0\/16<s.size then false else if isLet (sAt s 0)=true/\¬sAt s ((s.size:Int)-1)=45 then decide (wm sw s 0=s.size) else false
theorem a2G(s:ByteArray)(hs:s.size<=4611686018427387904):m88 s=some (uY s,()):=by
 refine T.eq ?_
 unfold m88 uY
 have hl:=BH s
 refine T.grd (by first|(simp(disch:=omega) only[bD,bg,gD,gF,dF,dP,gJ,gX,bE,l9,fM,l7,eO,iD,iO,jh,ji,l6,dO,gW,iM,lq,fG,nR,dN,dQ,eX,fq,jQ,fC,jR,iR,jA,jy,jv,eP,fZ,eB,iq,iy,gK,bG,dH,dn,aT,bB,fE,jV,aY,aB,bF,cZ,bT,bL,bX,bV];omega)|(simp(disch:=omega) only[bD,bg,gD,gF,dF,dP,gJ,gX,bE,l9,fM,l7,eO,iD,iO,jh,ji,l6,dO,gW,iM,lq,fG,nR,dN,dQ,eX,fq,jQ,fC,jR,iR,jA,jy,jv,eP,fZ,eB,iq,iy,gK,bG,dH,dn,aT,bB,fE,jV,aY,aB,bF,cZ,bT,bL,bX,bV];done)) ?_
 refine T.cnd (λhc=>?_) (λhc=>?_)<;>simp only[bD,bg,gD,gF,dF,dP,gJ,gX,bE,l9,fM,l7,eO,iD,iO,jh,ji,l6,dO,gW,iM,lq,fG,nR,dN,dQ,eX,fq,jQ,fC,jR,iR,jA,jy,jv,eP,fZ,eB,iq,iy,gK,bG,dH,dn,aT]at hc
 .refine T.grd (by first|(simp(disch:=omega) only[bD,bg,gD,gF,dF,dP,gJ,gX,bE,l9,fM,l7,eO,iD,iO,jh,ji,l6,dO,gW,iM,lq,fG,nR,dN,dQ,eX,fq,jQ,fC,jR,iR,jA,jy,jv,eP,fZ,eB,iq,iy,gK,bG,dH,dn,aT,bB,fE,jV,aY,aB,bF,cZ,bT,bL,bX,bV];omega)|(simp(disch:=omega) only[bD,bg,gD,gF,dF,dP,gJ,gX,bE,l9,fM,l7,eO,iD,iO,jh,ji,l6,dO,gW,iM,lq,fG,nR,dN,dQ,eX,fq,jQ,fC,jR,iR,jA,jy,jv,eP,fZ,eB,iq,iy,gK,bG,dH,dn,aT,bB,fE,jV,aY,aB,bF,cZ,bT,bL,bX,bV];done)) (T.ret ?_)
  rw[ak (by omega)]
 .rw[au (by omega)]
  have e1:gP .i64 (sLen s) 1=(s.size:Int)-1:=by rw[fE (by omega) (by omega),hl]
  rw[e1]
  refine T.dz (YA _) ?_
  refine T.grd (by first|(simp(disch:=omega) only[bD,bg,gD,gF,dF,dP,gJ,gX,bE,l9,fM,l7,eO,iD,iO,jh,ji,l6,dO,gW,iM,lq,fG,nR,dN,dQ,eX,fq,jQ,fC,jR,iR,jA,jy,jv,eP,fZ,eB,iq,iy,gK,bG,dH,dn,aT,bB,fE,jV,aY,aB,bF,cZ,bT,bL,bX,bV];omega)|(simp(disch:=omega) only[bD,bg,gD,gF,dF,dP,gJ,gX,bE,l9,fM,l7,eO,iD,iO,jh,ji,l6,dO,gW,iM,lq,fG,nR,dN,dQ,eX,fq,jQ,fC,jR,iR,jA,jy,jv,eP,fZ,eB,iq,iy,gK,bG,dH,dn,aT,bB,fE,jV,aY,aB,bF,cZ,bT,bL,bX,bV];done)) ?_
  refine T.cnd (λhc=>T.ret ?_) (λhc=>?_)<;>simp only[bD,bg,gD,gF,dF,dP,gJ,gX,bE,l9,fM,l7,eO,iD,iO,jh,ji,l6,dO,gW,iM,lq,fG,nR,dN,dQ,eX,fq,jQ,fC,jR,iR,jA,jy,jv,eP,fZ,eB,iq,iy,gK,bG,dH,dn,aT]at hc
  .rw[au]
   rintro⟨q1,q2⟩
   rcases hc with q|q
   .rw[q1]at q;cases q
   .exact q2 q
  .rw[ak ⟨hc.1,hc.2⟩]
   refine T.dz (a5G s 0 (by omega) hs) (T.ret ?_)
   congr 1
   rw[hl,wU]
   simp only[dF,dI]
   omega
theorem Sb(p:Int->Bool)(s:ByteArray):∀(n i:Nat),i+n=s.size->(wm p s i=s.size↔∀j,i<=j->j<s.size->p (sAt s (j:Int))=true):=by
 intro n
 induction n with
 |zero =>
  intro i hi
  have:i=s.size:=by omega
  subst this
  rw[J6]
  exact⟨λ_ j h1 h2=>by omega,λ_=>rfl⟩
 |succ n ih =>
  intro i hi
  rw[G5 p s i (by omega)]
  have:=ih (i+1) (by omega)
  by_cases hp:p (sAt s (i:Int))=true
  .rw[ak hp,this]
   constructor
   .intro h j h1 h2
    rcases Nat.eq_or_lt_of_le h1 with q|q
    .rw[<- q];exact hp
    .exact h j q h2
   .intro h j h1 h2;exact h j (by omega) h2
  .rw[au hp]
   constructor
   .intro h;omega
   .intro h;exact absurd (h i (bM _) (by omega)) hp
theorem a2F(s:ByteArray)(hs:s.size<=4611686018427387904):m91 s=some (uY s,()):=by
 refine T.eq ?_
 unfold m91 uY
 have hl:=BH s
 refine T.grd (by first|(simp(disch:=omega) only[bD,bg,gD,gF,dF,dP,gJ,gX,bE,l9,fM,l7,eO,iD,iO,jh,ji,l6,dO,gW,iM,lq,fG,nR,dN,dQ,eX,fq,jQ,fC,jR,iR,jA,jy,jv,eP,fZ,eB,iq,iy,gK,bG,dH,dn,aT,bB,fE,jV,aY,aB,bF,cZ,bT,bL,bX,bV];omega)|(simp(disch:=omega) only[bD,bg,gD,gF,dF,dP,gJ,gX,bE,l9,fM,l7,eO,iD,iO,jh,ji,l6,dO,gW,iM,lq,fG,nR,dN,dQ,eX,fq,jQ,fC,jR,iR,jA,jy,jv,eP,fZ,eB,iq,iy,gK,bG,dH,dn,aT,bB,fE,jV,aY,aB,bF,cZ,bT,bL,bX,bV];done)) ?_
 refine T.cnd (λhc=>?_) (λhc=>?_)<;>simp only[bD,bg,gD,gF,dF,dP,gJ,gX,bE,l9,fM,l7,eO,iD,iO,jh,ji,l6,dO,gW,iM,lq,fG,nR,dN,dQ,eX,fq,jQ,fC,jR,iR,jA,jy,jv,eP,fZ,eB,iq,iy,gK,bG,dH,dn,aT]at hc
 .refine T.grd (by first|(simp(disch:=omega) only[bD,bg,gD,gF,dF,dP,gJ,gX,bE,l9,fM,l7,eO,iD,iO,jh,ji,l6,dO,gW,iM,lq,fG,nR,dN,dQ,eX,fq,jQ,fC,jR,iR,jA,jy,jv,eP,fZ,eB,iq,iy,gK,bG,dH,dn,aT,bB,fE,jV,aY,aB,bF,cZ,bT,bL,bX,bV];omega)|(simp(disch:=omega) only[bD,bg,gD,gF,dF,dP,gJ,gX,bE,l9,fM,l7,eO,iD,iO,jh,ji,l6,dO,gW,iM,lq,fG,nR,dN,dQ,eX,fq,jQ,fC,jR,iR,jA,jy,jv,eP,fZ,eB,iq,iy,gK,bG,dH,dn,aT,bB,fE,jV,aY,aB,bF,cZ,bT,bL,bX,bV];done)) (T.ret ?_)
  rw[ak (by omega)]
 .rw[au (by omega)]
  have e1:gP .i64 (sLen s) 1=(s.size:Int)-1:=by rw[fE (by omega) (by omega),hl]
  rw[e1]
  refine T.dz (Yz _) ?_
  refine T.grd (by first|(simp(disch:=omega) only[bD,bg,gD,gF,dF,dP,gJ,gX,bE,l9,fM,l7,eO,iD,iO,jh,ji,l6,dO,gW,iM,lq,fG,nR,dN,dQ,eX,fq,jQ,fC,jR,iR,jA,jy,jv,eP,fZ,eB,iq,iy,gK,bG,dH,dn,aT,bB,fE,jV,aY,aB,bF,cZ,bT,bL,bX,bV];omega)|(simp(disch:=omega) only[bD,bg,gD,gF,dF,dP,gJ,gX,bE,l9,fM,l7,eO,iD,iO,jh,ji,l6,dO,gW,iM,lq,fG,nR,dN,dQ,eX,fq,jQ,fC,jR,iR,jA,jy,jv,eP,fZ,eB,iq,iy,gK,bG,dH,dn,aT,bB,fE,jV,aY,aB,bF,cZ,bT,bL,bX,bV];done)) ?_
  refine T.cnd (λhc=>T.ret ?_) (λhc=>?_)<;>simp only[bD,bg,gD,gF,dF,dP,gJ,gX,bE,l9,fM,l7,eO,iD,iO,jh,ji,l6,dO,gW,iM,lq,fG,nR,dN,dQ,eX,fq,jQ,fC,jR,iR,jA,jy,jv,eP,fZ,eB,iq,iy,gK,bG,dH,dn,aT]at hc
  .rw[au]
   rintro⟨q1,q2⟩
   rcases hc with q|q
   .rw[q1]at q;cases q
   .exact q2 q
  .rw[ak ⟨hc.1,hc.2⟩]
   have key:=Sb sw s s.size 0 (by omega)
   refine T.loop (λq=>∃j:Nat,j<=s.size/\(∀k,k<j->sw (sAt s (k:Int))=true)/\q=(s,(j:Int),())) (λq=>s.size-q.2.1.toNat) ⟨0,by omega,λk hk=>by omega,rfl⟩ ?_
   rintro _ ⟨j,hj,he,rfl⟩
   dsimp only
   have go:j<s.size->sw (sAt s (j:Int))=true->T (some (Sum.inl (β:=Bool×Unit) (s,bZ .i64 (j:Int) 1,()))) (LQ (λq=>∃j:Nat,j<=s.size/\(∀k,k<j->sw (sAt s (k:Int))=true)/\q=(s,(j:Int),())) (λq=>s.size-q.2.1.toNat) (s.size-(j:Int).toNat) (λx=>x=(decide (wm sw s 0=s.size),()))):=λhlt hw=>by
    refine T.go ⟨j+1,by omega,λk hk=>?_,by rw[bB (by omega) (by omega)];rfl⟩ ?_
    .rcases aS k j with q|q
     .exact he k q
     .rw[show k=j by omega];exact hw
    .dsimp only;rw[bB (by omega) (by omega)];omega
   refine T.cnd (λhc=>?_) (λhc=>?_)<;>simp only[bD,bg]at hc
   .have hlt:j<s.size:=by omega
    refine T.grd (by first|(simp(disch:=omega) only[bD,bg,gD,gF,dF,dP,gJ,gX,bE,l9,fM,l7,eO,iD,iO,jh,ji,l6,dO,gW,iM,lq,fG,nR,dN,dQ,eX,fq,jQ,fC,jR,iR,jA,jy,jv,eP,fZ,eB,iq,iy,gK,bG,dH,dn,aT,bB,fE,jV,aY,aB,bF,cZ,bT,bL,bX,bV];omega)|(simp(disch:=omega) only[bD,bg,gD,gF,dF,dP,gJ,gX,bE,l9,fM,l7,eO,iD,iO,jh,ji,l6,dO,gW,iM,lq,fG,nR,dN,dQ,eX,fq,jQ,fC,jR,iR,jA,jy,jv,eP,fZ,eB,iq,iy,gK,bG,dH,dn,aT,bB,fE,jV,aY,aB,bF,cZ,bT,bL,bX,bV];done)) ?_
    refine T.dz (Yz _) ?_
    refine T.grd (by first|(simp(disch:=omega) only[bD,bg,gD,gF,dF,dP,gJ,gX,bE,l9,fM,l7,eO,iD,iO,jh,ji,l6,dO,gW,iM,lq,fG,nR,dN,dQ,eX,fq,jQ,fC,jR,iR,jA,jy,jv,eP,fZ,eB,iq,iy,gK,bG,dH,dn,aT,bB,fE,jV,aY,aB,bF,cZ,bT,bL,bX,bV];omega)|(simp(disch:=omega) only[bD,bg,gD,gF,dF,dP,gJ,gX,bE,l9,fM,l7,eO,iD,iO,jh,ji,l6,dO,gW,iM,lq,fG,nR,dN,dQ,eX,fq,jQ,fC,jR,iR,jA,jy,jv,eP,fZ,eB,iq,iy,gK,bG,dH,dn,aT,bB,fE,jV,aY,aB,bF,cZ,bT,bL,bX,bV];done)) ?_
    refine T.cnd (λh1=>?_) (λh1=>?_)<;>simp only[dO,gW]at h1
    .refine T.dz (a8i _) ?_
     refine T.grd (by first|(simp(disch:=omega) only[bD,bg,gD,gF,dF,dP,gJ,gX,bE,l9,fM,l7,eO,iD,iO,jh,ji,l6,dO,gW,iM,lq,fG,nR,dN,dQ,eX,fq,jQ,fC,jR,iR,jA,jy,jv,eP,fZ,eB,iq,iy,gK,bG,dH,dn,aT,bB,fE,jV,aY,aB,bF,cZ,bT,bL,bX,bV];omega)|(simp(disch:=omega) only[bD,bg,gD,gF,dF,dP,gJ,gX,bE,l9,fM,l7,eO,iD,iO,jh,ji,l6,dO,gW,iM,lq,fG,nR,dN,dQ,eX,fq,jQ,fC,jR,iR,jA,jy,jv,eP,fZ,eB,iq,iy,gK,bG,dH,dn,aT,bB,fE,jV,aY,aB,bF,cZ,bT,bL,bX,bV];done)) ?_
     refine T.cnd (λh2=>T.out ?_) (λh2=>?_)<;>simp only[bD,bg,gD,gF,dF,dP,gJ,gX,bE,l9,fM,l7,eO,iD,iO,jh,ji,l6,dO,gW,iM,lq,fG,nR,dN,dQ,eX,fq,jQ,fC,jR,iR,jA,jy,jv,eP,fZ,eB,iq,iy,gK,bG,dH,dn,aT]at h2
     .rw[iK]
      intro q
      have:=key.1 q j (by omega) hlt
      unfold sw at this
      rw[h1,h2.1]at this
      simp at this
      exact h2.2 this
     .refine go hlt ?_
      unfold sw
      rcases h2 with q|q
      .rw[q];simp
      .rw[fH q];simp
    .refine T.grd (by first|(simp(disch:=omega) only[bD,bg,gD,gF,dF,dP,gJ,gX,bE,l9,fM,l7,eO,iD,iO,jh,ji,l6,dO,gW,iM,lq,fG,nR,dN,dQ,eX,fq,jQ,fC,jR,iR,jA,jy,jv,eP,fZ,eB,iq,iy,gK,bG,dH,dn,aT,bB,fE,jV,aY,aB,bF,cZ,bT,bL,bX,bV];omega)|(simp(disch:=omega) only[bD,bg,gD,gF,dF,dP,gJ,gX,bE,l9,fM,l7,eO,iD,iO,jh,ji,l6,dO,gW,iM,lq,fG,nR,dN,dQ,eX,fq,jQ,fC,jR,iR,jA,jy,jv,eP,fZ,eB,iq,iy,gK,bG,dH,dn,aT,bB,fE,jV,aY,aB,bF,cZ,bT,bL,bX,bV];done)) (go hlt ?_)
     unfold sw;rw[h1];rfl
   .refine T.out ?_
    rw[fH]
    exact key.2 λk _ hk=>he k (by omega)
theorem JA(a b:Bool):(cond a (some (true,())) (some (b,())):Option (Bool×Unit))=some (a||b,()):=by cases a<;>rfl
def I7(s:ByteArray):Bool:=(m89 s).elim false λy=>y.1
theorem XE(s:ByteArray):m89 s=some (I7 s,()):=by
 have h:∃b,m89 s=some (b,()):=by
  unfold m89
  simp only[JA]
  exact⟨_,rfl⟩
 obtain⟨b,h⟩:=h
 unfold I7
 rw[h];rfl
theorem a5M(s:ByteArray):m92 s=some (I7 s,()):=(show m92 s=m89 s from rfl).trans (XE s)
def K8(s:ByteArray):Bool:=uY s&&!I7 s
theorem a5d{a b:ByteArray}(h:BZ a=BZ b):a=b:=by
 have key:∀(l m:List UInt8),(l.map λc=>(c.toNat:Int))=(m.map λc=>(c.toNat:Int))->l=m:=by
  intro l
  induction l with
  |nil=>intro m h;cases m with
   |nil=>rfl
   |cons=>cases h
  |cons x l ih =>
   intro m h
   cases m with
   |nil=>cases h
   |cons y m =>
    simp only[dw,wT]at h
    have:x=y:=UInt8.toNat_inj.1 (by omega)
    rw[this,ih m h.2]
 have:=key _ _ h
 cases a;cases b
 simp at this;rw[this]
theorem a0N(a b:ByteArray):sEq a b=decide (BZ a=BZ b):=by
 rcases h:sEq a b with _|_
 .rw[Gc]at h;symm;rw[gG];exact λq=>h (a5d q)
 .rw[Gb]at h;subst h;symm;rw[dI]
theorem a0T{a b:Int}(h:0<=a):xJ a b=a%b:=by unfold xJ;rw[Int.tmod_eq_emod_of_nonneg h]
def eqB(a b:ByteArray):Bool:=decide (BZ a=BZ b)
theorem zC(a b:ByteArray):sEq a b=eqB a b:=a0N a b
theorem a8h{a b:ByteArray}:(eqB a b=true)=(a=b):=by rw[<- zC,Gb]
def RES:List ByteArray:=[bs [97,110,100],bs [97,118,101,114,97,103,101],bs [99,111,105,110,115,117,114,97,110,99,101],bs [99,111,110,100,105,116,105,111,110],bs [99,111,118,101,114],bs [100,101,100,117,99,116,105,98,108,101],bs [100,101,102,105,110,101],bs [101,110,100],bs [101,110,100,111,114,115,101],bs [101,120,99,108,117,100,101],bs [102,97,108,115,101],bs [102,114,97,110,99,104,105,115,101],bs [102,114,111,109],bs [105,110],bs [108,105,109,105,116],bs [110,111,116],bs [111,114],bs [114,101,109,111,118,101],bs [115,117,98,108,105,109,105,116],bs [116,111],bs [116,114,117,101],bs [117,110,108,101,115,115],bs [119,104,101,110]]
theorem a0R(s:ByteArray):I7 s=RES.any (λw=>eqB s w):=by
 unfold I7 m89
 simp only[JA,zC,Option.elim,RES,List.any_cons,List.any_nil,Bool.or_false]
def qg(s:ByteArray):Bool:=uY s&&!RES.any (λw=>eqB s w)
theorem Oh(s:ByteArray):K8 s=qg s:=by unfold K8 qg;rw[a0R]
theorem UM(s:ByteArray):m88 s=some (uY s,()):=by
 by_cases h:s.size<=4611686018427387904
 .exact a2G s h
 .refine T.eq ?_
  unfold m88 uY
  have hl:=BH s
  refine T.grd (by rw[fG,bE];left;omega) ?_
  refine T.ct (by rw[eX,dF,bD];omega) ?_
  refine T.grd (by rw[fG];right;rfl) (T.ret ?_)
  rw[ak (by omega)]
theorem RO(s:ByteArray):m91 s=some (uY s,()):=by
 by_cases h:s.size<=4611686018427387904
 .exact a2F s h
 .refine T.eq ?_
  unfold m91 uY
  have hl:=BH s
  refine T.grd (by rw[fG,bE];left;omega) ?_
  refine T.ct (by rw[eX,bD,bD];omega) ?_
  refine T.grd (by rw[fG];right;rfl) (T.ret ?_)
  rw[ak (by omega)]
theorem nm(s:ByteArray):m73 s=some (qg s,()):=by
 rw[<- Oh]
 unfold m73 K8
 rw[UM s,XE]
 cases uY s<;>rfl
theorem nr(s:ByteArray):m77 s=some (qg s,()):=by
 rw[<- Oh]
 unfold m77 K8
 rw[RO s,a5M]
 cases uY s<;>rfl
theorem Rk(l:List ByteArray)(w:ByteArray)(hl:l.length<=9223372036854775807):LZ l w=some (l.any (λx=>eqB w x),()):=by
 refine T.eq ?_
 unfold LZ Qz
 refine T.call (P:=λy=>(0<=y.1↔l.any (λx=>eqB w x)=true)) ?_ ?_
 .refine T.loop (λq=>∃i:Nat,i<=l.length/\(l.take i).any (λx=>eqB w x)=false/\q=(l,w,aG l,(i:Int),())) (λq=>l.length-q.2.2.2.1.toNat) ⟨0,by omega,rfl,rfl⟩ ?_
  rintro _ ⟨i,hi,hf,rfl⟩
  dsimp only
  refine T.cnd (λhc=>?_) (λhc=>?_)<;>simp only[bD,bg,aY]at hc
  .have hlt:i<l.length:=by omega
   refine T.grd (by rw[bE,aY];omega) ?_
   have ea:atI l (i:Int) ByteArray.empty=l[i]:=by unfold atI;rw[bH,aM,ah hlt];rfl
   rw[ea,zC]
   refine T.cnd (λhc2=>T.out ?_) (λhc2=>T.go ⟨i+1,by omega,?_,?_⟩ ?_)
   .dsimp only
    refine⟨λ_=>gT.2 ⟨l[i],aV hlt,hc2⟩,λ_=>by omega⟩
   .rw[cK hlt,qU,hf]
    simp[hc2]
   .rw[bB (by omega) (by omega)];rfl
   .dsimp only;rw[bB (by omega) (by omega)];omega
  .refine T.out ?_
   obtain rfl:i=l.length:=by omega
   rw[eY]at hf
   dsimp only
   rw[hf];simp
 .rintro⟨v,_⟩ hv
  refine T.ret ?_
  dsimp only at hv ⊢
  congr 1
  rcases h:l.any (λx=>eqB w x) with _|_
  .rw[h]at hv;rw[gF];have:¬0<=v:=λq=>by have:=hv.1 q;cases this
   omega
  .rw[h]at hv;rw[gD];exact hv.2 rfl
def CQ(l:List ByteArray)(i:Nat):Bool:=(l.take i).any (λx=>eqB (l.getD i ByteArray.empty) x)
def BF(l:List ByteArray):Int:=if l.length=0 then 19 else if 12<l.length then 4 else if l.all qg=true then(if(List.range l.length).any (CQ l)=true then 8 else 0) else 6
theorem wL{α:Type}(l:List α)(i:Nat)(z:α)(h:i<l.length):atI l (i:Int) z=l[i]:=by unfold atI;rw[bH,aM,ah h];rfl
theorem Nc{α:Type}(l:List α)(p:α->Bool)(i:Nat)(h:i<l.length)(hf:(l.take i).all p=true)(hp:p l[i]=true):(l.take (i+1)).all p=true:=by
 rw[cK h,tJ,hf];simp[hp]
theorem P9{α:Type}(l:List α)(p:α->Bool)(i:Nat)(h:i<l.length)(hp:p l[i]=false):l.all p=false:=by
 rcases q:l.all p with _|_
 .rfl
 .have:=aR.1 q l[i] (aV h);rw[hp]at this;cases this
theorem a0i(l:List ByteArray):m90 l=some (BF l,()):=by
 refine T.eq ?_
 unfold m90 BF
 refine T.cnd (λhc=>T.ret ?_) (λhc=>?_)<;>simp only[dF,dP,aY]at hc
 .rw[ak (by omega)]
 rw[au (by omega)]
 refine T.cnd (λhc=>T.ret ?_) (λhc=>?_)<;>simp only[bD,bg,aY]at hc
 .rw[ak (by omega)]
 rw[au (by omega)]
 have hL:=aY l
 refine T.loop (λq=>∃i:Nat,i<=l.length/\(l.take i).all qg=true/\q=(l,l,aG l,(i:Int),())) (λq=>l.length-q.2.2.2.1.toNat) ⟨0,by omega,rfl,rfl⟩ ?_
 rintro _ ⟨i,hi,hf,rfl⟩
 dsimp only
 refine T.cnd (λhc=>?_) (λhc=>?_)<;>simp only[bD,bg]at hc
 .have hlt:i<l.length:=by omega
  refine T.grd (by rw[bE];omega) ?_
  rw[wL l i _ hlt]
  refine T.dz (nm _) ?_
  dsimp only
  refine T.cnd (λhc2=>T.out ?_) (λhc2=>T.go ⟨i+1,by omega,?_,?_⟩ ?_)
  .rw[dO]at hc2;rw[au (by rw[P9 l qg i hlt hc2];simp)]
  .rw[gW]at hc2;exact Nc l qg i hlt hf hc2
  .rw[bB (by omega) (by omega)];rfl
  .dsimp only;rw[bB (by omega) (by omega)];omega
 obtain rfl:i=l.length:=by omega
 rw[eY]at hf
 rw[ak hf]
 refine T.pX ?_
 refine T.loop (λq=>∃i:Nat,i<=l.length/\(List.range i).any (CQ l)=false/\q=(l,l,aG l,(i:Int),())) (λq=>l.length-q.2.2.2.1.toNat) ⟨0,by omega,rfl,rfl⟩ ?_
 rintro _ ⟨i,hi,hg,rfl⟩
 dsimp only
 refine T.cnd (λhc=>?_) (λhc=>?_)<;>simp only[bD,bg]at hc
 .have hlt:i<l.length:=by omega
  refine T.grd (by rw[bE];omega) ?_
  refine T.grd (by rw[iO];omega) ?_
  have hcut:vJ 0 (i:Int) l=l.take i:=by unfold vJ;rw[bH];rfl
  rw[hcut]
  refine T.dz (Rk _ _ (by rw[bL];omega)) ?_
  have hd:(l.take i).any (λx=>eqB (atI l (i:Int) ByteArray.empty) x)=CQ l i:=by unfold CQ atI;rw[bH]
  rw[hd]
  dsimp only
  refine T.cnd (λhc2=>T.out ?_) (λhc2=>T.go ⟨i+1,by omega,?_,?_⟩ ?_)
  .rw[ak (gT.2 ⟨i,bK.2 hlt,hc2⟩)]
  .rw[ni,qU,hg];simp[hc2]
  .rw[bB (by omega) (by omega)];rfl
  .dsimp only;rw[bB (by omega) (by omega)];omega
 .obtain rfl:i=l.length:=by omega
  refine T.out ?_
  rw[au (by rw[hg];simp)]
theorem a1l(l:List ByteArray)(hl:l.length<=12):m93 l=some (l.all qg,()):=by
 refine T.eq ?_
 unfold m93
 have hL:=aY l
 refine T.loop (λq=>∃i:Nat,i<=l.length/\(l.take i).all qg=true/\q=(l,(i:Int),())) (λq=>l.length-q.2.1.toNat) ⟨0,by omega,rfl,rfl⟩ ?_
 rintro _ ⟨i,hi,hf,rfl⟩
 dsimp only
 refine T.cnd (λhc=>?_) (λhc=>?_)<;>simp only[bD,bg]at hc
 .have hlt:i<l.length:=by omega
  refine T.grd (by rw[bE];omega) ?_
  rw[wL l i _ hlt]
  refine T.dz (nr _) ?_
  dsimp only
  refine T.cnd (λhc2=>T.out ?_) (λhc2=>T.go ⟨i+1,by omega,?_,?_⟩ ?_)
  .rw[dO]at hc2;rw[P9 l qg i hlt hc2]
  .rw[gW]at hc2;exact Nc l qg i hlt hf hc2
  .rw[bB (by omega) (by omega)];rfl
  .dsimp only;rw[bB (by omega) (by omega)];omega
 .obtain rfl:i=l.length:=by omega
  rw[eY]at hf
  exact T.out (by rw[hf])
theorem Rj(l:List ByteArray)(hl:l.length<=12):m94 l=some (!(List.range l.length).any (CQ l),()):=by
 refine T.eq ?_
 unfold m94
 have hL:=aY l
 refine T.loop (λq=>∃i:Nat,i<=l.length/\(List.range i).any (CQ l)=false/\q=(l,(i:Int),())) (λq=>l.length-q.2.1.toNat) ⟨0,by omega,rfl,rfl⟩ ?_
 rintro _ ⟨i,hi,hg,rfl⟩
 dsimp only
 refine T.cnd (λhc=>?_) (λhc=>?_)<;>simp only[bD,bg]at hc
 .have hlt:i<l.length:=by omega
  have hd:CQ l i=(l.take i).any (λx=>eqB l[i] x):=by unfold CQ;rw[aM,ah hlt];rfl
  refine T.loop (λq=>∃j:Nat,j<=i/\(l.take j).any (λx=>eqB l[i] x)=false/\q=(l,(i:Int),(j:Int),())) (λq=>i-q.2.2.1.toNat) ⟨0,by omega,rfl,rfl⟩ ?_
  rintro _ ⟨j,hj,hf,rfl⟩
  dsimp only
  refine T.cnd (λhc2=>?_) (λhc2=>?_)<;>simp only[bD,bg]at hc2
  .have hjl:j<l.length:=by omega
   refine T.grd (by rw[bE];omega) ?_
   refine T.grd (by rw[bE];omega) ?_
   rw[wL l i _ hlt,wL l j _ hjl,zC]
   refine T.cnd (λhc3=>T.out ?_) (λhc3=>T.go ⟨j+1,by omega,?_,?_⟩ ?_)
   .show _=_
    have:CQ l i=true:=by
     rw[hd];refine gT.2 ⟨l[j],?_,hc3⟩
     exact kC.2 ⟨j,by rw[bL];omega,by rw[yT]⟩
    rw[gT.2 ⟨i,bK.2 hlt,this⟩];rfl
   .rw[cK hjl,qU,hf];simp[hc3]
   .rw[bB (by omega) (by omega)];rfl
   .dsimp only;rw[bB (by omega) (by omega)];omega
  .obtain rfl:j=i:=by omega
   refine T.out ⟨⟨j+1,by omega,?_,?_⟩,?_⟩
   .rw[ni,qU,hg];simp[hd,hf]
   .rw[bB (by omega) (by omega)];rfl
   .dsimp only;rw[bB (by omega) (by omega)];omega
 .obtain rfl:i=l.length:=by omega
  exact T.out (by rw[hg];rfl)
def uy(a:DS0):Int :=
 if a.2.1=1 then(if a.2.2.2.1≠0\/a.2.2.2.2.1≠0 then 20 else BF a.2.2.1)
 else if a.2.1=2 then(if 0<a.2.2.1.length then 20 else if a.2.2.2.2.1<a.2.2.2.1\/a.2.2.2.1 < -1000000000\/1000000000<a.2.2.2.2.1 then 1 else 0)
 else if a.2.1=3 then(if 0<a.2.2.1.length\/a.2.2.2.1≠0\/a.2.2.2.2.1≠0 then 20 else 0) else 11
theorem a5r(a:DS0):m75 a=some (uy a,()):=by
 refine T.eq ?_
 unfold m75 uy
 have hL:=aY a.2.2.1
 refine T.cnd (λc1=>?_) (λc1=>?_)<;>simp only[dF,dP]at c1
 .rw[ak c1]
  refine T.cnd (λc2=>T.ret ?_) (λc2=>?_)<;>simp only[eX,fq,gJ,gX]at c2
  .rw[ak (by omega)]
  .rw[au (by omega)];exact T.dz (a0i _) (T.ret rfl)
 rw[au c1]
 refine T.cnd (λc1=>?_) (λc1=>?_)<;>simp only[dF,dP]at c1
 .rw[ak c1]
  refine T.cnd (λc2=>T.ret ?_) (λc2=>?_)<;>simp only[bD,bg]at c2
  .rw[ak (by omega)]
  .rw[au (by omega)]
   refine T.cnd (λc2=>T.ret ?_) (λc2=>T.ret ?_)<;>simp only[eX,fq,bD,bg]at c2
   .rw[ak (by omega)]
   .rw[au (by omega)]
 rw[au c1]
 refine T.cnd (λc1=>?_) (λc1=>?_)<;>simp only[dF,dP]at c1
 .rw[ak c1]
  refine T.cnd (λc2=>T.ret ?_) (λc2=>T.ret ?_)<;>simp only[eX,fq,bD,bg,gJ,gX]at c2
  .rw[ak (by omega)]
  .rw[au (by omega)]
 .rw[au c1];exact T.ret rfl
theorem a5q(a:DS0):m78 a=some (uy a,()):=by
 refine T.eq ?_
 unfold m78 uy
 have hL:=aY a.2.2.1
 refine T.cnd (λc1=>?_) (λc1=>?_)<;>simp only[dF,dP]at c1
 .rw[ak c1]
  refine T.cnd (λc2=>T.ret ?_) (λc2=>?_)<;>simp only[eX,fq,gJ,gX]at c2
  .rw[ak (by omega)]
  .rw[au (by omega)]
   unfold BF
   refine T.cnd (λc2=>T.ret ?_) (λc2=>?_)<;>simp only[dF,dP]at c2
   .rw[ak (by omega)]
   rw[au (by omega)]
   refine T.cnd (λc2=>T.ret ?_) (λc2=>?_)<;>simp only[bD,bg]at c2
   .rw[ak (by omega)]
   rw[au (by omega)]
   refine T.dz (a1l _ (by omega)) ?_
   dsimp only
   refine T.cnd (λc3=>T.ret ?_) (λc3=>?_)<;>simp only[dO,gW]at c3
   .rw[au (by rw[c3];simp)]
   rw[ak c3]
   refine T.dz (Rj _ (by omega)) ?_
   dsimp only
   refine T.cnd (λc4=>T.ret ?_) (λc4=>T.ret ?_)<;>simp only[dO,gW]at c4
   .rw[ak c4]
   .rw[au (by rw[c4];simp)]
 rw[au c1]
 refine T.cnd (λc1=>?_) (λc1=>?_)<;>simp only[dF,dP]at c1
 .rw[ak c1]
  refine T.cnd (λc2=>T.ret ?_) (λc2=>?_)<;>simp only[bD,bg]at c2
  .rw[ak (by omega)]
  rw[au (by omega)]
  refine T.cnd (λc3=>T.ret ?_) (λc3=>?_)<;>simp only[bD,bg]at c3
  .rw[ak (by omega)]
  unfold m95
  refine T.bind (T.ret ?_)
  refine T.cnd (λc4=>T.ret ?_) (λc4=>?_)<;>simp only[eX,fq,bD,bg]at c4
  .rw[ak (by omega)]
  refine T.bind (T.ret ?_)
  refine T.cnd (λc5=>T.ret ?_) (λc5=>T.ret ?_)<;>simp only[eX,fq,bD,bg]at c5
  .rw[ak (by omega)]
  .rw[au (by omega)]
 rw[au c1]
 refine T.cnd (λc1=>?_) (λc1=>?_)<;>simp only[dF,dP]at c1
 .rw[ak c1]
  refine T.cnd (λc2=>T.ret ?_) (λc2=>T.ret ?_)<;>simp only[eX,fq,bD,bg,gJ,gX]at c2
  .rw[ak (by omega)]
  .rw[au (by omega)]
 .rw[au c1];exact T.ret rfl
def zA:DS0:=(ByteArray.empty,0,[],0,0,())
def CS(l:List DS0)(i:Nat):Bool:=(l.take i).any (λx=>eqB x.1 (l.getD i zA).1)
def chk(l:List DS0)(i:Nat):Int:=if qg (l.getD i zA).1=false then 6 else if CS l i=true then 8 else uy (l.getD i zA)
def Bd(l:List DS0):Nat->Nat->Int
 |0,_=>0
 |n+1,i=>if chk l i≠0 then chk l i else Bd l n (i+1)
def jM(l:List DS0):Int:=if l.length=0 then 19 else if 6<l.length then 4 else Bd l l.length 0
theorem getD_eq{α:Type}(l:List α)(i:Nat)(z:α)(h:i<l.length):l.getD i z=l[i]:=by rw[aM,ah h];rfl
theorem dW{α:Type}(l:List α)(i:Nat)(z:α):atI l (i:Int) z=l.getD i z:=by unfold atI;rw[bH]
theorem a1z(l:List DS0)(i:Nat)(hi:i<l.length)(hl:l.length<=6):T (m74 (l,()) (l.getD i zA).1) (λy=>(y.1<(i:Int))↔CS l i=true):=by
 unfold m74
 have hL:=aY l
 generalize hw:(l.getD i zA).1=w
 have hd:CS l i=(l.take i).any (λx=>eqB x.1 w):=by unfold CS;rw[hw]
 rw[hd]
 refine T.loop (λq=>∃j:Nat,j<=i/\(l.take j).any (λx=>eqB x.1 w)=false/\q=(w,l,aG l,(j:Int),())) (λq=>l.length-q.2.2.2.1.toNat) ⟨0,by omega,rfl,rfl⟩ ?_
 rintro _ ⟨j,hj,hf,rfl⟩
 dsimp only
 refine T.ct (by rw[bD];omega) ?_
 have hjl:j<l.length:=by omega
 refine T.grd (by rw[bE];omega) ?_
 rw[wL l j _ hjl,zC]
 refine T.cnd (λhc=>T.out ?_) (λhc=>T.go ⟨j+1,?_,?_,?_⟩ ?_)
 .dsimp only
  constructor
  .intro q
   refine gT.2 ⟨l[j],kC.2 ⟨j,by rw[bL];omega,by rw[yT]⟩,hc⟩
  .intro q
   rcases aS j i with r|r
   .omega
   .obtain rfl:j=i:=by omega
    rw[hf]at q;cases q
 .rcases aS j i with r|r
  .omega
  .obtain rfl:j=i:=by omega
   rw[getD_eq l j _ hjl]at hw
   rw[hw]at hc
   have:eqB w w=true:=by rw[a8h]
   rw[this]at hc;cases hc
 .rw[cK hjl,qU,hf];simp[hc]
 .rw[bB (by omega) (by omega)];rfl
 .dsimp only;rw[bB (by omega) (by omega)];omega
theorem Eb(s:DS5):m38 s=some (jM s.1,()):=by
 obtain⟨l,⟨⟩⟩:=s
 refine T.eq ?_
 unfold m38 jM
 dsimp only
 have hL:=aY l
 refine T.cnd (λhc=>T.ret ?_) (λhc=>?_)<;>simp only[dF,dP]at hc
 .rw[ak (by omega)]
 rw[au (by omega)]
 refine T.cnd (λhc=>T.ret ?_) (λhc=>?_)<;>simp only[bD,bg]at hc
 .rw[ak (by omega)]
 rw[au (by omega)]
 generalize htg:Bd l l.length 0=tgt
 refine T.loop (λq=>∃n i:Nat,i+n=l.length/\Bd l n i=tgt/\q=(l,aG l,(i:Int),l,())) (λq=>l.length-q.2.2.1.toNat) ⟨l.length,0,by omega,htg,rfl⟩ ?_
 rintro _ ⟨n,i,hn,he,rfl⟩
 dsimp only
 refine T.cnd (λhc1=>?_) (λhc1=>?_)<;>simp only[bD,bg]at hc1
 .have hi:i<l.length:=by omega
  obtain⟨n,rfl⟩:∃m,n=m+1:=⟨n-1,by omega⟩
  simp only[Bd]at he
  refine T.grd (by rw[bE];omega) ?_
  have ea:atI l (i:Int) (ByteArray.empty,0,[],0,0,())=l.getD i zA:=dW l i zA
  rw[ea]
  refine T.dz (nm _) ?_
  dsimp only
  refine T.cnd (λc1=>T.out ?_) (λc1=>?_)<;>simp only[dO,gW]at c1
  .rw[show chk l i=6 by unfold chk;rw[ak c1],ak (by decide)]at he;exact he▸rfl
  have k1:chk l i=if CS l i=true then 8 else uy (l.getD i zA):=by unfold chk;rw[au (by rw[c1];simp)]
  refine T.call (a1z l i hi (by omega)) (λy hy=>?_)
  refine T.cnd (λc2=>T.out ?_) (λc2=>?_)<;>simp only[bD,bg]at c2
  .rw[ak (hy.1 c2)]at k1;rw[k1,ak (by decide)]at he;exact he▸rfl
  rw[au (λq=>by have:=hy.2 q;omega)]at k1
  rw[k1]at he
  refine T.dz (a5r (l.getD i zA)) ?_
  dsimp only
  refine T.cnd (λc3=>T.out ?_) (λc3=>T.go ⟨n,i+1,by omega,?_,?_⟩ ?_)<;>simp only[gJ,gX]at c3
  .rw[ak c3]at he;exact he▸rfl
  .rw[au (by rw[c3];simp)]at he;exact he
  .rw[bB (by omega) (by omega)];rfl
  .dsimp only;rw[bB (by omega) (by omega)];omega
 .obtain rfl:n=0:=by omega
  exact T.out (he▸rfl)
theorem PU(s:DS5):m41 s=some (jM s.1,()):=by
 obtain⟨l,⟨⟩⟩:=s
 refine T.eq ?_
 unfold m41 jM
 dsimp only
 have hL:=aY l
 refine T.cnd (λhc=>T.ret ?_) (λhc=>?_)<;>simp only[dF,dP]at hc
 .rw[ak (by omega)]
 rw[au (by omega)]
 refine T.cnd (λhc=>T.ret ?_) (λhc=>?_)<;>simp only[bD,bg]at hc
 .rw[ak (by omega)]
 rw[au (by omega)]
 generalize htg:Bd l l.length 0=tgt
 refine T.loop (λq=>∃n i:Nat,i+n=l.length/\Bd l n i=tgt/\q=((i:Int),l,())) (λq=>l.length-q.1.toNat) ⟨l.length,0,by omega,htg,rfl⟩ ?_
 rintro _ ⟨n,i,hn,he,rfl⟩
 dsimp only
 refine T.cnd (λhc1=>?_) (λhc1=>?_)<;>simp only[bD,bg]at hc1
 .have hi:i<l.length:=by omega
  obtain⟨n,rfl⟩:∃m,n=m+1:=⟨n-1,by omega⟩
  simp only[Bd]at he
  refine T.grd (by rw[bE];omega) ?_
  have ea:atI l (i:Int) (ByteArray.empty,0,[],0,0,())=l.getD i zA:=dW l i zA
  rw[ea]
  refine T.dz (nr _) ?_
  dsimp only
  refine T.cnd (λc1=>T.out ?_) (λc1=>?_)<;>simp only[dO,gW]at c1
  .rw[show chk l i=6 by unfold chk;rw[ak c1],ak (by decide)]at he;exact he▸rfl
  have k1:chk l i=if CS l i=true then 8 else uy (l.getD i zA):=by unfold chk;rw[au (by rw[c1];simp)]
  obtain⟨w,hw⟩:∃w,l.getD i zA=w:=⟨_,rfl⟩
  have hd:CS l i=(l.take i).any (λx=>eqB x.1 w.1):=by unfold CS;rw[hw]
  rw[hw,hd]at k1
  rw[hw]
  refine T.loop (λq=>∃j:Nat,j<=i/\(l.take j).any (λx=>eqB x.1 w.1)=false/\q=((i:Int),(j:Int),l,w.1,w.2.1,w.2.2.1,w.2.2.2.1,w.2.2.2.2.1,())) (λq=>i-q.2.1.toNat) ⟨0,by omega,rfl,rfl⟩ ?_
  rintro _ ⟨j,hj,hf,rfl⟩
  dsimp only
  refine T.cnd (λhc2=>?_) (λhc2=>?_)<;>simp only[bD,bg]at hc2
  .have hjl:j<l.length:=by omega
   refine T.grd (by rw[bE];omega) ?_
   rw[wL l j _ hjl,zC]
   refine T.cnd (λhc3=>T.out ?_) (λhc3=>T.go ⟨j+1,by omega,?_,?_⟩ ?_)
   .show((8:Int),())=(tgt,())
    rw[ak (gT.2 ⟨l[j],kC.2 ⟨j,by rw[bL];omega,by rw[yT]⟩,hc3⟩)]at k1
    rw[k1,ak (by decide)]at he
    exact he▸rfl
   .rw[cK hjl,qU,hf];simp[hc3]
   .rw[bB (by omega) (by omega)];rfl
   .dsimp only;rw[bB (by omega) (by omega)];omega
  .obtain rfl:j=i:=by omega
   rw[au (by rw[hf];simp)]at k1
   rw[k1]at he
   refine T.pX ?_
   refine T.dz (a5q (w.1,w.2.1,w.2.2.1,w.2.2.2.1,w.2.2.2.2.1,())) ?_
   have ew:((w.1,w.2.1,w.2.2.1,w.2.2.2.1,w.2.2.2.2.1,()):DS0)=w:=rfl
   rw[ew]
   dsimp only
   refine T.cnd (λc3=>T.ret ?_) (λc3=>T.ret ⟨⟨n,j+1,by omega,?_,?_⟩,?_⟩)<;>simp only[gJ,gX]at c3
   .show(uy w,())=(tgt,())
    rw[ak c3]at he;exact he▸rfl
   .rw[au (by rw[c3];simp)]at he;exact he
   .rw[bB (by omega) (by omega)];rfl
   .dsimp only;rw[bB (by omega) (by omega)];omega
 .obtain rfl:n=0:=by omega
  exact T.out (he▸rfl)
theorem a0p(l:List DS0):∀n i,Bd l n i=0->∀j,i<=j->j<i+n->chk l j=0:=by
 intro n
 induction n with
 |zero=>intro i _ j h1 h2;omega
 |succ n ih =>
  intro i h j h1 h2
  simp only[Bd]at h
  by_cases q:chk l i≠0
  .rw[ak q]at h;exact absurd h q
  .rw[au q]at h
   rcases Nat.eq_or_lt_of_le h1 with r|r
   .subst r;simpa using q
   .exact ih (i+1) h j (by omega) (by omega)
theorem val_ok{l:List DS0}(h:jM l=0):1<=l.length/\l.length<=6/\∀a∈l,qg a.1=true/\uy a=0:=by
 unfold jM at h
 by_cases q:l.length=0
 .rw[ak q]at h;cases h
 rw[au q]at h
 by_cases q2:6<l.length
 .rw[ak q2]at h;cases h
 rw[au q2]at h
 refine⟨by omega,by omega,λa ha=>?_⟩
 obtain⟨j,hj,rfl⟩:=kC.1 ha
 have:=a0p l l.length 0 h j (by omega) (by omega)
 unfold chk at this
 rw[getD_eq l j zA hj]at this
 rcases c:qg (l[j]).1 with _|_
 .rw[ak c]at this;cases this
 .rw[au (by rw[c];simp)]at this
  by_cases d:CS l j=true
  .rw[ak d]at this;cases this
  .rw[au d]at this;exact⟨rfl,this⟩
def jP(a:DS0):Int×Int:=if a.2.1=1 then(0,(a.2.2.1.length:Int)-1) else if a.2.1=2 then(a.2.2.2.1,a.2.2.2.2.1) else(0,1)
theorem RN{l:List ByteArray}(h:BF l=0):1<=l.length/\l.length<=12/\∀w∈l,qg w=true:=by
 unfold BF at h
 by_cases q:l.length=0
 .rw[ak q]at h;cases h
 rw[au q]at h
 by_cases q2:12<l.length
 .rw[ak q2]at h;cases h
 rw[au q2]at h
 by_cases q3:l.all qg=true
 .exact⟨by omega,by omega,λw hw=>aR.1 q3 w hw⟩
 .rw[au q3]at h;cases h
theorem II{a:DS0}(h:uy a=0):(a.2.1=1/\1<=a.2.2.1.length/\a.2.2.1.length<=12/\(∀w∈a.2.2.1,qg w=true))\/(a.2.1=2/\a.2.2.2.1<=a.2.2.2.2.1/\-1000000000<=a.2.2.2.1/\a.2.2.2.2.1<=1000000000)\/a.2.1=3:=by
 unfold uy at h
 by_cases c1:a.2.1=1
 .rw[ak c1]at h
  by_cases c2:a.2.2.2.1≠0\/a.2.2.2.2.1≠0
  .rw[ak c2]at h;cases h
  .rw[au c2]at h;have:=RN h;exact .inl ⟨c1,this.1,this.2.1,this.2.2⟩
 rw[au c1]at h
 by_cases c2:a.2.1=2
 .rw[ak c2]at h
  by_cases c3:0<a.2.2.1.length
  .rw[ak c3]at h;cases h
  rw[au c3]at h
  by_cases c4:a.2.2.2.2.1<a.2.2.2.1\/a.2.2.2.1 < -1000000000\/1000000000<a.2.2.2.2.1
  .rw[ak c4]at h;cases h
  .exact .inr (.inl ⟨c2,by omega,by omega,by omega⟩)
 rw[au c2]at h
 by_cases c3:a.2.1=3
 .exact .inr (.inr c3)
 .rw[au c3]at h;cases h
theorem MR{a:DS0}(h:uy a=0):(jP a).1<=(jP a).2/\-1000000000<=(jP a).1/\(jP a).2<=1000000000:=by
 unfold jP
 rcases II h with⟨k,h1,h2,_⟩|⟨k,h1,h2,h3⟩|k
 .rw[ak k];dsimp only;omega
 .rw[au (by omega),ak k];exact⟨h1,h2,h3⟩
 .rw[au (by omega),au (by omega)];decide
theorem YO{a:DS0}(h:uy a=0):m76 a=some ((jP a).1,(jP a).2,()):=by
 refine T.eq ?_
 unfold m76 jP
 have hL:=aY a.2.2.1
 refine T.cnd (λc1=>?_) (λc1=>?_)<;>simp only[dF,dP]at c1
 .rcases II h with⟨k,h1,h2,_⟩|⟨k,_⟩|k
  .rw[ak c1,fE (by omega) (by omega),hL];exact T.ret rfl
  .omega
  .omega
 rw[au c1]
 refine T.cnd (λc2=>?_) (λc2=>?_)<;>simp only[dF,dP]at c2
 .rw[ak c2];exact T.ret rfl
 .rw[au c2];exact T.ret rfl
theorem GQ(l:List DS0)(i:Nat)(hi:i<l.length)(h:jM l=0):m42 (l,()) (i:Int)=some ((jP l[i]).1,(jP l[i]).2,()):=by
 refine T.eq ?_
 unfold m42
 have hL:=aY l
 obtain⟨v1,v2,v3⟩:=val_ok h
 have ha:=(v3 _ (aV hi)).2
 refine T.dz (PU (l,())) ?_
 dsimp only
 refine T.cf (by rw[fq,fq,gX,bg,gF];omega) ?_
 refine T.grd (by rw[bE];omega) ?_
 rw[wL l i _ hi]
 unfold jP
 have hL2:=aY (l[i]).2.2.1
 refine T.cnd (λc1=>?_) (λc1=>?_)<;>simp only[dF,dP]at c1
 .rcases II ha with⟨k,h1,h2,_⟩|⟨k,_⟩|k
  .rw[ak c1,fE (by omega) (by omega),hL2];exact T.ret rfl
  .omega
  .omega
 rw[au c1]
 refine T.cnd (λc2=>?_) (λc2=>?_)<;>simp only[dF,dP]at c2
 .rw[ak c2];exact T.ret rfl
 .rw[au c2];exact T.ret rfl
def inD(l:List DS0)(f:List Int)(i:Nat):Bool:=decide ((jP (l.getD i zA)).1<=f.getD i 0/\f.getD i 0<=(jP (l.getD i zA)).2)
def qJ(l:List DS0)(f:List Int):Bool:=decide (jM l=0)&&decide (f.length=l.length)&&(List.range l.length).all (inD l f)
theorem JG(n i:Nat)(p:Nat->Bool)(h:i<n)(hp:p i=false):(List.range n).all p=false:=by
 rcases q:(List.range n).all p with _|_
 .rfl
 .have:=aR.1 q i (bK.2 h);rw[hp]at this;cases this
theorem KG(a n:Int)(ha:-9223372036854775808<=a/\a<=9223372036854775807)(hn:0<n)(hn2:n<=4611686018427387904):T (m16 a n) (λy=>0<=y.1/\y.1<n):=by
 unfold m16
 refine T.grd (by rw[gJ];omega) (T.grd (by rw[gJ];omega) (T.ret ?_))
 have h1:xJ a n=a.tmod n:=rfl
 have h2:a.tmod n<n:=Int.tmod_lt_of_pos a hn
 have h3:-n<a.tmod n:=by have:=Int.lt_tmod_of_pos a hn;omega
 dsimp only
 rw[h1,bB (by omega) (by omega)]
 have h4:xJ (a.tmod n+n) n=(a.tmod n+n)%n:=a0T (by omega)
 rw[h4]
 exact⟨Int.emod_nonneg _ (by omega),Int.emod_lt_of_pos _ hn⟩
def sch:Nat->List DS0
 |0=>([((bs [112,101,114,105,108]),1,([(bs [102,105,114,101]),(bs [102,108,111,111,100]),(bs [119,105,110,100]),(bs [116,104,101,102,116])]:List ByteArray),0,0,()),((bs [115,116,111,114,101,121,115]),2,([]:List ByteArray),1,9,()),((bs [97,108,97,114,109]),3,([]:List ByteArray),0,0,())]:List DS0)
 |1=>([((bs [110]),2,([]:List ByteArray),(-5),20,())]:List DS0)
 |2=>([((bs [97]),3,([]:List ByteArray),0,0,()),((bs [114,111,108,101]),1,([(bs [99,114,101,119]),(bs [103,117,101,115,116])]:List ByteArray),0,0,()),((bs [98]),3,([]:List ByteArray),0,0,())]:List DS0)
 |3=>([((bs [110]),2,([]:List ByteArray),(-1000000000),1000000000,()),((bs [116]),3,([]:List ByteArray),0,0,())]:List DS0)
 |4=>([((bs [111,110,101]),1,([(bs [111,110,108,121])]:List ByteArray),0,0,()),((bs [112,101,114,105,108]),1,([(bs [102,105,114,101]),(bs [102,108,111,111,100]),(bs [119,105,110,100]),(bs [116,104,101,102,116])]:List ByteArray),0,0,()),((bs [110]),2,([]:List ByteArray),0,6,()),((bs [116]),3,([]:List ByteArray),0,0,())]:List DS0)
 |_=>([((bs [116]),3,([]:List ByteArray),0,0,())]:List DS0)
theorem a5H(k:Int)(hk:-9223372036854775808<=k/\k<=9223372036854775807):∃j:Nat,j<6/\m15 k=some ((sch j,()),()):=by
 obtain⟨⟨v,_⟩,h1,h2,h3⟩:=KG k 6 hk (by omega) (by omega)
 unfold m15
 rw[h1]
 dsimp only at h2 h3 ⊢
 refine⟨v.toNat,by omega,?_⟩
 have:v=0\/v=1\/v=2\/v=3\/v=4\/v=5:=by omega
 rcases this with rfl|rfl|rfl|rfl|rfl|rfl<;>rfl
theorem a0L:∀j:Nat,j<6->jM (sch j)=0:=by
 intro j hj
 match j,hj with
 |0,_=>exact(by kernel_rfl:jM (sch 0)=0)
 |1,_=>exact(by kernel_rfl:jM (sch 1)=0)
 |2,_=>exact(by kernel_rfl:jM (sch 2)=0)
 |3,_=>exact(by kernel_rfl:jM (sch 3)=0)
 |4,_=>exact(by kernel_rfl:jM (sch 4)=0)
 |5,_=>exact(by kernel_rfl:jM (sch 5)=0)
theorem OG(l:List DS0)(h:jM l=0){L:List Int}{a0:Int}(hd:oC L a0):T (m24 (l,()) L a0) (λy=>oC y.1 y.2.1/\qJ l y.2.2.1=true):=by
 unfold m24
 have hL:=aY l
 obtain⟨v1,v2,v3⟩:=val_ok h
 refine T.loop (λq=>∃(i:Nat) (K:List Int) (a:Int) (f:List Int),i<=l.length/\oC K a/\f.length=i/\(List.range i).all (inD l f)=true/\q=((i:Int),K,a,l,f,())) (λq=>l.length-q.1.toNat) ⟨0,L,a0,[],by omega,hd,rfl,rfl,rfl⟩ ?_
 rintro _ ⟨i,K,a,f,hi,hk,hf,hg,rfl⟩
 dsimp only
 refine T.cnd (λhc=>?_) (λhc=>?_)<;>simp only[bD,bg]at hc
 .have hlt:i<l.length:=by omega
  have hb:=MR (v3 _ (aV hlt)).2
  refine T.dz (GQ l i hlt h) ?_
  dsimp only
  have ed:∀v:Int,(jP l[i]).1<=v->v<=(jP l[i]).2->(List.range (i+1)).all (inD l (f++[v]))=true:=by
   intro v a1 a2
   refine aR.2 λj hj=>?_
   have hj:=bK.1 hj
   rcases aS j i with r|r
   .have:=aR.1 hg j (bK.2 r)
    unfold inD at this ⊢
    rw[aM (l:=f++[v]),aJ (by omega),<- aM]
    exact this
   .obtain rfl:j=i:=by omega
    unfold inD
    rw[dI,getD_eq l j zA hlt,aM,aL (by omega),hf,ou]
    exact⟨a1,a2⟩
  have add:∀(K':List Int) (a' v:Int),oC K' a'->(jP l[i]).1<=v->v<=(jP l[i]).2->T (cond (fits (List.length f+List.length ([v]:List Int)) 8) (some (Sum.inl (β:=List Int×Int×List Int×Unit) (bZ .i64 (i:Int) 1,K',a',l,f++[v],()))) none) (LQ (λq=>∃(i:Nat) (K:List Int) (a:Int) (f:List Int),i<=l.length/\oC K a/\f.length=i/\(List.range i).all (inD l f)=true/\q=((i:Int),K,a,l,f,())) (λq=>l.length-q.1.toNat) (l.length-(i:Int).toNat) (λy=>oC y.1 y.2.1/\qJ l y.2.2.1=true)):=by
   intro K' a' v k1 k2 k3
   refine T.grd (by rw[eO,aU];omega) (T.go ⟨i+1,K',a',f++[v],by omega,k1,by rw[aB,aU,hf],ed v k2 k3,?_⟩ ?_)
   .rw[bB (by omega) (by omega)];rfl
   .dsimp only;rw[bB (by omega) (by omega)];omega
  rw[fE (by omega) (by omega),bB (by omega) (by omega)]
  refine T.call (BK hk (by omega) (by omega)) (λy ⟨n1,n2,n3⟩=>?_)
  refine T.call (BK n1 (by omega) (by omega)) (λz ⟨z1,z2,z3⟩=>?_)
  refine T.cnd (λ_=>?_) (λ_=>?_)
  .exact add _ _ _ z1 (by omega) (by omega)
  refine T.cnd (λ_=>?_) (λ_=>?_)
  .exact add _ _ _ z1 (by omega) (by omega)
  refine T.cnd (λ_=>?_) (λ_=>?_)
  .refine T.call (BK z1 (by omega) (by omega)) (λu ⟨u1,u2,u3⟩=>?_)
   rw[fE (by omega) (by omega)]
   refine add _ _ _ u1 ?_ ?_
   .unfold qZ vI;omega
   .unfold qZ vI;omega
  .rw[bB (by omega) (by omega)]
   exact add _ _ _ z1 (by omega) (by omega)
 .obtain rfl:i=l.length:=by omega
  refine T.out ⟨hk,?_⟩
  dsimp only
  unfold qJ
  rw[fH h,fH hf,hg];rfl
def zS:DS3:=(0,0,())
def doms(l:List DS0):List DS3:=l.map λa=>((jP a).1,(jP a).2,())
theorem ru(l:List DS0):(doms l).length=l.length:=by simp[doms]
theorem xO(l:List DS0)(i:Nat)(h:i<l.length):(doms l).getD i zS=((jP l[i]).1,(jP l[i]).2,()):=by
 rw[getD_eq _ _ _ (by rw[ru];exact h)];simp[doms]
def iJ(dm:List DS3):Prop:=1<=dm.length/\dm.length<=6/\∀d∈dm,d.1<=d.2.1/\-1000000000<=d.1/\d.2.1<=1000000000
theorem rR{l:List DS0}(h:jM l=0):iJ (doms l):=by
 obtain⟨v1,v2,v3⟩:=val_ok h
 refine⟨by rw[ru];exact v1,by rw[ru];exact v2,λd hd=>?_⟩
 obtain⟨a,ha,rfl⟩:=dU.1 hd
 exact MR (v3 a ha).2
theorem iJ.at{dm:List DS3}(h:iJ dm){i:Nat}(hi:i<dm.length):(dm.getD i zS).1<=(dm.getD i zS).2.1/\-1000000000<=(dm.getD i zS).1/\(dm.getD i zS).2.1<=1000000000:=by
 rw[getD_eq _ _ _ hi];exact h.2.2 _ (aV hi)
theorem U9(l:List DS0)(i:Nat)(hi:i<l.length)(h:jM l=0):m39 (l,()) (i:Int)=some ((jP l[i]).1,(jP l[i]).2,()):=by
 have v:=val_ok h
 refine T.eq ?_
 unfold m39
 refine T.dz (Eb _) ?_
 have hL:=aY l
 dsimp only
 refine T.cf (by rw[fq,fq,gX,bg,gF];exact⟨⟨h,by omega⟩,by omega⟩) ?_
 refine T.grd (by rw[bE];omega) ?_
 rw[show atI l (i:Int) (ByteArray.empty,0,[],0,0,())=l[i] from wL l i _ hi]
 exact T.dz (YO (v.2.2 _ (aV hi)).2) (T.ret rfl)
theorem MQ(l:List DS0)(h:jM l=0):m50 (l,())=some (doms l,()):=by
 refine T.eq ?_
 unfold m50
 have v:=val_ok h
 have hL:=aY l
 refine T.grd (by rw[iD];dsimp only;omega) ?_
 refine T.loop (λq=>∃(i:Nat) (r:List DS3),i<=l.length/\r.length=l.length/\(∀j,j<i->r.getD j zS=(doms l).getD j zS)/\q=((l.length:Int),(i:Int),l,r,())) (λq=>l.length-q.2.1.toNat) ⟨0,List.replicate l.length zS,by omega,by simp,λj hj=>by omega,?_⟩ ?_
 .dsimp only
  rw[hL,bH,aY,bV]
  rfl
 rintro _ ⟨i,r,hi,hr,hg,rfl⟩
 dsimp only
 refine T.cnd (λhc=>?_) (λhc=>?_)<;>simp only[bD,bg]at hc
 .have hlt:i<l.length:=by omega
  refine T.dz (U9 l i hlt h) ?_
  have hr1:=aY r
  have hS:=aY (List.set r (i:Int).toNat ((jP l[i]).1,(List.getD r (i:Int).toNat (0,0,())).2.1,()))
  rw[bT]at hS
  refine T.grd (by rw[bE];omega) (T.grd (by rw[fM];omega) (T.grd (by rw[bE];dsimp only;omega) (T.grd (by rw[fM,bT];omega) ?_)))
  refine T.go ⟨i+1,_,by omega,?_,?_,by rw[bB (by omega) (by omega)];rfl⟩ (by dsimp only;rw[bB (by omega) (by omega)];omega)
  .simp[hr]
  .intro j hj
   rw[bH]
   have hjl:j<l.length:=by omega
   rw[xO l j hjl]
   by_cases e:j=i
   .subst e
    rw[getD_eq _ _ _ (by simp[hr];omega)]
    simp
    rw[aW (by omega)]
    rfl
   .have hx:=hg j (by omega)
    rw[xO l j hjl]at hx
    rw[aM,aD (by omega),aD (by omega),<- aM]
    exact hx
 .obtain rfl:i=l.length:=by omega
  refine T.out ?_
  congr 1
  apply jq (by rw[hr,ru])
  intro j h1 h2
  have:=hg j (by rw[<- hr];exact h1)
  rwa [getD_eq _ _ _ h1,getD_eq _ _ _ h2]at this
theorem G9(a b:List Int)(h:a.length<=9223372036854775807):m23 a b=some (decide (a=b),()):=by
 refine T.eq ?_
 unfold m23
 have hA:=aY a
 have hB:=aY b
 refine T.cnd (λhc=>?_) (λhc=>?_)<;>simp only[gJ,gX]at hc
 .refine T.ret ?_
  rw[iK (λe=>by subst e;exact hc rfl)]
 refine T.loop (λq=>∃i:Nat,i<=a.length/\(∀j,j<i->a.getD j 0=b.getD j 0)/\q=(a,b,(i:Int),())) (λq=>a.length-q.2.2.1.toNat) ⟨0,by omega,λj hj=>by omega,rfl⟩ ?_
 rintro _ ⟨i,hi,hg,rfl⟩
 dsimp only
 refine T.cnd (λhc=>?_) (λhc=>?_)<;>simp only[bD,bg]at hc
 .refine T.grd (by rw[bE];omega) (T.grd (by rw[bE];omega) (T.cnd (λhd=>?_) (λhd=>?_)))<;>simp only[gJ,gX,dW]at hd
  .exact T.out (by rw[iK (λe=>by subst e;exact hd rfl)])
  .refine T.go ⟨i+1,by omega,λj hj=>?_,by rw[bB (by omega) (by omega)];rfl⟩ (by dsimp only;rw[bB (by omega) (by omega)];omega)
   rcases aS j i with r|r
   .exact hg j r
   .obtain rfl:j=i:=by omega
    exact hd
 .refine T.out ?_
  rw[fH]
  apply jq (by omega)
  intro j h1 h2
  have:=hg j (by omega)
  rwa [getD_eq _ _ _ h1,getD_eq _ _ _ h2]at this
def jE(n:Nat)(r:Int):Prop:=-256<=r/\r<(n:Int)
instance (n:Nat) (r:Int):Decidable (jE n r):=inferInstanceAs (Decidable (_/\_))
theorem XG(x:DS2)(r:Int):m59 x r=some (decide (jE x.1.length r),()):=by
 unfold m59
 show some (cond (iLe (gP .i64 (-1) 255) r) (iLt r (aG x.1)) false,())=_
 rw[fE (by omega) (by omega),aY]
 have:cond (iLe (-1-255) r) (iLt r (x.1.length:Int)) false=decide (jE x.1.length r):=by
  rw[wU,dN,gD,bD,dI]
  unfold jE
  constructor<;>intro h<;>omega
 rw[this]
theorem XF(x:DS2)(r:Int):m56 x r=some (decide (jE x.1.length r),()):=by
 refine T.eq ?_
 unfold m56
 refine T.cnd (λhc=>?_) (λhc=>?_)<;>simp only[bD,bg]at hc<;>refine T.ret ?_<;>congr 1<;>rw[wU,dI]<;>unfold jE
 .rw[gD];omega
 .rw[bD,aY];omega
def mZ(dm:List DS3)(ns:List DS1)(x:DS1):Prop :=
 0<=x.1/\x.1<(dm.length:Int)/\0<x.2.1.length/\x.2.2.1.length=x.2.1.length+1/\
 (∀k,k<x.2.1.length->(dm.getD x.1.toNat zS).1<x.2.1.getD k 0/\x.2.1.getD k 0<=(dm.getD x.1.toNat zS).2.1/\(0<k->x.2.1.getD (k-1) 0<x.2.1.getD k 0))/\
 (∀k,k<x.2.2.1.length->jE ns.length (x.2.2.1.getD k 0)/\(0<k->x.2.2.1.getD k 0≠x.2.2.1.getD (k-1) 0)/\(0<=x.2.2.1.getD k 0->x.1<(ns.getD (x.2.2.1.getD k 0).toNat zN).1))
theorem La{cs:List Int}{lo hi:Int}(h:∀k,k<cs.length->lo<cs.getD k 0/\cs.getD k 0<=hi/\(0<k->cs.getD (k-1) 0<cs.getD k 0)):∀k,k<cs.length->lo+k+1<=cs.getD k 0:=by
 intro k
 induction k with
 |zero=>intro hk;have:=(h 0 hk).1;omega
 |succ k ih=>intro hk;have h1:=ih (by omega);have h2:=(h (k+1) hk).2.2 (by omega);rw[jg]at h2;omega
theorem mZ.len{dm:List DS3}{ns:List DS1}{x:DS1}(h:mZ dm ns x)(hd:iJ dm):x.2.1.length<=2000000000/\x.2.2.1.length<=2000000001:=by
 obtain⟨h1,h2,h3,h4,h5,_⟩:=h
 have hb:=hd.at (i:=x.1.toNat) (by omega)
 have:=La h5 (x.2.1.length-1) (by omega)
 have h6:=(h5 (x.2.1.length-1) (by omega)).2.1
 omega
theorem a0u{dm:List DS3}(hd:iJ dm)(ns:List DS1)(root:Int)(x:DS1)(h1:x.2.1.length<=9223372036854775807)(h2:x.2.2.1.length<=9223372036854775807)(hn:ns.length<=9223372036854775807):T (m60 (ns,root,()) x dm) (λy=>y.1=true↔mZ dm ns x):=by
 obtain⟨a,cs,nx,⟨⟩⟩:=x
 dsimp only at h1 h2
 unfold m60
 have hC:=aY cs
 have hX:=aY nx
 have hD:=aY dm
 have hd1:=hd.1
 have hd2:=hd.2.1
 dsimp only
 by_cases hmx:cs.length=9223372036854775807
 .refine T.ct ?_ (T.ret ⟨λh=>(by cases h),λh=>?_⟩)
  .have e1:bZ .i64 ((9223372036854775807:Nat):Int) 1=-9223372036854775808:=by decide
   rw[eX]
   right
   rw[gJ,hX,hC,hmx,e1];omega
  .have:=h.2.2.2.1
   dsimp only at this
   omega
 rw[hC,hX,hD,bB (by omega) (by omega)]
 refine T.cnd (λhc=>?_) (λhc=>?_)<;>simp only[eX,fq,bD,bg,gD,gF,dF,dP,gJ,gX]at hc
 .refine T.ret ⟨λh=>(by cases h),λh=>?_⟩
  obtain⟨k1,k2,k3,k4,_⟩:=h
  dsimp only at k1 k2 k3 k4
  omega
 obtain⟨⟨⟨c1,c2⟩,c3⟩,c4⟩:=hc
 refine T.grd (by rw[bE];omega) ?_
 refine T.loop (λq=>∃i:Nat,i<=cs.length/\(∀k,k<i->(dm.getD a.toNat zS).1<cs.getD k 0/\cs.getD k 0<=(dm.getD a.toNat zS).2.1/\(0<k->cs.getD (k-1) 0<cs.getD k 0))/\q=(dm,(if i=0 then(dm.getD a.toNat zS).1 else cs.getD (i-1) 0),cs,(cs.length:Int),(i:Int),ns,root,a,cs,nx,())) (λq=>cs.length-q.2.2.2.2.1.toNat) ⟨0,by omega,λk hk=>by omega,rfl⟩ ?_
 rintro _ ⟨i,hi,hg,rfl⟩
 dsimp only
 have eA:atI dm a (0,0,())=dm.getD a.toNat zS:=rfl
 rw[hC,hX,hD,eA,dW]
 refine T.cnd (λhc=>?_) (λhc=>?_)<;>simp only[bD,bg]at hc
 .have hlt:i<cs.length:=by omega
  refine T.grd (by rw[bE];omega) (T.grd (by rw[fG,bE];exact .inl ⟨by omega,by omega⟩) (T.cnd (λhc2=>?_) (λhc2=>?_)))<;>simp only[eX,fq,bD,bg,gD,gF]at hc2
  .refine T.out ⟨λh=>(by cases h),λh=>?_⟩
   have k5:=h.2.2.2.2.1 i hlt
   dsimp only at k5
   by_cases e:i=0
   .rw[ak e]at hc2;omega
   .rw[au e]at hc2;have:=k5.2.2 (by omega);omega
  .refine T.go ⟨i+1,by omega,λk hk=>?_,?_⟩ (by dsimp only;rw[bB (by omega) (by omega)];omega)
   .rcases aS k i with r|r
    .exact hg k r
    .obtain rfl:k=i:=by omega
     by_cases e:k=0
     .rw[ak e]at hc2;exact⟨by omega,by omega,λq=>by omega⟩
     .rw[au e]at hc2;have:=hg (k-1) (by omega);exact⟨by omega,by omega,λ_=>by omega⟩
   .rw[bB (by omega) (by omega),au (by omega),jg];rfl
 .obtain rfl:i=cs.length:=by omega
  refine T.pX ?_
  refine T.loop (λq=>∃j:Nat,j<=nx.length/\(∀k,k<j->jE ns.length (nx.getD k 0)/\(0<k->nx.getD k 0≠nx.getD (k-1) 0)/\(0<=nx.getD k 0->a<(ns.getD (nx.getD k 0).toNat zN).1))/\q=(nx,(nx.length:Int),(j:Int),ns,root,a,cs,nx,())) (λq=>nx.length-q.2.2.1.toNat) ⟨0,by omega,λk hk=>by omega,rfl⟩ ?_
  rintro _ ⟨j,hj,hgj,rfl⟩
  dsimp only
  have hN:=aY ns
  rw[hX,dW]
  refine T.cnd (λhc=>?_) (λhc=>?_)<;>simp only[bD,bg]at hc
  .have hlt:j<nx.length:=by omega
   refine T.grd (by rw[bE];omega) (T.dz (XG _ _) ?_)
   dsimp only
   refine T.cnd (λhc2=>?_) (λhc2=>?_)<;>simp only[dO,gW,dI,gG]at hc2
   .refine T.out ⟨λh=>(by cases h),λh=>?_⟩
    exact absurd (h.2.2.2.2.2 j hlt).1 hc2
   have hj1:0<j->(gP .i64 (j:Int) 1)=((j-1:Nat):Int):=λq=>by rw[fE (by omega) (by omega)];omega
   refine T.grd ?_ (T.cnd (λhc3=>?_) (λhc3=>?_))
   .rw[fG]
    by_cases q:0<j
    .left;rw[hj1 q,bE];omega
    .right;rw[dO,fC,bg];omega
   .rw[dN,bD,dF]at hc3
    rw[hj1 (by omega),dW]at hc3
    refine T.out ⟨λh=>(by cases h),λh=>?_⟩
    exact absurd hc3.2 ((h.2.2.2.2.2 j hlt).2.1 (by omega))
   refine T.grd ?_ (T.cnd (λhc4=>?_) (λhc4=>?_))
   .rw[fG]
    by_cases q:0<=nx.getD j 0
    .left;rw[bE,hN];exact⟨q,hc2.2⟩
    .right;rw[dO,fC,gF];omega
   .rw[dN,gD,gD]at hc4
    refine T.out ⟨λh=>(by cases h),λh=>?_⟩
    have:=(h.2.2.2.2.2 j hlt).2.2 hc4.1
    have h4:(ns.getD (nx.getD j 0).toNat zN).1<=a:=hc4.2
    dsimp only at this
    omega
   .refine T.go ⟨j+1,by omega,λk hk=>?_,by rw[bB (by omega) (by omega)];rfl⟩ (by dsimp only;rw[bB (by omega) (by omega)];omega)
    rcases aS k j with r|r
    .exact hgj k r
    .obtain rfl:k=j:=by omega
     refine⟨hc2,λq e=>?_,λq=>?_⟩
     .rw[dQ,bg,dP,hj1 q,dW]at hc3
      rcases hc3 with r|r
      .omega
      .exact r e
     .rw[dQ,gF,gF]at hc4
      rcases hc4 with r|r
      .omega
      .exact r
  .obtain rfl:j=nx.length:=by omega
   exact T.out ⟨λ_=>⟨by dsimp only;omega,by dsimp only;omega,by dsimp only;omega,by dsimp only;omega,hg,hgj⟩,λ_=>rfl⟩
theorem a0t{l:List DS0}(hv:jM l=0)(ns:List DS1)(root:Int)(x:DS1)(h1:x.2.1.length<=9223372036854775807)(h2:x.2.2.1.length<=9223372036854775807)(hn:ns.length<=9223372036854775807):T (m57 (l,()) (ns,root,()) x) (λy=>y.1=true↔mZ (doms l) ns x):=by
 obtain⟨a,cs,nx,⟨⟩⟩:=x
 dsimp only at h1 h2
 unfold m57
 have hC:=aY cs
 have hX:=aY nx
 have hL:=aY l
 have hd:=rR hv
 have hd1:=hd.1
 have hd2:=hd.2.1
 have hdl:=ru l
 dsimp only
 rw[hC,hX,hL,fE (by omega) (by omega)]
 refine T.cnd (λhc=>?_) (λhc=>?_)<;>simp only[eX,fq,bD,bg,gD,gF,dF,dP,gJ,gX]at hc
 .refine T.ret ⟨λh=>(by cases h),λh=>?_⟩
  obtain⟨k1,k2,k3,k4,_⟩:=h
  dsimp only at k1 k2 k3 k4
  omega
 obtain⟨⟨⟨c1,c2⟩,c3⟩,c4⟩:=hc
 have hal:a.toNat<l.length:=by omega
 have ea:a=(a.toNat:Int):=by omega
 have hdom:=xO l a.toNat hal
 refine T.dz (v:=((jP l[a.toNat]).1,(jP l[a.toNat]).2,())) (by have q:=GQ l a.toNat hal hv;rwa [<- ea]at q) ?_
 dsimp only
 have eL:(jP l[a.toNat]).1=((doms l).getD a.toNat zS).1:=by rw[hdom]
 have eH:(jP l[a.toNat]).2=((doms l).getD a.toNat zS).2.1:=by rw[hdom]
 rw[eL,eH]
 generalize doms l=dm at *
 refine T.loop (λq=>∃i:Nat,i<=cs.length/\(∀k,k<i->(dm.getD a.toNat zS).1<cs.getD k 0/\cs.getD k 0<=(dm.getD a.toNat zS).2.1/\(0<k->cs.getD (k-1) 0<cs.getD k 0))/\q=((dm.getD a.toNat zS).1,(dm.getD a.toNat zS).2.1,(i:Int),ns,root,a,cs,nx,())) (λq=>cs.length-q.2.2.1.toNat) ⟨0,by omega,λk hk=>by omega,rfl⟩ ?_
 rintro _ ⟨i,hi,hg,rfl⟩
 dsimp only
 rw[hC,dW]
 refine T.cnd (λhc=>?_) (λhc=>?_)<;>simp only[bD,bg]at hc
 .have hlt:i<cs.length:=by omega
  refine T.grd (by rw[bE];omega) (T.grd (by rw[fG,bE];exact .inl ⟨by omega,by omega⟩) (T.cnd (λhc2=>?_) (λhc2=>?_)))<;>simp only[eX,fq,bD,bg,gD,gF]at hc2
  .refine T.out ⟨λh=>(by cases h),λh=>?_⟩
   have k5:=h.2.2.2.2.1 i hlt
   dsimp only at k5
   omega
  have hj1:0<i->(gP .i64 (i:Int) 1)=((i-1:Nat):Int):=λq=>by rw[fE (by omega) (by omega)];omega
  refine T.grd (by rw[fG,bE];exact .inl ⟨by omega,by omega⟩) (T.grd ?_ (T.cnd (λhc3=>?_) (λhc3=>?_)))
  .rw[fG]
   by_cases q:0<i
   .left;rw[hj1 q,bE];omega
   .right;rw[dO,fC,bg];omega
  .rw[dN,bD,gD]at hc3
   rw[hj1 (by omega),dW]at hc3
   refine T.out ⟨λh=>(by cases h),λh=>?_⟩
   have k5:=(h.2.2.2.2.1 i hlt).2.2 (by omega)
   dsimp only at k5
   omega
  .refine T.go ⟨i+1,by omega,λk hk=>?_,by rw[bB (by omega) (by omega)];rfl⟩ (by dsimp only;rw[bB (by omega) (by omega)];omega)
   rcases aS k i with r|r
   .exact hg k r
   .obtain rfl:k=i:=by omega
    refine⟨by omega,by omega,λq=>?_⟩
    rw[dQ,bg,gF,hj1 q,dW]at hc3
    omega
 .obtain rfl:i=cs.length:=by omega
  refine T.pX ?_
  refine T.loop (λq=>∃j:Nat,j<=nx.length/\(∀k,k<j->jE ns.length (nx.getD k 0)/\(0<k->nx.getD k 0≠nx.getD (k-1) 0)/\(0<=nx.getD k 0->a<(ns.getD (nx.getD k 0).toNat zN).1))/\q=((j:Int),ns,root,a,cs,nx,())) (λq=>nx.length-q.1.toNat) ⟨0,by omega,λk hk=>by omega,rfl⟩ ?_
  rintro _ ⟨j,hj,hgj,rfl⟩
  dsimp only
  have hN:=aY ns
  rw[hX,dW]
  refine T.cnd (λhc=>?_) (λhc=>?_)<;>simp only[bD,bg]at hc
  .have hlt:j<nx.length:=by omega
   refine T.grd (by rw[bE];omega) (T.dz (XF _ _) ?_)
   dsimp only
   refine T.cnd (λhc2=>?_) (λhc2=>?_)<;>simp only[dO,gW,dI,gG]at hc2
   .refine T.out ⟨λh=>(by cases h),λh=>?_⟩
    exact absurd (h.2.2.2.2.2 j hlt).1 hc2
   have hj1:0<j->(gP .i64 (j:Int) 1)=((j-1:Nat):Int):=λq=>by rw[fE (by omega) (by omega)];omega
   refine T.grd ?_ (T.cnd (λhc3=>?_) (λhc3=>?_))
   .rw[fG]
    by_cases q:0<j
    .left;rw[hj1 q,bE];omega
    .right;rw[dO,fC,bg];omega
   .rw[dN,bD,dF]at hc3
    rw[hj1 (by omega),dW]at hc3
    refine T.out ⟨λh=>(by cases h),λh=>?_⟩
    exact absurd hc3.2 ((h.2.2.2.2.2 j hlt).2.1 (by omega))
   refine T.grd ?_ (T.cnd (λhc4=>?_) (λhc4=>?_))
   .rw[fG]
    by_cases q:0<=nx.getD j 0
    .left;rw[bE,hN];exact⟨q,hc2.2⟩
    .right;rw[dO,fC,gF];omega
   .rw[dN,gD,gD]at hc4
    refine T.out ⟨λh=>(by cases h),λh=>?_⟩
    have:=(h.2.2.2.2.2 j hlt).2.2 hc4.1
    have h4:(ns.getD (nx.getD j 0).toNat zN).1<=a:=hc4.2
    dsimp only at this
    omega
   .refine T.go ⟨j+1,by omega,λk hk=>?_,by rw[bB (by omega) (by omega)];rfl⟩ (by dsimp only;rw[bB (by omega) (by omega)];omega)
    rcases aS k j with r|r
    .exact hgj k r
    .obtain rfl:k=j:=by omega
     refine⟨hc2,λq e=>?_,λq=>?_⟩
     .rw[dQ,bg,dP,hj1 q,dW]at hc3
      rcases hc3 with r|r
      .omega
      .exact r e
     .rw[dQ,gF,gF]at hc4
      rcases hc4 with r|r
      .omega
      .exact r
  .obtain rfl:j=nx.length:=by omega
   exact T.out ⟨λ_=>⟨by dsimp only;omega,by dsimp only;omega,by dsimp only;omega,by dsimp only;omega,hg,hgj⟩,λ_=>rfl⟩
def rT(ns:List DS1)(rk:Nat->Nat):Prop:=∀r,r<ns.length->(kids ns r).length<=2000000001/\∀c∈kids ns r,c<(ns.length:Int)/\(0<=c->rk c.toNat<rk r)
def rkI(rk:Nat->Nat)(r:Int):Nat:=if r<0 then 0 else rk r.toNat+1
def ko(n:Nat)(ord:List Nat):Prop:=ord.Nodup/\∀x∈ord,x<n
theorem Jg:∀(n:Nat) (l:List Nat),l.Nodup->(∀x∈l,x<n)->l.length<=n:=by
 intro n
 induction n with
 |zero=>intro l _ h;cases l with
  |nil=>simp
  |cons x l=>exact absurd (h x (by simp)) (by omega)
 |succ n ih =>
  intro l hn h
  by_cases hm:n∈l
  ·have h1:=ih (l.erase n) (hn.erase n) (fun x hx=>by
    have:=(hn.mem_erase_iff).1 hx
    have:=h x this.2
    omega)
   rw[List.length_erase_of_mem hm]at h1
   omega
  ·have:=ih l hn (fun x hx=>by
    have:=h x hx
    have:x≠n:=λe=>hm (e▸hx)
    omega)
   omega
theorem ko.len{n:Nat}{ord:List Nat}(h:ko n ord):ord.length<=n:=Jg n ord h.1 h.2
theorem ko.snoc{n:Nat}{ord:List Nat}(h:ko n ord){r:Nat}(hr:r<n)(hm:r∉ord):ko n (ord++[r]):=by
 refine⟨?_,λx hx=>?_⟩
 .rw[nA]
  exact⟨h.1,by simp,λa ha b hb=>by simp at hb;subst hb;exact λe=>hm (e▸ha)⟩
 .rcases aX.1 hx with q|q
  .exact h.2 x q
  .simp at q;omega
section
variable{ns:List DS1}{rk:Nat->Nat}
theorem nS(f:Nat)(ord:List Nat){r:Int}(h:r<0):dL ns f ord r=ord:=by
 cases f with
 |zero=>rfl
 |succ f=>simp only[dL];rw[ak (.inl h)]
theorem vS(f:Nat)(ord:List Nat){r:Int}(h:r.toNat∈ord):dL ns f ord r=ord:=by
 cases f with
 |zero=>rfl
 |succ f=>simp only[dL];rw[ak (.inr h)]
theorem Du{f:Nat}{ord:List Nat}{r:Int}(hr:0<=r)(hm:r.toNat∉ord)(hf:rkI rk r<=f):∃f',f=f'+1/\rk r.toNat<=f'/\dL ns f ord r=(kids ns r.toNat).foldl (dL ns f') (ord++[r.toNat]):=by
 unfold rkI at hf
 rw[au (by omega)]at hf
 obtain⟨f',rfl⟩:∃f',f=f'+1:=⟨f-1,by omega⟩
 refine⟨f',rfl,by omega,?_⟩
 simp only[dL]
 rw[au (by rintro(q|q);omega;exact hm q)]
theorem Mx(hR:rT ns rk)(f:Nat)(hf:∀(c:Int) (ord:List Nat),c<(ns.length:Int)->ko ns.length ord->ko ns.length (dL ns f ord c)/\∃t,dL ns f ord c=ord++t):∀(cs:List Int),(∀c∈cs,c<(ns.length:Int))->∀ord,ko ns.length ord->ko ns.length (cs.foldl (dL ns f) ord)/\∃t,cs.foldl (dL ns f) ord=ord++t:=by
 intro cs
 induction cs with
 |nil=>intro _ ord h;exact⟨h,[],by simp⟩
 |cons c cs ih =>
  intro hc ord h
  obtain⟨h1,t1,e1⟩:=hf c ord (hc c (by simp)) h
  obtain⟨h2,t2,e2⟩:=ih (λx hx=>hc x (by simp[hx])) _ h1
  rw[dx]
  exact⟨h2,t1++t2,by rw[e2,e1,bq]⟩
theorem rP(hR:rT ns rk):∀(f:Nat) (c:Int) (ord:List Nat),c<(ns.length:Int)->ko ns.length ord->ko ns.length (dL ns f ord c)/\∃t,dL ns f ord c=ord++t:=by
 intro f
 induction f with
 |zero=>intro c ord _ h;exact⟨h,[],by simp[dL]⟩
 |succ f ih =>
  intro c ord hc h
  simp only[dL]
  split
  .exact⟨h,[],by simp⟩
  .rename_i q
   have h0:0<=c:=by rcases fu c 0 with r|r;exact absurd (.inl r) q;exact r
   obtain⟨h1,t,e⟩:=Mx hR f ih (kids ns c.toNat) (λx hx=>((hR c.toNat (by omega)).2 x hx).1) (ord++[c.toNat]) (h.snoc (by omega) (λr=>q (.inr r)))
   exact⟨h1,[c.toNat]++t,by rw[e,bq]⟩
theorem EA(hR:rT ns rk)(f:Nat)(cs:List Int)(hc:∀c∈cs,c<(ns.length:Int))(ord:List Nat)(h:ko ns.length ord):ko ns.length (cs.foldl (dL ns f) ord)/\∃t,cs.foldl (dL ns f) ord=ord++t:=Mx hR f (rP hR f) cs hc ord h
end
theorem Fh(n M:Nat)(h:M<=n):ko n (List.range M):=⟨List.nodup_range,λx hx=>by have:=bK.1 hx;omega⟩
def Off(ord:List Nat):Prop:=∃j,j<ord.length/\ord.getD j 0≠j
theorem Off.app{ord:List Nat}(h:Off ord)(t:List Nat):Off (ord++t):=by
 obtain⟨j,h1,h2⟩:=h
 refine⟨j,by rw[aB];omega,?_⟩
 rw[aM,aJ h1,<- aM]
 exact h2
theorem Off.ne{n:Nat}(h:Off (List.range n)):False:=by
 obtain⟨j,h1,h2⟩:=h
 rw[oW]at h1
 rw[aM,wX h1]at h2
 exact h2 rfl
theorem a1o(x:DS2×Int×Int×Unit):Mo λs=>Ih s x.1 x.2.1 x.2.2.1:=by
 unfold Ih;(repeat' (first|exact Mo.const _|exact Mo.self _|apply Mo.bind|apply Mo.cond|apply Mo.map|apply Mo.join|apply Mo.loop|(intro _)))
theorem a5O {ns:List DS1} {rk:Nat->Nat} (hR:rT ns rk) (hn:ns.length<=1000000) (root:Int) (r:Int) (met:Nat) (hr:r < (ns.length:Int)) (hmet:met<=ns.length) :
  T (m62 (ns,root,()) r (met:Int)) (λy=>∃M:Nat,y.1=(M:Int)/\(y.2.1=true->M<=ns.length/\∀f,rkI rk r<=f->dL ns f (List.range met) r=List.range M)/\(y.2.1=false->∀f,rkI rk r<=f->Off (dL ns f (List.range met) r))):=by
 unfold m62
 refine EB (ι:=Int×Nat) a1o (λg=>((ns,root,()),g.1,(g.2:Int),())) (λg=>g.1<(ns.length:Int)/\g.2<=ns.length)
  (λg y=>∃M:Nat,y.1=(M:Int)/\(y.2.1=true->M<=ns.length/\∀f,rkI rk g.1<=f->dL ns f (List.range g.2) g.1=List.range M)/\(y.2.1=false->∀f,rkI rk g.1<=f->Off (dL ns f (List.range g.2) g.1)))
  (λg=>rkI rk g.1) ?_ (r,met) ⟨hr,hmet⟩
 rintro⟨r,met⟩ ⟨hr,hmet⟩ s ih
 dsimp only at hr hmet ih ⊢
 unfold Ih
 have hN:=aY ns
 refine T.cnd (λhc=>?_) (λhc=>?_)<;>simp only[bD,bg]at hc
 .refine T.ret ⟨met,rfl,λ_=>⟨hmet,λf _=>?_⟩,λh=>(by cases h)⟩
  rcases fu r 0 with q|q
  .exact nS f _ q
  .exact vS f _ (bK.2 (by omega))
 refine T.cnd (λhc2=>?_) (λhc2=>?_)<;>simp only[bD,bg]at hc2
 .refine T.ret ⟨met,rfl,λh=>(by cases h),λ_ f hf=>?_⟩
  obtain⟨f',_,_,e⟩:=Du (ns:=ns) (ord:=List.range met) (by omega) (λq=>by have:=bK.1 q;omega) hf
  rw[e]
  have hk:=(hR r.toNat (by omega)).2
  obtain⟨_,t,e2⟩:=EA hR f' (kids ns r.toNat) (λc hc=>(hk c hc).1) (List.range met++[r.toNat]) ((Fh _ _ hmet).snoc (by omega) (λq=>by have:=bK.1 q;omega))
  rw[e2]
  refine Off.app ⟨met,by simp,?_⟩ t
  rw[aM,aL (by simp),oW,ou]
  simp
  omega
 obtain rfl:r=(met:Int):=by omega
 have hlt:met<ns.length:=by omega
 obtain⟨hkl,hk⟩:=hR met hlt
 have ek:(atI ns (met:Int) (0,[],[],())).2.2.1=kids ns met:=by rw[dW];rfl
 have hK:=aY (kids ns met)
 refine T.grd (by rw[bE];dsimp only;omega) ?_
 dsimp only
 rw[ek,hK,bB (by omega) (by omega)]
 have hro:ko ns.length (List.range met):=Fh _ _ hmet
 have en:met∉List.range met:=λq=>by have:=bK.1 q;omega
 have unf:∀f,rkI rk (met:Int)<=f->∃f',rk met<=f'/\dL ns f (List.range met) (met:Int)=(kids ns met).foldl (dL ns f') (List.range (met+1)):=λf hf=>by
  obtain⟨f',_,h2,h3⟩:=Du (ns:=ns) (rk:=rk) (ord:=List.range met) (r:=(met:Int)) (by omega) (by rw[bH];exact en) hf
  rw[bH]at h2 h3
  exact⟨f',h2,by rw[h3,ni]⟩
 refine T.loop (λq=>∃(i M:Nat),i<=(kids ns met).length/\M<=ns.length/\(∀f',rk met<=f'->((kids ns met).take i).foldl (dL ns f') (List.range (met+1))=List.range M)/\q=((M:Int),kids ns met,((kids ns met).length:Int),(i:Int),ns,root,())) (λq=>(kids ns met).length-q.2.2.2.1.toNat) ⟨0,met+1,by omega,by omega,λf' _=>by simp,rfl⟩ ?_
 rintro _ ⟨i,M,hi,hM,pI,rfl⟩
 dsimp only
 rw[hK,dW]
 refine T.cnd (λhc3=>?_) (λhc3=>?_)<;>simp only[bD,bg]at hc3
 .have hil:i<(kids ns met).length:=by omega
  have ec:=getD_eq (kids ns met) i 0 hil
  rw[ec]
  have hcm:=aV hil
  obtain⟨k1,k2⟩:=hk _ hcm
  have hrk:rkI rk (kids ns met)[i]<=rk met:=by
   unfold rkI
   split
   .omega
   .rename_i q;exact k2 (by omega)
  have hlt2:rkI rk (kids ns met)[i]<rkI rk (met:Int):=by
   have:rkI rk (met:Int)=rk met+1:=by unfold rkI;rw[au (by omega),bH]
   omega
  have etk:∀f',((kids ns met).take (i+1)).foldl (dL ns f') (List.range (met+1))=dL ns f' (((kids ns met).take i).foldl (dL ns f') (List.range (met+1))) (kids ns met)[i]:=λf'=>by
   rw[cK hil,jC];rfl
  refine T.grd (by rw[bE];omega) (T.call (ih ((kids ns met)[i],M) ⟨k1,hM⟩ hlt2) ?_)
  rintro⟨y1,y2,⟨⟩⟩ ⟨M',rfl,y3,y4⟩
  dsimp only at y3 y4 ⊢
  refine T.cnd (λhc4=>?_) (λhc4=>?_)<;>simp only[dO,gW]at hc4
  .refine T.out ⟨M',rfl,λh=>(by cases h),λ_ f hf=>?_⟩
   obtain⟨f',h1,h2⟩:=unf f hf
   rw[h2,<- oI (i+1) (kids ns met),jC,etk,pI f' h1]
   have ho:=(rP hR f' _ (List.range M) k1 (Fh _ _ hM)).1
   obtain⟨_,t,e⟩:=EA hR f' ((kids ns met).drop (i+1)) (λc hc=>(hk c (sI hc)).1) _ ho
   rw[e]
   exact(y4 hc4 f' (by omega)).app t
  .obtain⟨y5,y6⟩:=y3 hc4
   refine T.go ⟨i+1,M',by omega,y5,λf' h1=>?_,by rw[bB (by omega) (by omega)];rfl⟩ (by dsimp only;rw[bB (by omega) (by omega)];omega)
   rw[etk,pI f' h1]
   exact y6 f' (by omega)
 .obtain rfl:i=(kids ns met).length:=by omega
  refine T.out ⟨M,rfl,λ_=>⟨hM,λf hf=>?_⟩,λh=>(by cases h)⟩
  obtain⟨f',h1,h2⟩:=unf f hf
  rw[h2]
  have:=pI f' h1
  rwa [eY]at this
def fF(n:Nat)(ord:List Nat):List Int:=(List.range n).map λr=>if r∈ord then(ord.idxOf r:Int) else -1
def nQ(ns:List DS1)(ord:List Nat):List DS1:=ord.map λi=>ns.getD i zN
theorem iW(n:Nat)(ord:List Nat):(fF n ord).length=n:=by simp[fF]
theorem Cr(ns:List DS1)(ord:List Nat):(nQ ns ord).length=ord.length:=by simp[nQ]
theorem Aw(ns:List DS1)(ord:List Nat)(r:Nat):nQ ns (ord++[r])=nQ ns ord++[ns.getD r zN]:=by simp[nQ]
theorem pz{n:Nat}{ord:List Nat}{r:Nat}(h:r<n):(fF n ord).getD r 0=if r∈ord then(ord.idxOf r:Int) else -1:=by
 rw[getD_eq _ _ _ (by rw[iW];exact h)];simp[fF]
theorem xU{n:Nat}{ord:List Nat}{r:Nat}(hr:r<n)(hm:r∉ord):(fF n ord).set r (ord.length:Int)=fF n (ord++[r]):=by
 apply jq (by simp[fF])
 intro j h1 h2
 have hj:j<n:=by rw[iW]at h2;exact h2
 by_cases e:r=j
 .subst e
  rw[List.getElem_set_self]
  simp[fF,uL,hm]
 .rw[List.getElem_set_ne e]
  simp only[fF,kZ,uj,aX,bI]
  by_cases q:j∈ord
  .rw[ak q,ak (.inl q),uL,ak q]
  .rw[au q,au (by rintro(q'|q');exact q q';exact e q'.symm)]
theorem Gg(n:Nat):fF n []=List.replicate n (-1):=by
 apply jq (by simp[fF])
 intro j h1 h2
 simp[fF]
section
variable{ns:List DS1}{rk:Nat->Nat}
theorem Bl(hR:rT ns rk):∀(m f f':Nat) (c:Int) (ord:List Nat),rkI rk c<=m->m<=f->m<=f'->c<(ns.length:Int)->dL ns f ord c=dL ns f' ord c:=by
 intro m
 induction m with
 |zero =>
  intro f f' c ord h _ _ _
  have:c<0:=by unfold rkI at h;split at h;assumption;omega
  rw[nS f ord this,nS f' ord this]
 |succ m ih =>
  intro f f' c ord h h1 h2 hc
  rcases fu c 0 with q|q
  .rw[nS f ord q,nS f' ord q]
  by_cases hm:c.toNat∈ord
  .rw[vS f ord hm,vS f' ord hm]
  have hk:=(hR c.toNat (by omega)).2
  unfold rkI at h
  rw[au (by omega)]at h
  obtain⟨g,rfl⟩:∃g,f=g+1:=⟨f-1,by omega⟩
  obtain⟨g',rfl⟩:∃g',f'=g'+1:=⟨f'-1,by omega⟩
  simp only[dL]
  have hq:¬(c<0\/c.toNat∈ord):=by rintro(r|r);omega;exact hm r
  rw[au hq,au hq]
  have key:∀(cs:List Int),(∀x∈cs,x∈kids ns c.toNat)->∀o,cs.foldl (dL ns g) o=cs.foldl (dL ns g') o:=by
   intro cs
   induction cs with
   |nil=>intro _ o;rfl
   |cons x cs ih2 =>
    intro hx o
    obtain⟨k1,k2⟩:=hk x (hx x (by simp))
    rw[dx,dx,ih g g' x o (by unfold rkI;split;omega;rename_i q;have:=k2 (by omega);omega) (by omega) (by omega) k1]
    exact ih2 (λy hy=>hx y (by simp[hy])) _
  exact key _ (λ_ q=>q) _
theorem xV(hR:rT ns rk){F:Nat}(hF:∀r,r<ns.length->rk r+1<=F){r:Int}{ord:List Nat}(h0:0<=r)(hr:r<(ns.length:Int))(hm:r.toNat∉ord):dL ns F ord r=(kids ns r.toNat).foldl (dL ns F) (ord++[r.toNat]):=by
 have hf:=hF r.toNat (by omega)
 obtain⟨f',rfl,h2,e⟩:=Du (ns:=ns) (rk:=rk) (f:=F) h0 hm (by unfold rkI;rw[au (by omega)];exact hf)
 rw[e]
 have hk:=(hR r.toNat (by omega)).2
 have key:∀(cs:List Int),(∀x∈cs,x∈kids ns r.toNat)->∀o,cs.foldl (dL ns f') o=cs.foldl (dL ns (f'+1)) o:=by
  intro cs
  induction cs with
  |nil=>intro _ o;rfl
  |cons x cs ih2 =>
   intro hx o
   obtain⟨k1,k2⟩:=hk x (hx x (by simp))
   rw[dx,dx,Bl hR f' f' (f'+1) x o (by unfold rkI;split;omega;rename_i q;have:=k2 (by omega);omega) (by omega) (by omega) k1]
   exact ih2 (λy hy=>hx y (by simp[hy])) _
 exact key _ (λ_ q=>q) _
end
theorem Tn(x:Int×(List DS1)×(List DS1)×(List Int)×Unit):Mo λs=>BM s x.1 x.2.1 x.2.2.1 x.2.2.2.1:=by
 unfold BM;(repeat' (first|exact Mo.const _|exact Mo.self _|apply Mo.bind|apply Mo.cond|apply Mo.map|apply Mo.join|apply Mo.loop|(intro _)))
theorem a3O {ns:List DS1} {rk:Nat->Nat} (hR:rT ns rk) (hn:ns.length<=1000000) {F:Nat} (hF:∀ r,r < ns.length->rk r + 1<=F) (r:Int) (ord:List Nat) (hr:r < (ns.length:Int)) (ho:ko ns.length ord) :
  T (K9 r ns (nQ ns ord) (fF ns.length ord)) (λy=>y=(ns,nQ ns (dL ns F ord r),fF ns.length (dL ns F ord r),())):=by
 unfold K9
 refine EB (ι:=Int×List Nat) Tn (λg=>(g.1,ns,nQ ns g.2,fF ns.length g.2,())) (λg=>g.1<(ns.length:Int)/\ko ns.length g.2)
  (λg y=>y=(ns,nQ ns (dL ns F g.2 g.1),fF ns.length (dL ns F g.2 g.1),())) (λg=>rkI rk g.1) ?_ (r,ord) ⟨hr,ho⟩
 rintro⟨r,ord⟩ ⟨hr,ho⟩ s ih
 dsimp only at hr ho ih ⊢
 unfold BM
 have hN:=aY ns
 have hP:=aY (fF ns.length ord)
 have hPl:=iW ns.length ord
 have hO:=ho.len
 rcases fu r 0 with h0|h0
 .refine T.grd (by rw[fG,dO,iR,bD];exact .inr h0) (T.grd (by rw[fG,dO,iR,bD];exact .inr h0) (T.ct (by rw[eX,bD];exact .inl h0) (T.ret ?_)))
  rw[nS F ord h0]
 have hrt:r.toNat<ns.length:=by omega
 refine T.grd (by rw[fG,bE];left;omega) (T.grd (by rw[fG,fM];left;omega) (T.cnd (λhc=>?_) (λhc=>?_)))
 .rw[eX,bD,gD,pz hrt]at hc
  have hin:r.toNat∈ord:=by
   rcases hc with q|q
   .omega
   .split at q
    .assumption
    .omega
  refine T.ret ?_
  rw[vS F ord hin]
 rw[fq,bg,gF,pz hrt]at hc
 have hni:r.toNat∉ord:=λq=>by
  rw[ak q]at hc
  omega
 obtain⟨hkl,hk⟩:=hR r.toNat hrt
 have hun:=xV hR hF h0 hr hni
 have hso:=ho.snoc hrt hni
 have hOl:=Cr ns ord
 have hlO:=aY (nQ ns ord)
 have hrI:bnd r (aG ns)=true:=by rw[bE];omega
 refine T.grd (by rw[bE];omega) (T.grd (by rw[fM];omega) (T.grd hrI (T.grd (by rw[eO,aU];omega) ?_)))
 have eN:atI ns r (0,[],[],())=ns.getD r.toNat zN:=rfl
 have eK:(ns.getD r.toNat zN).2.2.1=kids ns r.toNat:=rfl
 have e1:List.set (fF ns.length ord) r.toNat (aG (nQ ns ord))=fF ns.length (ord++[r.toNat]):=by rw[hlO,hOl,xU hrt hni]
 rw[eN,<- Aw,e1]
 have hK:=aY (kids ns r.toNat)
 refine T.loop (λq=>∃(i:Nat) (o:List Nat),i<=(kids ns r.toNat).length/\ko ns.length o/\((kids ns r.toNat).take i).foldl (dL ns F) (ord++[r.toNat])=o/\q=(r,(i:Int),ns,nQ ns o,fF ns.length o,())) (λq=>(kids ns r.toNat).length-q.2.1.toNat) ⟨0,_,by omega,hso,rfl,rfl⟩ ?_
 rintro _ ⟨i,o,hi,hoo,pI,rfl⟩
 dsimp only
 rw[eN,eK,hK,dW]
 refine T.grd hrI (T.cnd (λhc3=>?_) (λhc3=>?_))<;>simp only[bD,bg]at hc3
 .have hil:i<(kids ns r.toNat).length:=by omega
  have ec:=getD_eq (kids ns r.toNat) i 0 hil
  rw[ec]
  obtain⟨k1,k2⟩:=hk _ (aV hil)
  have hlt2:rkI rk (kids ns r.toNat)[i]<rkI rk r:=by
   unfold rkI
   rw[au (show ¬r<0 by omega)]
   split
   .omega
   .rename_i q;have:=k2 (by omega);omega
  refine T.grd hrI (T.grd (by rw[bE];omega) (T.call (ih ((kids ns r.toNat)[i],o) ⟨k1,hoo⟩ hlt2) ?_))
  rintro _ rfl
  dsimp only
  refine T.grd (by rw[iM];exact⟨by rw[iW,iW];exact jS _,rfl⟩) (T.go ⟨i+1,_,by omega,(rP hR F _ o k1 hoo).1,?_,by rw[bB (by omega) (by omega)];rfl⟩ (by dsimp only;rw[bB (by omega) (by omega)];omega))
  rw[cK hil,jC,pI];rfl
 .obtain rfl:i=(kids ns r.toNat).length:=by omega
  refine T.out ?_
  rw[eY]at pI
  rw[hun,pI]
theorem a3N {ns:List DS1} {rk:Nat->Nat} (hR:rT ns rk) (hn:ns.length<=1000000) {F:Nat} (hF:∀ r,r < ns.length->rk r + 1<=F) (r:Int) (hr:r < (ns.length:Int)) :
  T (Gs r ns (fF ns.length [])) (λy=>y=(ns,fF ns.length (dL ns F [] r),nQ ns (dL ns F [] r),())):=by
 have ho:ko ns.length []:=⟨lu,λx hx=>by cases hx⟩
 unfold Gs
 have hN:=aY ns
 have hP:=aY (fF ns.length [])
 have hPl:=iW ns.length []
 rcases fu r 0 with h0|h0
 .refine T.grd (by rw[fG,dO,iR,bD];exact .inr h0) (T.grd (by rw[fG,dO,iR,bD];exact .inr h0) (T.ct (by rw[eX,bD];exact .inl h0) (T.ret ?_)))
  rw[nS F [] h0];rfl
 have hrt:r.toNat<ns.length:=by omega
 refine T.grd (by rw[fG,bE];left;omega) (T.grd (by rw[fG,fM];left;omega) (T.cf ?_ ?_))
 .rw[fq,bg,gF,pz hrt]
  exact⟨h0,by simp⟩
 have hni:r.toNat∉([]:List Nat):=λq=>by cases q
 obtain⟨hkl,hk⟩:=hR r.toNat hrt
 have hun:=xV hR hF h0 hr hni
 have hso:=ho.snoc hrt hni
 have hrI:bnd r (aG ns)=true:=by rw[bE];omega
 refine T.grd (by rw[bE];omega) (T.grd (by rw[fM];omega) (T.grd hrI (T.grd (by rw[eO,aU];omega) ?_)))
 have eN:atI ns r (0,[],[],())=ns.getD r.toNat zN:=rfl
 have eK:(ns.getD r.toNat zN).2.2.1=kids ns r.toNat:=rfl
 have e1:List.set (fF ns.length []) r.toNat 0=fF ns.length ([]++[r.toNat]):=by rw[<- xU hrt hni];rfl
 have e2:([ns.getD r.toNat zN]:List DS1)=nQ ns ([]++[r.toNat]):=by rw[Aw];rfl
 rw[eN,e2,e1]
 have hK:=aY (kids ns r.toNat)
 refine T.loop (λq=>∃(i:Nat) (o:List Nat),i<=(kids ns r.toNat).length/\ko ns.length o/\((kids ns r.toNat).take i).foldl (dL ns F) ([]++[r.toNat])=o/\q=(r,(i:Int),ns,fF ns.length o,nQ ns o,())) (λq=>(kids ns r.toNat).length-q.2.1.toNat) ⟨0,_,by omega,hso,rfl,rfl⟩ ?_
 rintro _ ⟨i,o,hi,hoo,pI,rfl⟩
 dsimp only
 rw[eN,eK,hK,dW]
 refine T.grd hrI (T.cnd (λhc3=>?_) (λhc3=>?_))<;>simp only[bD,bg]at hc3
 .have hil:i<(kids ns r.toNat).length:=by omega
  have ec:=getD_eq (kids ns r.toNat) i 0 hil
  rw[ec]
  obtain⟨k1,k2⟩:=hk _ (aV hil)
  refine T.grd hrI (T.grd (by rw[bE];omega) (T.call (a3O hR hn hF (kids ns r.toNat)[i] o k1 hoo) ?_))
  rintro _ rfl
  dsimp only
  refine T.grd (by rw[iM];exact⟨by rw[iW,iW];exact jS _,rfl⟩) (T.go ⟨i+1,_,by omega,(rP hR F _ o k1 hoo).1,?_,by rw[bB (by omega) (by omega)];rfl⟩ (by dsimp only;rw[bB (by omega) (by omega)];omega))
  rw[cK hil,jC,pI];rfl
 .obtain rfl:i=(kids ns r.toNat).length:=by omega
  refine T.out ?_
  rw[eY]at pI
  rw[hun,pI]
def vDg(l:List UInt8):Nat:=l.foldl (λa c=>a*10+(c.toNat-48)) 0
theorem UY(l:List UInt8)(c:UInt8):vDg (l++[c])=vDg l*10+(c.toNat-48):=by unfold vDg;rw[jC];rfl
theorem dg8{k:Nat}(h:k<10):(UInt8.ofNat (48+k)).toNat=48+k:=by rw[UInt8.toNat_ofNat'];omega
theorem Ec(u:Nat):vDg (Lib.decDigits u)=u:=by
 induction u using Nat.strongRecOn with
 |_ u ih =>
  rw[Lib.decDigits]
  split
  .rename_i h
   show 0*10+((UInt8.ofNat (48+u)).toNat-48)=u
   rw[dg8 h];omega
  .rename_i h
   rw[UY,ih (u/10) (by omega),dg8 (by omega)];omega
theorem FI(u:Nat):∀b∈Lib.decDigits u,48<=b.toNat/\b.toNat<=57:=by
 induction u using Nat.strongRecOn with
 |_ u ih =>
  rw[Lib.decDigits]
  split
  .rename_i h
   intro b hb
   obtain rfl:=bI.1 hb
   rw[dg8 h];omega
  .rename_i h
   intro b hb
   rcases aX.1 hb with q|q
   .exact ih (u/10) (by omega) b q
   .obtain rfl:=bI.1 q
    rw[dg8 (by omega)];omega
theorem AB(n:Int):∀b∈Lib.itoa n,b≠44/\b≠59:=by
 have key:∀b:UInt8,(48<=b.toNat/\b.toNat<=57)->b≠44/\b≠59:=λb h=>⟨λe=>by subst e;simp at h,λe=>by subst e;simp at h⟩
 intro b hb
 unfold Lib.itoa at hb
 split at hb
 .rcases bU.1 hb with rfl|q
  .decide
  .exact key b (FI _ b q)
 .exact key b (FI _ b hb)
theorem Me{a b:Int}(h:Lib.itoa a=Lib.itoa b):a=b:=by
 have ne:∀u,Lib.decDigits u≠[]:=λu e=>by
  have:(Lib.decDigits u).length=0:=by rw[e];rfl
  rw[Lib.decDigits]at this
  split at this<;>simp at this
 have hd:∀(u:Nat) (t:List UInt8),Lib.decDigits u≠45::t:=λu t e=>by
  have:=(FI u 45 (by rw[e];simp)).1
  simp at this
 unfold Lib.itoa at h
 split at h<;>split at h
 .have h2:=(mg h).2
  have:=kM vDg h2
  rw[Ec,Ec]at this
  omega
 .exact absurd h.symm (hd _ _)
 .exact absurd h (hd _ _)
 .have:=kM vDg h
  rw[Ec,Ec]at this
  omega
def Sep(y:List UInt8):Prop:=y=[]\/∃t,y=44::t\/y=59::t
theorem J4:∀(x x' y y':List UInt8),(∀b∈x,b≠44/\b≠59)->(∀b∈x',b≠44/\b≠59)->Sep y->Sep y'->x++y=x'++y'->x=x'/\y=y':=by
 intro x
 induction x with
 |nil =>
  intro x' y y' _ h' hy hy' e
  cases x' with
  |nil=>exact⟨rfl,e⟩
  |cons b x' =>
   obtain⟨h1,h2⟩:=h' b (by simp)
   have e:y=b::(x'++y'):=e
   rcases hy with rfl|⟨t,rfl|rfl⟩
   .cases e
   .exact absurd (mg e).1.symm h1
   .exact absurd (mg e).1.symm h2
 |cons a x ih =>
  intro x' y y' h h' hy hy' e
  cases x' with
  |nil =>
   obtain⟨h1,h2⟩:=h a (by simp)
   have e:a::(x++y)=y':=e
   rcases hy' with rfl|⟨t,rfl|rfl⟩
   .cases e
   .exact absurd (mg e).1 h1
   .exact absurd (mg e).1 h2
  |cons b x' =>
   have e:a::(x++y)=b::(x'++y'):=e
   obtain⟨e1,e2⟩:=mg e
   obtain⟨r1,r2⟩:=ih x' y y' (λc hc=>h c (by simp[hc])) (λc hc=>h' c (by simp[hc])) hy hy' e2
   exact⟨by rw[e1,r1],r2⟩
def pL(cs:List Int):List UInt8:=cs.flatMap λc=>44::Lib.itoa c
theorem Ej(c:Int)(cs:List Int):pL (c::cs)=44::(Lib.itoa c++pL cs):=by simp[pL]
def RF(t:List UInt8):Prop:=t=[]\/∃u,t=59::u
theorem Gh(cs:List Int){t:List UInt8}(h:RF t):Sep (pL cs++t):=by
 cases cs with
 |nil=>rcases h with rfl|⟨u,rfl⟩;exact .inl rfl;exact .inr ⟨u,.inr rfl⟩
 |cons c cs=>rw[Ej];exact .inr ⟨_,.inl rfl⟩
theorem SK:∀(cs cs':List Int) (t t':List UInt8),RF t->RF t'->pL cs++t=pL cs'++t'->cs=cs'/\t=t':=by
 have bad:∀{c:Int} {cs:List Int} {t t':List UInt8},RF t'->pL (c::cs)++t=t'->False:=by
  intro c cs t t' h e
  rw[Ej]at e
  rcases h with rfl|⟨u,rfl⟩
  .cases e
  .have:=(mg e).1;revert this;decide
 intro cs
 induction cs with
 |nil =>
  intro cs' t t' h h' e
  cases cs' with
  |nil=>exact⟨rfl,e⟩
  |cons c cs'=>exact(bad h e.symm).elim
 |cons c cs ih =>
  intro cs' t t' h h' e
  cases cs' with
  |nil=>exact(bad h' e).elim
  |cons c' cs' =>
   rw[Ej,Ej]at e
   have e:(Lib.itoa c++pL cs)++t=(Lib.itoa c'++pL cs')++t':=(mg e).2
   rw[bq,bq]at e
   obtain⟨e1,e2⟩:=J4 _ _ _ _ (AB c) (AB c') (Gh cs h) (Gh cs' h') e
   obtain⟨r1,r2⟩:=ih cs' t t' h h' e2
   exact⟨by rw[Me e1,r1],r2⟩
theorem Oo(a:Int)(cs ns:List Int):xE a cs ns=Lib.itoa a++(pL cs++59::(pL ns++[])):=by unfold xE pL;rw[bS,bq]
theorem Wx{a a':Int}{cs cs' ns ns':List Int}(h:xE a cs ns=xE a' cs' ns'):a=a'/\cs=cs'/\ns=ns':=by
 rw[Oo,Oo]at h
 obtain⟨e1,e2⟩:=J4 _ _ _ _ (AB a) (AB a') (Gh cs (.inr ⟨_,rfl⟩)) (Gh cs' (.inr ⟨_,rfl⟩)) h
 obtain⟨e3,e4⟩:=SK _ _ _ _ (.inr ⟨_,rfl⟩) (.inr ⟨_,rfl⟩) e2
 obtain⟨e5,_⟩:=SK _ _ _ _ (.inl rfl) (.inl rfl) (mg e4).2
 exact⟨Me e1,e3,e5⟩
def vH(x:DS1):ByteArray:=⟨(xE x.1 x.2.1 x.2.2.1).toArray⟩
theorem Fx{x y:DS1}(h:vH x=vH y):x=y:=by
 obtain⟨a,cs,ns,⟨⟩⟩:=x
 obtain⟨a',cs',ns',⟨⟩⟩:=y
 have h1:=ByteArray.mk.inj h
 have h2:(xE a cs ns).toArray.toList=(xE a' cs' ns').toArray.toList:=kM Array.toList h1
 have h2:xE a cs ns=xE a' cs' ns':=h2
 obtain⟨rfl,rfl,rfl⟩:=Wx h2
 rfl
def VD(dm:List DS3)(ns:List DS1)(root:Int):Prop :=
 ns.length<=1000/\jE ns.length root/\(∀i,i<ns.length->mZ dm ns (ns.getD i zN))/\(∀i,i<ns.length->∀k,k<i->ns.getD k zN≠ns.getD i zN)/\dL ns 8 [] root=List.range ns.length
def SzN(ns:List DS1):Prop:=ns.length<=9223372036854775807/\∀x∈ns,x.2.1.length<=9223372036854775807/\x.2.2.1.length<=9223372036854775807
theorem SzN.at{ns:List DS1}(h:SzN ns){i:Nat}(hi:i<ns.length):(ns.getD i zN).2.1.length<=9223372036854775807/\(ns.getD i zN).2.2.1.length<=9223372036854775807:=by
 rw[getD_eq _ _ _ hi];exact h.2 _ (aV hi)
theorem YB{dm:List DS3}{ns:List DS1}{x:DS1}(hd:iJ dm)(hn:ns.length<=1000)(h:mZ dm ns x):Fu x.1 x.2.1 x.2.2.1=some (vH x,()):=by
 obtain⟨l1,l2⟩:=h.len hd
 obtain⟨h1,h2,h3,h4,h5,h6⟩:=h
 have d2:=hd.2.1
 have hb:=hd.at (i:=x.1.toNat) (by omega)
 unfold Fu
 rw[ak]
 .rfl
 .refine⟨?_,?_,?_,by omega⟩
  .unfold Bq;rw[dI];omega
  .refine aR.2 λc hc=>?_
   obtain⟨k,hk,rfl⟩:=iI hc
   have:=h5 k hk
   rw[getD_eq _ _ _ hk]at this
   unfold Bq;rw[dI];omega
  .refine aR.2 λc hc=>?_
   obtain⟨k,hk,rfl⟩:=iI hc
   have:=(h6 k hk).1
   rw[getD_eq _ _ _ hk]at this
   unfold jE at this
   unfold Bq;rw[dI];omega
def rkA(ns:List DS1)(r:Nat):Nat:=(6-(ns.getD r zN).1).toNat
theorem nM{dm:List DS3}{ns:List DS1}(hd:iJ dm)(h:∀i,i<ns.length->mZ dm ns (ns.getD i zN)):rT ns (rkA ns)/\∀r,r<ns.length->rkA ns r+1<=8:=by
 have d2:=hd.2.1
 refine⟨λr hr=>⟨((h r hr).len hd).2,λc hc=>?_⟩,λr hr=>?_⟩
 .obtain⟨k,hk,rfl⟩:=iI hc
  have h6:=(h r hr).2.2.2.2.2 k hk
  have e:(ns.getD r zN).2.2.1.getD k 0=(kids ns r)[k]:=getD_eq (kids ns r) k 0 hk
  rw[e]at h6
  refine⟨h6.1.2,λh0=>?_⟩
  have hc':(kids ns r)[k].toNat<ns.length:=by have:=h6.1.2;omega
  have h7:=h6.2.2 h0
  have h8:=(h _ hc').2.1
  unfold rkA
  omega
 .have:=(h r hr).1
  unfold rkA;omega
theorem TB(g:Nat->ByteArray)(k:ByteArray):∀(L:List Nat),(nH sEq k (L.map λx=>(g x,true,()))=some true/\∃x∈L,k=g x)\/(nH sEq k (L.map λx=>(g x,true,()))=none/\∀x∈L,k≠g x):=by
 intro L
 induction L with
 |nil=>exact .inr ⟨rfl,λx hx=>by cases hx⟩
 |cons x L ih =>
  simp only[dw,nH]
  cases q:sEq k (g x) with
  |true=>exact .inl ⟨rfl,x,by simp,by rwa [Gb]at q⟩
  |false =>
   rw[Gc]at q
   rcases ih with⟨h1,y,h2,h3⟩|⟨h1,h2⟩
   .exact .inl ⟨h1,y,by simp[h2],h3⟩
   .exact .inr ⟨h1,λy hy=>by rcases bU.1 hy with rfl|hy;exact q;exact h2 y hy⟩
theorem LV{α β:Type}{eq:α->α->Bool}(k:α)(v:β):∀(es:List (α×β×Unit)),(∀e∈es,eq k e.1=false)->qx eq k v es=es++[(k,v,())]:=by
 intro es
 induction es with
 |nil=>intro _;rfl
 |cons e es ih=>intro h;simp only[qx];rw[h e (by simp),ih (λx hx=>h x (by simp[hx]))];rfl
theorem DN(l:List DS0)(ns:List DS1)(root:Int)(hz:SzN ns):T (m31 (l,()) (ns,root,())) (λy=>y.1=true↔jM l=0/\VD (doms l) ns root):=by
 unfold m31
 refine T.dz (Eb _) ?_
 dsimp only
 have hN:=aY ns
 rw[hN]
 refine T.cnd (λhc=>?_) (λhc=>?_)<;>simp only[eX,fq,gJ,gX,bD,bg]at hc
 .refine T.ret ⟨λh=>(by cases h),λh=>?_⟩
  have h1:=h.1
  have h2:=h.2.1
  omega
 obtain⟨hv,hn⟩:=hc
 have hd:=rR hv
 refine T.dz (XG _ _) ?_
 dsimp only
 refine T.cnd (λhc=>?_) (λhc=>?_)<;>simp only[dO,gW,dI,gG]at hc
 .exact T.ret ⟨λh=>(by cases h),λh=>absurd h.2.2.1 hc⟩
 refine T.dz (MQ l hv) ?_
 dsimp only
 generalize doms l=dm at hd ⊢
 refine T.loop (λq=>∃i:Nat,i<=ns.length/\(∀k,k<i->mZ dm ns (ns.getD k zN))/\(∀k,k<i->∀j,j<k->ns.getD j zN≠ns.getD k zN)/\q=(dm,ns,(ns.length:Int),(i:Int),ns,root,(List.range i).map (λk=>(vH (ns.getD k zN),true,())),())) (λq=>ns.length-q.2.2.2.1.toNat) ⟨0,by omega,λk hk=>by omega,λk hk=>by omega,rfl⟩ ?_
 rintro _ ⟨i,hi,hs,hne,rfl⟩
 dsimp only
 have eN:atI ns (i:Int) (0,[],[],())=ns.getD i zN:=by rw[dW];rfl
 rw[eN,hN]
 refine T.cnd (λhc2=>?_) (λhc2=>?_)<;>simp only[bD,bg]at hc2
 .have hlt:i<ns.length:=by omega
  obtain⟨z1,z2⟩:=hz.at hlt
  refine T.grd (by rw[bE];omega) (T.call (a0u hd ns root (ns.getD i zN) z1 z2 hz.1) ?_)
  rintro⟨y,⟨⟩⟩ hy
  dsimp only at hy ⊢
  refine T.cnd (λhc3=>?_) (λhc3=>?_)<;>simp only[dO,gW]at hc3
  .refine T.out ⟨λh=>(by cases h),λh=>?_⟩
   rw[hy.2 (h.2.2.2.1 i hlt)]at hc3
   cases hc3
  have hsi:=hy.1 hc3
  refine T.dz (YB hd (by omega) hsi) ?_
  dsimp only
  unfold pE
  rcases TB (λk=>vH (ns.getD k zN)) (vH (ns.getD i zN)) (List.range i) with⟨h1,x,h2,h3⟩|⟨h1,h2⟩
  .rw[h1]
   refine T.ct rfl (T.out ⟨λh=>(by cases h),λh=>?_⟩)
   exact absurd (Fx h3).symm (h.2.2.2.2.1 i hlt x (bK.1 h2))
  .rw[h1]
   refine T.cf rfl (T.go ⟨i+1,by omega,λk hk=>?_,λk hk j hj=>?_,?_⟩ (by dsimp only;rw[bB (by omega) (by omega)];omega))
   .rcases aS k i with r|r
    .exact hs k r
    .obtain rfl:k=i:=by omega
     exact hsi
   .rcases aS k i with r|r
    .exact hne k r j hj
    .obtain rfl:k=i:=by omega
     intro e
     exact h2 j (bK.2 hj) (kM vH e.symm)
   .rw[bB (by omega) (by omega),LV _ _ _ (λe he=>?_),ni,dS]
    .rfl
    .obtain⟨k,hk,rfl⟩:=dU.1 he
     rw[Gc];exact h2 k hk
 .obtain rfl:i=ns.length:=by omega
  refine T.pX ?_
  obtain⟨hR,hF⟩:=nM hd hs
  refine T.call (a5O hR (by omega) root root 0 hc.2 (by omega)) ?_
  rintro⟨y1,y2,⟨⟩⟩ ⟨M,e1,h1,h2⟩
  dsimp only at e1 h1 h2 ⊢
  subst e1
  have hf8:rkI (rkA ns) root<=8:=by
   unfold rkI
   split
   .omega
   .exact hF _ (by have:=hc.2;omega)
  refine T.ret ?_
  dsimp only
  rw[dN,dF]
  refine⟨fun⟨q1,q2⟩=>⟨hv,by omega,hc,hs,hne,?_⟩,λh=>?_⟩
  .have:=(h1 q1).2 8 hf8
   rw[show List.range 0=([]:List Nat) from rfl]at this
   rw[this,show M=ns.length by omega]
  .have h5:=h.2.2.2.2.2
   cases q:y2 with
   |false =>
    have:=h2 q 8 hf8
    rw[show List.range 0=([]:List Nat) from rfl,h5]at this
    exact this.ne.elim
   |true =>
    have:=(h1 q).2 8 hf8
    rw[show List.range 0=([]:List Nat) from rfl,h5]at this
    have:=kM List.length this
    rw[oW,oW]at this
    exact⟨rfl,by omega⟩
theorem SI{n:Nat}{ord:List Nat}(h:ko n ord):(∀i,i<n->(fF n ord).getD i 0=(i:Int))↔ord=List.range n:=by
 constructor
 .intro hp
  have key:∀i,i<n->i∈ord/\ord.idxOf i=i:=λi hi=>by
   have:=hp i hi
   rw[pz hi]at this
   split at this
   .rename_i q;exact⟨q,by omega⟩
   .omega
  have hl:ord.length=n:=by
   have h1:=h.len
   rcases eT n with q|q
   .omega
   .obtain⟨k1,k2⟩:=key (n-1) (by omega)
    have:=iT k1
    omega
  apply jq (by rw[hl,oW])
  intro j h1 h2
  rw[uj]
  obtain⟨k1,k2⟩:=key j (by omega)
  have:=oz (iT k1)
  simp only[k2]at this
  exact this
 .rintro rfl i hi
  rw[pz hi,ak (bK.2 hi)]
  have hl:=iT (bK.2 hi:i∈List.range n)
  have:=oz hl
  rw[uj]at this
  omega
theorem a4T(l:List DS0)(ns:List DS1)(root:Int)(hz:SzN ns):T (m30 (l,()) (ns,root,())) (λy=>y.1=true↔jM l=0/\VD (doms l) ns root):=by
 unfold m30
 refine T.dz (PU _) ?_
 dsimp only
 have hN:=aY ns
 rw[hN]
 refine T.cnd (λhc=>?_) (λhc=>?_)<;>simp only[eX,fq,gJ,gX,bD,bg]at hc
 .refine T.ret ⟨λh=>(by cases h),λh=>?_⟩
  have h1:=h.1
  have h2:=h.2.1
  omega
 obtain⟨hv,hn⟩:=hc
 have hd:=rR hv
 refine T.dz (XF _ _) ?_
 dsimp only
 refine T.cnd (λhc=>?_) (λhc=>?_)<;>simp only[dO,gW,dI,gG]at hc
 .exact T.ret ⟨λh=>(by cases h),λh=>absurd h.2.2.1 hc⟩
 refine T.loop (λq=>∃i:Nat,i<=ns.length/\(∀k,k<i->mZ (doms l) ns (ns.getD k zN))/\(∀k,k<i->∀j,j<k->ns.getD j zN≠ns.getD k zN)/\q=((i:Int),l,ns,root,())) (λq=>ns.length-q.1.toNat) ⟨0,by omega,λk hk=>by omega,λk hk=>by omega,rfl⟩ ?_
 rintro _ ⟨i,hi,hs,hne,rfl⟩
 dsimp only
 have eN:∀i:Nat,atI ns (i:Int) (0,[],[],())=ns.getD i zN:=λi=>by rw[dW];rfl
 rw[eN,hN]
 refine T.cnd (λhc2=>?_) (λhc2=>?_)<;>simp only[bD,bg]at hc2
 .have hlt:i<ns.length:=by omega
  obtain⟨z1,z2⟩:=hz.at hlt
  refine T.grd (by rw[bE];omega) (T.call (a0t hv ns root (ns.getD i zN) z1 z2 hz.1) ?_)
  rintro⟨y,⟨⟩⟩ hy
  dsimp only at hy ⊢
  refine T.cnd (λhc3=>?_) (λhc3=>?_)<;>simp only[dO,gW]at hc3
  .refine T.out ⟨λh=>(by cases h),λh=>?_⟩
   rw[hy.2 (h.2.2.2.1 i hlt)]at hc3
   cases hc3
  have hsi:=hy.1 hc3
  refine T.loop (λq=>∃k:Nat,k<=i/\(∀j,j<k->ns.getD j zN≠ns.getD i zN)/\q=((i:Int),(k:Int),l,ns,root,(ns.getD i zN).1,(ns.getD i zN).2.1,(ns.getD i zN).2.2.1,())) (λq=>i-q.2.1.toNat) ⟨0,by omega,λj hj=>by omega,rfl⟩ ?_
  rintro _ ⟨k,hk,hnk,rfl⟩
  dsimp only
  rw[eN,hN]
  refine T.cnd (λhc4=>?_) (λhc4=>?_)<;>simp only[bD,bg]at hc4
  .have hkl:k<ns.length:=by omega
   obtain⟨w1,w2⟩:=hz.at hkl
   have next:ns.getD k zN ≠ ns.getD i zN->T (some (Sum.inl (β:=(Int × (List DS0) × (List DS1) × Int × Unit) ⊕ (Bool × Unit)) ((i:Int),bZ .i64 (k:Int) 1,l,ns,root,(ns.getD i zN).1,(ns.getD i zN).2.1,(ns.getD i zN).2.2.1,()))) (LQ (fun q=>∃ k:Nat,k<=i/\(∀ j,j < k->ns.getD j zN ≠ ns.getD i zN)/\q=((i:Int),(k:Int),l,ns,root,(ns.getD i zN).1,(ns.getD i zN).2.1,(ns.getD i zN).2.2.1,())) (fun q=>i - q.2.1.toNat) (i - (k:Int).toNat)
     (LQ (λq=>∃i:Nat,i<=ns.length/\(∀k,k<i->mZ (doms l) ns (ns.getD k zN))/\(∀k,k<i->∀j,j<k->ns.getD j zN≠ns.getD k zN)/\q=((i:Int),l,ns,root,())) (λq=>ns.length-q.1.toNat) (ns.length-(i:Int).toNat) (λy=>y.1=true↔jM l=0/\VD (doms l) ns root))):=by
    intro hx
    refine T.go ⟨k+1,by omega,λj hj=>?_,by rw[bB (by omega) (by omega)];rfl⟩ (by dsimp only;rw[bB (by omega) (by omega)];omega)
    rcases aS j k with r|r
    .exact hnk j r
    .obtain rfl:j=k:=by omega
     exact hx
   refine T.grd (by rw[bE];omega) (T.cnd (λhc5=>?_) (λhc5=>?_))<;>simp only[dF,dP]at hc5
   .refine T.dz (G9 _ _ w1) ?_
    dsimp only
    refine T.cnd (λhc6=>?_) (λhc6=>?_)<;>simp only[dI,gG]at hc6
    .refine T.dz (G9 _ _ w2) ?_
     dsimp only
     refine T.cnd (λhc7=>?_) (λhc7=>?_)<;>simp only[dI,gG]at hc7
     .refine T.out (show LQ _ _ _ _ (Sum.inr (false,())) from⟨λh=>(by cases h),λh=>?_⟩)
      refine absurd ?_ (h.2.2.2.2.1 i hlt k (by omega))
      exact sG hc5 (sG hc6 (sG hc7 rfl))
     .exact next λe=>hc7 (by rw[e])
    .exact next λe=>hc6 (by rw[e])
   .exact next λe=>hc5 (by rw[e])
  .obtain rfl:k=i:=by omega
   refine T.out (show LQ _ _ _ _ (Sum.inl _) from⟨⟨k+1,by omega,λj hj=>?_,λj hj t ht=>?_,by rw[bB (by omega) (by omega)];rfl⟩,by dsimp only;rw[bB (by omega) (by omega)];omega⟩)
   .rcases aS j k with r|r
    .exact hs j r
    .obtain rfl:j=k:=by omega
     exact hsi
   .rcases aS j k with r|r
    .exact hne j r t ht
    .obtain rfl:j=k:=by omega
     exact hnk t ht
 .obtain rfl:i=ns.length:=by omega
  refine T.pX ?_
  obtain⟨hR,hF⟩:=nM hd hs
  refine T.grd (by rw[iD];omega) ?_
  rw[bH]
  refine T.loop (λq=>∃(i:Nat) (p:List Int),i<=ns.length/\p.length=ns.length/\(∀j,j<i->p.getD j 0=-1)/\q=((i:Int),ns,root,ns,p,())) (λq=>ns.length-q.1.toNat) ⟨0,_,by omega,by simp,λj hj=>by omega,rfl⟩ ?_
  rintro _ ⟨i,p,hi,hp,hpg,rfl⟩
  dsimp only
  have hpI:=aY p
  refine T.cnd (λhc2=>?_) (λhc2=>?_)<;>simp only[bD,bg]at hc2
  .refine T.grd (by rw[bE];omega) (T.grd (by rw[fM];omega) (T.go ⟨i+1,p.set i (-1),by omega,by rw[bT];exact hp,λj hj=>?_,by rw[bB (by omega) (by omega)];rfl⟩ (by dsimp only;rw[bB (by omega) (by omega)];omega)))
   rw[aM]
   by_cases e:i=j
   .subst e
    rw[aW (by omega)];rfl
   .rw[aD e,<- aM]
    exact hpg j (by omega)
  .obtain rfl:i=ns.length:=by omega
   obtain rfl:p=fF ns.length []:=by
    rw[Gg]
    apply jq (by simp[hp])
    intro j h1 h2
    have:=hpg j (by omega)
    rw[getD_eq _ _ _ h1]at this
    rw[this];simp
   refine T.pX ?_
   refine T.call (a3N hR (by omega) hF root hc.2) ?_
   rintro _ rfl
   dsimp only
   have ho:=(rP hR 8 root [] hc.2 ⟨lu,λx hx=>by cases hx⟩).1
   generalize ho':dL ns 8 [] root=ord at ho
   have hpl:=iW ns.length ord
   have hpi:=aY (fF ns.length ord)
   refine T.grd (by rw[iM];exact⟨by rw[iW,iW];exact jS _,rfl⟩) ?_
   have fin:(∀i,i<ns.length->(fF ns.length ord).getD i 0=(i:Int))↔(jM l=0/\VD (doms l) ns root):=by
    rw[SI ho]
    exact⟨λe=>⟨hv,by omega,hc,hs,hne,by rw[ho',e]⟩,λh=>by rw[<- ho'];exact h.2.2.2.2.2⟩
   refine T.loop (λq=>∃i:Nat,i<=ns.length/\(∀j,j<i->(fF ns.length ord).getD j 0=(j:Int))/\q=((i:Int),fF ns.length ord,())) (λq=>ns.length-q.1.toNat) ⟨0,by omega,λj hj=>by omega,rfl⟩ ?_
   rintro _ ⟨i,hi,hg,rfl⟩
   dsimp only
   rw[bH]
   refine T.cnd (λhc2=>?_) (λhc2=>?_)<;>simp only[bD,bg]at hc2
   .refine T.grd (by rw[bE];omega) (T.grd (by rw[fM];omega) (T.cnd (λhc3=>?_) (λhc3=>?_)))<;>simp only[gJ,gX]at hc3
    .exact T.out ⟨λh=>(by cases h),λh=>absurd (fin.2 h i (by omega)) hc3⟩
    .refine T.go ⟨i+1,by omega,λj hj=>?_,by rw[bB (by omega) (by omega)];rfl⟩ (by dsimp only;rw[bB (by omega) (by omega)];omega)
     rcases aS j i with r|r
     .exact hg j r
     .obtain rfl:j=i:=by omega
      exact hc3
   .obtain rfl:i=ns.length:=by omega
    exact T.out ⟨λ_=>fin.1 hg,λ_=>rfl⟩
def sat(n:Int):Int:=min n 17592186044416
theorem NT{x w:Int}(hx:0<=x)(hw:0<=w):sat (sat x*w)=sat (x*w):=by
 unfold sat
 rcases Int.le_total x 17592186044416 with h|h
 .rw[AY h]
 .rw[vO h]
  rcases fu 0 w with q|q
  .have h1:17592186044416*1<=17592186044416*w:=Int.mul_le_mul_of_nonneg_left (by omega) (by omega)
   have h2:17592186044416*w<=x*w:=Int.mul_le_mul_of_nonneg_right h hw
   rw[vO (by omega),vO (by omega)]
  .obtain rfl:w=0:=by omega
   simp
theorem a0M{x y:Int}(hx:0<=x)(hy:0<=y):sat (sat x+sat y)=sat (x+y):=by unfold sat;omega
theorem G8{x:Int}(hx:0<=x):0<=sat x/\sat x<=17592186044416:=by unfold sat;omega
theorem KX{x:Int}:sat x=0↔x=0:=by unfold sat;omega
theorem NQ{a b:Int}(ha:0<=a/\a<=17592186044416)(hb:0<=b/\b<=4611686018427387904):m82 a b=some (sat (a*b),()):=by
 refine T.eq ?_
 unfold m82
 refine T.grd ?_ (T.cnd (λhc=>?_) (λhc=>?_))
 .rw[fG,gJ,dO,fC,bg];omega
 .rw[dN,bD,bD]at hc
  have hq:yN .i64 17592186044416 a=17592186044416/a:=by
   unfold yN
   rw[oO (by omega),wrap64]
   .have:=Int.ediv_nonneg (show(0:Int)<=17592186044416 by omega) ha.1;omega
   .have:=Int.ediv_le_self a (show(0:Int)<=17592186044416 by omega);omega
  rw[hq]at hc
  refine T.ret ?_
  have h1:17592186044416<a*b:=by
   have:=(Int.ediv_lt_iff_lt_mul hc.1).1 hc.2
   rw[Ak]at this;exact this
  unfold sat
  rw[vO (by omega)]
 .rw[dQ,bg,bg]at hc
  have h1:a*b<=17592186044416:=by
   rcases fu 0 a with q|q
   ·have hq:yN .i64 17592186044416 a=17592186044416 / a:=by
     unfold yN
     rw[oO (by omega),wrap64]
     .have:=Int.ediv_nonneg (show(0:Int)<=17592186044416 by omega) ha.1;omega
     .have:=Int.ediv_le_self a (show(0:Int)<=17592186044416 by omega);omega
    rw[hq]at hc
    rcases hc with r|r
    .omega
    .have:=(Int.le_ediv_iff_mul_le q).1 r
     rw[Ak]at this;exact this
   .obtain rfl:a=0:=by omega
    simp
  have h0:0<=a*b:=pW ha.1 hb.1
  refine T.ret ?_
  rw[jV (by omega) (by omega)]
  unfold sat
  rw[AY h1]
def wid(d:DS3):Int:=d.2.1-d.1+1
def yY(dm:List DS3)(a b:Nat):Int:=((dm.take b).drop a).foldl (λp d=>p*wid d) 1
theorem MB(l:List DS3):∀p:Int,l.foldl (λp d=>p*wid d) p=p*l.foldl (λp d=>p*wid d) 1:=by
 induction l with
 |nil=>intro p;simp
 |cons d l ih=>intro p;rw[dx,dx,ih,ih (1*wid d),BA,Int.mul_assoc]
theorem KH{dm:List DS3}(hd:iJ dm){d:DS3}(h:d∈dm):1<=wid d/\wid d<=2000000001:=by
 have:=hd.2.2 d h;unfold wid;omega
theorem Ja{dm:List DS3}(hd:iJ dm)(a b:Nat):1<=yY dm a b:=by
 have key:∀l:List DS3,(∀d∈l,d∈dm)->1<=l.foldl (λp d=>p*wid d) 1:=by
  intro l
  induction l with
  |nil=>intro _;simp
  |cons d l ih =>
   intro h
   rw[dx,MB,BA]
   have h1:=(KH hd (h d (by simp))).1
   have h2:=ih (λx hx=>h x (by simp[hx]))
   have:1*1<=wid d*l.foldl (λp d=>p*wid d) 1:=Int.mul_le_mul h1 h2 (by omega) (by omega)
   omega
 exact key _ λd h=>nk (sI h)
theorem Mw {dm:List DS3} (hd:iJ dm) {n:Int} (hn:0<=n) (a b:Nat) (hab:a<=b) (hb:b<=dm.length) (ns:List DS1) (leaf:Int) (me:List DS3) :
  m81 (sat n) (a:Int) (b:Int) ns dm leaf me=some (sat (n*yY dm a b),ns,dm,leaf,me,()):=by
 refine T.eq ?_
 unfold m81
 refine T.grd (by rw[iO];omega) ?_
 have eC:vJ (a:Int) (b:Int) dm=(dm.take b).drop a:=by unfold vJ;rw[bH,bH]
 rw[eC]
 generalize hl:(dm.take b).drop a=l
 have hll:l.length<=6:=by
  have:=hd.2.1
  rw[<- hl,bX,bL];omega
 have hmem:∀d∈l,d∈dm:=λd h=>by rw[<- hl]at h;exact nk (sI h)
 have hL:=aY l
 rw[hL]
 have fin:yY dm a b=l.foldl (λp d=>p*wid d) 1:=by unfold yY;rw[hl]
 have pos:∀k,0<=(l.take k).foldl (λp d=>p*wid d) 1:=by
  intro k
  have key:∀l':List DS3,(∀d∈l',d∈dm)->0<=l'.foldl (λp d=>p*wid d) 1:=by
   intro l'
   induction l' with
   |nil=>intro _;simp
   |cons d l' ih =>
    intro h
    rw[dx,MB,BA]
    exact pW (by have:=(KH hd (h d (by simp))).1;omega) (ih (λx hx=>h x (by simp[hx])))
  exact key _ λd h=>hmem d (nk h)
 refine T.loop (λq=>∃k:Nat,k<=l.length/\q=(sat (n*(l.take k).foldl (λp d=>p*wid d) 1),l,(l.length:Int),(k:Int),ns,dm,leaf,me,())) (λq=>l.length-q.2.2.2.1.toNat) ⟨0,by omega,by simp⟩ ?_
 rintro _ ⟨k,hk,rfl⟩
 dsimp only
 rw[hL]
 have eA:atI l (k:Int) (0,0,())=l.getD k zS:=by rw[dW];rfl
 rw[eA]
 refine T.cnd (λhc=>?_) (λhc=>?_)<;>simp only[bD,bg]at hc
 .have hkl:k<l.length:=by omega
  have hw:=KH hd (hmem _ (aV hkl))
  have hb3:=hd.2.2 _ (hmem _ (aV hkl))
  rw[getD_eq _ _ _ hkl]
  refine T.grd (by rw[bE];omega) ?_
  rw[fE (by omega) (by omega),bB (by omega) (by omega)]
  have h0:=pW hn (pos k)
  refine T.dz (NQ (G8 h0) ⟨by unfold wid at hw;omega,by unfold wid at hw;omega⟩) ?_
  dsimp only
  refine T.go ⟨k+1,by omega,?_⟩ (by dsimp only;rw[bB (by omega) (by omega)];omega)
  rw[bB (by omega) (by omega),cK hkl,jC]
  have:l[k].2.1-l[k].1+1=wid l[k]:=rfl
  rw[this,NT h0 (by omega),Int.mul_assoc]
  rfl
 .obtain rfl:k=l.length:=by omega
  refine T.out ?_
  rw[eY,fin]
def hiK(dm:List DS3)(x:DS1)(k:Nat):Int:=if k<x.2.1.length then x.2.1.getD k 0 else(dm.getD x.1.toNat zS).2.1+1
def loK(dm:List DS3)(x:DS1)(k:Nat):Int:=if k=0 then(dm.getD x.1.toNat zS).1 else hiK dm x (k-1)
def rH(g:Nat->Int):Nat->Int
 |0=>0
 |k+1=>rH g k+g k
def kE(dm:List DS3)(ns:List DS1)(leaf:Int):Nat->Int->Nat->Int
 |0,_,_=>0
 | f + 1,r,a=>if r < 0 then (if -1 - r=leaf then yY dm a dm.length else 0) else
   rH (λk=>kE dm ns leaf f ((kids ns r.toNat).getD k 0) ((ns.getD r.toNat zN).1.toNat+1)*(hiK dm (ns.getD r.toNat zN) k-loK dm (ns.getD r.toNat zN) k)) (kids ns r.toNat).length*yY dm a (ns.getD r.toNat zN).1.toNat
def zO(dm:List DS3)(ns:List DS1)(leaf:Int)(f:Nat)(r:Nat):Int :=
 rH (λk=>kE dm ns leaf f ((kids ns r).getD k 0) ((ns.getD r zN).1.toNat+1)*(hiK dm (ns.getD r zN) k-loK dm (ns.getD r zN) k)) (kids ns r).length
theorem yj(dm:List DS3)(ns:List DS1)(leaf:Int)(f:Nat){r:Int}(h:0<=r)(a:Nat):kE dm ns leaf (f+1) r a=zO dm ns leaf f r.toNat*yY dm a (ns.getD r.toNat zN).1.toNat:=by
 simp only[kE,zO];rw[au (by omega)]
theorem vW(dm:List DS3)(ns:List DS1)(leaf:Int)(f:Nat){r:Int}(h:r<0)(a:Nat):kE dm ns leaf (f+1) r a=if -1-r=leaf then yY dm a dm.length else 0:=by
 simp only[kE];rw[ak h]
theorem PW{g g':Nat->Int}:∀n,(∀k,k<n->g k=g' k)->rH g n=rH g' n:=by
 intro n
 induction n with
 |zero=>intro _;rfl
 |succ n ih=>intro h;simp only[rH];rw[ih (λk hk=>h k (by omega)),h n (by omega)]
theorem NR{g:Nat->Int}:∀n,(∀k,k<n->0<=g k)->0<=rH g n:=by
 intro n
 induction n with
 |zero=>intro _;simp[rH]
 |succ n ih=>intro h;simp only[rH];have:=ih (λk hk=>h k (by omega));have:=h n (by omega);omega
def iU(dm:List DS3)(ns:List DS1):Prop:=∀i,i<ns.length->mZ dm ns (ns.getD i zN)
section
variable{dm:List DS3}{ns:List DS1}{leaf:Int}
theorem iU.wid(hs:iU dm ns){r:Nat}(hr:r<ns.length){k:Nat}(hk:k<(kids ns r).length)(hd:iJ dm):1<=hiK dm (ns.getD r zN) k-loK dm (ns.getD r zN) k/\-1000000000<=loK dm (ns.getD r zN) k/\hiK dm (ns.getD r zN) k<=1000000001:=by
 obtain⟨h1,h2,h3,h4,h5,h6⟩:=hs r hr
 have hb:=hd.at (i:=(ns.getD r zN).1.toNat) (by omega)
 have hk':k<(ns.getD r zN).2.1.length+1:=by rw[<- h4];exact hk
 have e1:¬k=0->hiK dm (ns.getD r zN) (k-1)=(ns.getD r zN).2.1.getD (k-1) 0:=λq=>by unfold hiK;rw[ak (by omega)]
 unfold loK
 split
 .unfold hiK
  split
  .have:=h5 k (by omega);omega
  .omega
 .rename_i q
  rw[e1 q]
  unfold hiK
  split
  .have:=h5 k (by omega);have:=h5 (k-1) (by omega);have:=(h5 k (by omega)).2.2 (by omega);omega
  .have:=h5 (k-1) (by omega);omega
theorem OO(hd:iJ dm)(hs:iU dm ns):∀(f:Nat) (r:Int) (a:Nat),r<(ns.length:Int)->0<=kE dm ns leaf f r a:=by
 intro f
 induction f with
 |zero=>intro r a _;simp[kE]
 |succ f ih =>
  intro r a hr
  rcases fu r 0 with h|h
  .rw[vW _ _ _ _ h]
   split
   .have:=Ja hd a dm.length;omega
   .omega
  .rw[yj _ _ _ _ h]
   refine pW ?_ (by have:=Ja hd a (ns.getD r.toNat zN).1.toNat;omega)
   refine NR _ λk hk=>pW (ih _ _ ?_) (by have:=hs.wid (show r.toNat<ns.length by omega) hk hd;omega)
   rw[getD_eq _ _ _ hk]
   exact((nM hd hs).1 r.toNat (by omega)).2 _ (aV hk) |>.1
theorem NP(hd:iJ dm)(hs:iU dm ns)(f:Nat){r:Nat}(hr:r<ns.length)(n:Nat)(hn:n<=(kids ns r).length):0<=rH (λk=>kE dm ns leaf f ((kids ns r).getD k 0) ((ns.getD r zN).1.toNat+1)*(hiK dm (ns.getD r zN) k-loK dm (ns.getD r zN) k)) n:=by
 refine NR _ λk hk=>pW (OO hd hs _ _ _ ?_) (by have:=hs.wid hr (show k<(kids ns r).length by omega) hd;omega)
 rw[getD_eq _ _ _ (by omega)]
 exact((nM hd hs).1 r hr).2 _ (aV (by omega)) |>.1
theorem Ny(hd:iJ dm)(hs:iU dm ns):∀(m f f':Nat) (r:Int) (a:Nat),rkI (rkA ns) r<=m->m+1<=f->m+1<=f'->r<(ns.length:Int)->kE dm ns leaf f r a=kE dm ns leaf f' r a:=by
 intro m
 induction m with
 |zero =>
  intro f f' r a h h1 h2 hr
  have hneg:r<0:=by unfold rkI at h;split at h;assumption;omega
  obtain⟨g,rfl⟩:∃g,f=g+1:=⟨f-1,by omega⟩
  obtain⟨g',rfl⟩:∃g',f'=g'+1:=⟨f'-1,by omega⟩
  rw[vW _ _ _ _ hneg,vW _ _ _ _ hneg]
 |succ m ih =>
  intro f f' r a h h1 h2 hr
  obtain⟨g,rfl⟩:∃g,f=g+1:=⟨f-1,by omega⟩
  obtain⟨g',rfl⟩:∃g',f'=g'+1:=⟨f'-1,by omega⟩
  rcases fu r 0 with q|q
  .rw[vW _ _ _ _ q,vW _ _ _ _ q]
  .rw[yj _ _ _ _ q,yj _ _ _ _ q]
   congr 1
   refine PW _ λk hk=>?_
   have hk2:=((nM hd hs).1 r.toNat (by omega)).2 _ (aV hk)
   rw[getD_eq _ _ _ hk]
   rw[ih g g' _ _ ?_ (by omega) (by omega) hk2.1]
   unfold rkI at h ⊢
   rw[au (by omega)]at h
   split
   .omega
   .rename_i q2;have:=hk2.2 (by omega);omega
theorem MU(hd:iJ dm)(hs:iU dm ns){r:Nat}(hr:r<ns.length){k:Nat}(hk:k<(kids ns r).length)(a:Nat):kE dm ns leaf 8 ((kids ns r).getD k 0) a=kE dm ns leaf 9 ((kids ns r).getD k 0) a:=by
 have hk2:=((nM hd hs).1 r hr).2 _ (aV hk)
 rw[getD_eq _ _ _ hk]
 refine Ny hd hs 7 8 9 _ _ ?_ (by omega) (by omega) hk2.1
 unfold rkI
 split
 .omega
 .rename_i q2
  have:=hk2.2 (by omega)
  have:=(nM hd hs).2 r hr
  omega
end
def uU(dm:List DS3)(ns:List DS1)(leaf:Int)(me:List DS3):Prop:=∀r t,nH iEq r me=some t->t=sat (zO dm ns leaf 8 r.toNat)
theorem Wq{β:Type}(k k':Int)(v:β):∀es:List (Int×β×Unit),nH iEq k (qx iEq k' v es)=if k=k' then some v else nH iEq k es:=by
 intro es
 induction es with
 |nil =>
  simp only[qx,nH]
  by_cases h:k=k'
  .rw[Ki h,ak h];rfl
  .rw[GA h,au h];rfl
 |cons e es ih =>
  simp only[qx]
  by_cases h1:k'=e.1
  .rw[Ki h1]
   simp only[AO,nH]
   by_cases h:k=k'
   .rw[Ki h,ak h];rfl
   .rw[GA h,au h,GA (λq=>h (q.trans h1.symm))]
    rfl
  .rw[GA h1]
   simp only[cond_false,nH,ih]
   by_cases h:k=e.1
   .have hne:¬k=k':=λq=>h1 (q.symm.trans h)
    rw[Ki h,au hne,au hne]
   .rw[GA h];rfl
theorem a1q(x:Int×Int×(List DS1)×(List DS3)×Int×(List DS3)×Unit):Mo λs=>Ij s x.1 x.2.1 x.2.2.1 x.2.2.2.1 x.2.2.2.2.1 x.2.2.2.2.2.1:=by
 unfold Ij;(repeat' (first|exact Mo.const _|exact Mo.self _|apply Mo.bind|apply Mo.cond|apply Mo.map|apply Mo.join|apply Mo.loop|(intro _)))
section
variable{dm:List DS3}{ns:List DS1}{leaf:Int}
def lvl(dm:List DS3)(ns:List DS1)(r:Int):Nat:=if r<0 then dm.length else(ns.getD r.toNat zN).1.toNat
theorem M5(hd:iJ dm)(hs:iU dm ns){r:Int}(hr:r<(ns.length:Int)):lvl dm ns r<=dm.length:=by
 unfold lvl
 split
 .omega
 .have:=(hs r.toNat (by omega)).2.1;omega
theorem qG(hd:iJ dm)(hs:iU dm ns){r:Nat}(hr:r<ns.length){k:Nat}(hk:k<(kids ns r).length):(ns.getD r zN).1.toNat+1<=lvl dm ns ((kids ns r).getD k 0):=by
 obtain⟨h1,h2,_,_,_,h6⟩:=hs r hr
 have h7:=h6 k hk
 unfold lvl
 split
 .omega
 .rename_i q
  have:=h7.2.2 (by show 0<=(kids ns r).getD k 0;omega)
  have e:(ns.getD r zN).2.2.1.getD k 0=(kids ns r).getD k 0:=rfl
  rw[e]at this
  omega
theorem IE (hd:iJ dm) (hs:iU dm ns) (hn:ns.length<=1000) (r:Int) (a:Nat) (me:List DS3) (hr:jE ns.length r) (ha:a<=lvl dm ns r) (hm:uU dm ns leaf me) :
  T (m51 r (a:Int) ns dm leaf me) (λy=>∃me',y=(sat (kE dm ns leaf 9 r a),ns,dm,leaf,me',())/\uU dm ns leaf me'):=by
 unfold m51
 refine EB (ι:=Int×Nat×List DS3) a1q (λg=>(g.1,(g.2.1:Int),ns,dm,leaf,g.2.2,())) (λg=>jE ns.length g.1/\g.2.1<=lvl dm ns g.1/\uU dm ns leaf g.2.2)
  (λg y=>∃me',y=(sat (kE dm ns leaf 9 g.1 g.2.1),ns,dm,leaf,me',())/\uU dm ns leaf me') (λg=>rkI (rkA ns) g.1) ?_ (r,a,me) ⟨hr,ha,hm⟩
 rintro⟨r,a,me⟩ ⟨hr,ha,hm⟩ s ih
 dsimp only at hr ha hm ih ⊢
 unfold Ij
 have hD:=aY dm
 have hN:=aY ns
 have hd2:=hd.2.1
 have hll:=M5 hd hs hr.2
 refine T.cnd (λhc=>?_) (λhc=>?_)<;>simp only[bD,bg]at hc
 .have hr1:=hr.1
  refine T.dz (v:=(-1-r,())) (by show some (gP .i64 (-1) r,())=_;rw[fE (by omega) (by omega)]) ?_
  dsimp only
  rw[vW _ _ _ _ hc]
  refine T.cnd (λhc2=>?_) (λhc2=>?_)<;>simp only[gJ,gX]at hc2
  .rw[au hc2]
   exact T.ret ⟨me,rfl,hm⟩
  .rw[ak hc2,hD]
   have h1:=Mw (n:=1) hd (by omega) a dm.length (by omega) (by omega) ns leaf me
   rw[show sat 1=1 by decide,BA]at h1
   refine T.dz h1 (T.ret ⟨me,rfl,hm⟩)
 have hrt:r.toNat<ns.length:=by have:=hr.2;omega
 have hsr:=hs r.toNat hrt
 have eN:atI ns r (0,[],[],())=ns.getD r.toNat zN:=rfl
 have hlv:lvl dm ns r=(ns.getD r.toNat zN).1.toNat:=by unfold lvl;rw[au (by omega)]
 rw[hlv]at ha
 have h1:=hsr.1
 have h2:=hsr.2.1
 have h3:=hsr.2.2.1
 have h4:=hsr.2.2.2.1
 have h5:=hsr.2.2.2.2.1
 have eA:(ns.getD r.toNat zN).1=(((ns.getD r.toNat zN).1.toNat:Nat):Int):=by omega
 have hlen:=hsr.len hd
 have hkl:(kids ns r.toNat).length<=2000000001:=hlen.2
 have eK:(ns.getD r.toNat zN).2.2.1=kids ns r.toNat:=rfl
 have e48:zO dm ns leaf 8 r.toNat=rH (λk=>kE dm ns leaf 8 ((kids ns r.toNat).getD k 0) ((ns.getD r.toNat zN).1.toNat+1)*(hiK dm (ns.getD r.toNat zN) k-loK dm (ns.getD r.toNat zN) k)) (kids ns r.toNat).length:=rfl
 have ht0:0<=zO dm ns leaf 8 r.toNat:=NP hd hs 8 hrt _ (bM _)
 rw[eN,yj _ _ _ _ hc]
 refine T.grd (by rw[bE];have:=hr.2;omega) (T.cnd (λhc2=>?_) (λhc2=>?_))
 ·have hno:pE iEq r me 0=0:=by
   unfold yK at hc2
   unfold pE
   cases q:nH iEq r me with
   |none=>rfl
   |some t=>rw[q]at hc2;cases hc2
  rw[hno]
  refine T.grd (by rw[bE,hD];omega) ?_
  rw[eK]
  have hK:=aY (kids ns r.toNat)
  have hC:=aY (ns.getD r.toNat zN).2.1
  rw[hK]
  have eD:atI dm (ns.getD r.toNat zN).1 (0,0,())=dm.getD (ns.getD r.toNat zN).1.toNat zS:=rfl
  refine T.loop (λq=>∃(k:Nat) (me':List DS3),k<=(kids ns r.toNat).length/\uU dm ns leaf me'/\q=(r,(a:Int),sat (rH (λk=>kE dm ns leaf 8 ((kids ns r.toNat).getD k 0) ((ns.getD r.toNat zN).1.toNat+1)*(hiK dm (ns.getD r.toNat zN) k-loK dm (ns.getD r.toNat zN) k)) k),loK dm (ns.getD r.toNat zN) k,kids ns r.toNat,((kids ns r.toNat).length:Int),(k:Int),ns,dm,leaf,me',(ns.getD r.toNat zN).1,(ns.getD r.toNat zN).2.1,kids ns r.toNat,())) (λq=>(kids ns r.toNat).length-q.2.2.2.2.2.2.1.toNat) ⟨0,me,by omega,hm,?_⟩ ?_
  .rw[eD];unfold loK;rw[ak rfl];rfl
  rintro _ ⟨k,me',hk,hm',rfl⟩
  dsimp only
  rw[hC,hD,eD,dW,dW]
  refine T.cnd (λhc3=>?_) (λhc3=>?_)<;>simp only[bD,bg]at hc3
  .have hkk:k<(kids ns r.toNat).length:=by omega
   have hw:=hs.wid hrt hkk hd
   have hb:=hd.at (i:=(ns.getD r.toNat zN).1.toNat) (by omega)
   have WI:=hsr.2.2.2.2.2 k hkk
   have CB:jE ns.length ((kids ns r.toNat).getD k 0):=WI.1
   have a4r:=qG hd hs hrt hkk
   have hrk:rkI (rkA ns) ((kids ns r.toNat).getD k 0)<rkI (rkA ns) r:=by
    have hk2:=((nM hd hs).1 r.toNat hrt).2 _ (aV hkk)
    rw[getD_eq _ _ _ hkk]
    unfold rkI
    rw[au (show ¬r<0 by omega)]
    split
    .omega
    .have:=hk2.2 (by omega);omega
   have hcn:0<=kE dm ns leaf 8 ((kids ns r.toNat).getD k 0) ((ns.getD r.toNat zN).1.toNat+1):=OO hd hs _ _ _ CB.2
   have eqc:=MU (leaf:=leaf) hd hs hrt hkk ((ns.getD r.toNat zN).1.toNat+1)
   have hps:0<=rH (λk=>kE dm ns leaf 8 ((kids ns r.toNat).getD k 0) ((ns.getD r.toNat zN).1.toNat+1)*(hiK dm (ns.getD r.toNat zN) k-loK dm (ns.getD r.toNat zN) k)) k:=NP hd hs 8 hrt k (by omega)
   have ei:bZ .i64 (ns.getD r.toNat zN).1 1=(((ns.getD r.toNat zN).1.toNat+1:Nat):Int):=by rw[bB (by omega) (by omega)];omega
   have nxt:∀ me2,uU dm ns leaf me2->∀ hi:Int,hi=hiK dm (ns.getD r.toNat zN) k->T ((m82 (sat (kE dm ns leaf 9 ((kids ns r.toNat).getD k 0) ((ns.getD r.toNat zN).1.toNat + 1))) (gP .i64 hi (loK dm (ns.getD r.toNat zN) k))).bind fun Uy =>
     some (Sum.inl (β:=Int×(List DS1)×(List DS3)×Int×(List DS3)×Unit) (r,(a:Int),qZ (bZ .i64 (sat (rH (λk=>kE dm ns leaf 8 ((kids ns r.toNat).getD k 0) ((ns.getD r.toNat zN).1.toNat+1)*(hiK dm (ns.getD r.toNat zN) k-loK dm (ns.getD r.toNat zN) k)) k)) Uy.1) 17592186044416,hi,kids ns r.toNat,((kids ns r.toNat).length:Int),bZ .i64 (k:Int) 1,ns,dm,leaf,me2,(ns.getD r.toNat zN).1,(ns.getD r.toNat zN).2.1,kids ns r.toNat,())))
     (LQ (λq=>∃(k:Nat) (me':List DS3),k<=(kids ns r.toNat).length/\uU dm ns leaf me'/\q=(r,(a:Int),sat (rH (λk=>kE dm ns leaf 8 ((kids ns r.toNat).getD k 0) ((ns.getD r.toNat zN).1.toNat+1)*(hiK dm (ns.getD r.toNat zN) k-loK dm (ns.getD r.toNat zN) k)) k),loK dm (ns.getD r.toNat zN) k,kids ns r.toNat,((kids ns r.toNat).length:Int),(k:Int),ns,dm,leaf,me',(ns.getD r.toNat zN).1,(ns.getD r.toNat zN).2.1,kids ns r.toNat,())) (λq=>(kids ns r.toNat).length-q.2.2.2.2.2.2.1.toNat) ((kids ns r.toNat).length-(k:Int).toNat) (λy=>∃me',y=(sat (zO dm ns leaf 8 r.toNat*yY dm a (ns.getD r.toNat zN).1.toNat),ns,dm,leaf,me',())/\uU dm ns leaf me')):=by
    rintro me2 hm2 _ rfl
    rw[fE (by omega) (by omega),<- eqc]
    refine T.dz (NQ (G8 hcn) ⟨by omega,by omega⟩) ?_
    dsimp only
    have hpr:=pW hcn (show 0<=hiK dm (ns.getD r.toNat zN) k-loK dm (ns.getD r.toNat zN) k by omega)
    refine T.go ⟨k+1,me2,by omega,hm2,?_⟩ (by dsimp only;rw[bB (by omega) (by omega)];omega)
    have b1:=G8 hps
    have b2:=G8 hpr
    rw[NT hcn (by omega),bB (by omega) (by omega),bB (by omega) (by omega)]
    have:qZ (sat (rH (λk=>kE dm ns leaf 8 ((kids ns r.toNat).getD k 0) ((ns.getD r.toNat zN).1.toNat+1)*(hiK dm (ns.getD r.toNat zN) k-loK dm (ns.getD r.toNat zN) k)) k)+sat (kE dm ns leaf 8 ((kids ns r.toNat).getD k 0) ((ns.getD r.toNat zN).1.toNat+1)*(hiK dm (ns.getD r.toNat zN) k-loK dm (ns.getD r.toNat zN) k))) 17592186044416=sat (rH (λk=>kE dm ns leaf 8 ((kids ns r.toNat).getD k 0) ((ns.getD r.toNat zN).1.toNat+1)*(hiK dm (ns.getD r.toNat zN) k-loK dm (ns.getD r.toNat zN) k)) (k+1)):=by
     simp only[rH]
     rw[<- a0M hps hpr]
     unfold qZ sat;omega
    rw[this]
    have el:loK dm (ns.getD r.toNat zN) (k+1)=hiK dm (ns.getD r.toNat zN) k:=by
     unfold loK
     rw[au (by omega),jg]
    rw[el]
    rfl
   refine T.grd (by rw[bE];omega) (T.grd (by rw[bE];omega) (T.cnd (λhc4=>?_) (λhc4=>?_)))<;>simp only[bD,bg]at hc4
   .refine T.grd (by rw[bE];omega) ?_
    rw[ei]
    refine T.call (ih ((kids ns r.toNat).getD k 0,(ns.getD r.toNat zN).1.toNat+1,me') ⟨CB,a4r,hm'⟩ hrk) ?_
    rintro _ ⟨me2,rfl,hm2⟩
    exact nxt me2 hm2 _ (by unfold hiK;rw[ak (by omega)])
   .rw[ei,bB (by omega) (by omega)]
    refine T.call (ih ((kids ns r.toNat).getD k 0,(ns.getD r.toNat zN).1.toNat+1,me') ⟨CB,a4r,hm'⟩ hrk) ?_
    rintro _ ⟨me2,rfl,hm2⟩
    exact nxt me2 hm2 _ (by unfold hiK;rw[au (by omega)])
  .obtain rfl:k=(kids ns r.toNat).length:=by omega
   rw[<- e48]
   refine T.pX ?_
   have hf:=Mw (n:=zO dm ns leaf 8 r.toNat) hd ht0 a (ns.getD r.toNat zN).1.toNat (by omega) (by omega) ns leaf (qx iEq r (sat (zO dm ns leaf 8 r.toNat)) me')
   rw[<- eA]at hf
   refine T.dz hf (T.ret ⟨_,rfl,λr' t h=>?_⟩)
   rw[Wq]at h
   split at h
   .rename_i q;subst q;cases h;rfl
   .exact hm' r' t h
 ·obtain ⟨t,ht⟩:∃ t,nH iEq r me=some t:=by
   unfold yK at hc2
   cases q:nH iEq r me with
   |none=>rw[q]at hc2;cases hc2
   |some t=>exact⟨t,rfl⟩
  have hg:pE iEq r me 0=sat (zO dm ns leaf 8 r.toNat):=by unfold pE;rw[ht];exact hm r t ht
  rw[hg]
  have hf:=Mw (n:=zO dm ns leaf 8 r.toNat) hd ht0 a (ns.getD r.toNat zN).1.toNat (by omega) (by omega) ns leaf me
  rw[<- eA]at hf
  exact T.dz hf (T.ret ⟨me,rfl,hm⟩)
end
theorem Ji(r:Int):nH iEq r ([]:List DS3)=none:=rfl
theorem VD.FN{dm:List DS3}{ns:List DS1}{root:Int}(h:VD dm ns root):iU dm ns:=h.2.2.1
theorem a1T(l:List DS0)(ns:List DS1)(root:Int)(leaf:Int)(hz:SzN ns):T (m26 (l,()) (ns,root,()) leaf) (λy=>(0<=leaf/\leaf<=255/\jM l=0/\VD (doms l) ns root->y.1=sat (kE (doms l) ns leaf 9 root 0))/\(¬(0<=leaf/\leaf<=255/\jM l=0/\VD (doms l) ns root)->y.1=0)):=by
 unfold m26
 refine T.cnd (λhc=>?_) (λhc=>?_)<;>simp only[eX,fq,bD,bg]at hc
 .exact T.ret ⟨λh=>by omega,λ_=>rfl⟩
 refine T.call (DN l ns root hz) ?_
 rintro⟨y,⟨⟩⟩ hy
 dsimp only at hy ⊢
 refine T.cnd (λhc2=>?_) (λhc2=>?_)<;>simp only[dO,gW]at hc2
 .refine T.ret ⟨λh=>?_,λ_=>rfl⟩
  rw[hy.2 ⟨h.2.2.1,h.2.2.2⟩]at hc2
  cases hc2
 obtain⟨hv,hV⟩:=hy.1 hc2
 have hd:=rR hv
 refine T.dz (MQ l hv) ?_
 dsimp only
 refine T.call (IE hd hV.FN hV.1 root 0 [] hV.2.1 (by omega) (λr t h=>by rw[Ji]at h;cases h)) ?_
 rintro _ ⟨me',rfl,_⟩
 exact T.ret ⟨λ_=>rfl,λh=>absurd ⟨by omega,by omega,hv,hV⟩ h⟩
def GJ(p:Nat->Bool):Nat->Nat->Nat
 |0,i=>i
 |n+1,i=>if p i=true then i else GJ p n (i+1)
theorem U1{p:Nat->Bool}:∀(n i k:Nat),i<=k->k<i+n->(∀j,i<=j->j<k->p j=false)->p k=true->GJ p n i=k:=by
 intro n
 induction n with
 |zero=>intro i k h1 h2 _ _;omega
 |succ n ih =>
  intro i k h1 h2 h3 h4
  simp only[GJ]
  by_cases e:i=k
  .subst e;rw[ak h4]
  .rw[au (by rw[h3 i (by omega) (by omega)];decide)]
   exact ih (i+1) k (by omega) (by omega) (λj a b=>h3 j (by omega) b) h4
section
variable{dm:List DS3}{ns:List DS1}{leaf:Int}
def BP(dm:List DS3)(ns:List DS1)(leaf:Int)(r:Nat):Nat:=GJ (λk=>decide (kE dm ns leaf 9 ((kids ns r).getD k 0) ((ns.getD r zN).1.toNat+1)≠0)) (kids ns r).length 0
def rQ(dm:List DS3)(ns:List DS1)(leaf:Int):Nat->Int->List Int->List Int
 |0,_,fs=>fs
 | f + 1,r,fs=>if r < 0 then fs else
   rQ dm ns leaf f ((kids ns r.toNat).getD (BP dm ns leaf r.toNat) 0) (if 0<BP dm ns leaf r.toNat then fs.set (ns.getD r.toNat zN).1.toNat ((ns.getD r.toNat zN).2.1.getD (BP dm ns leaf r.toNat-1) 0) else fs)
theorem Nq(f:Nat){r:Int}(h:r<0)(fs:List Int):rQ dm ns leaf f r fs=fs:=by
 cases f with
 |zero=>rfl
 |succ f=>simp only[rQ];rw[ak h]
theorem a0s{g:Nat->Int}:∀n,rH g n≠0->∃k,k<n/\g k≠0:=by
 intro n
 induction n with
 |zero=>intro h;exact absurd rfl h
 |succ n ih =>
  intro h
  simp only[rH]at h
  by_cases q:g n=0
  .obtain⟨k,h1,h2⟩:=ih (by omega);exact⟨k,by omega,h2⟩
  .exact⟨n,by omega,q⟩
theorem a3X(hd:iJ dm)(hs:iU dm ns){r:Int}{a:Nat}(h0:0<=r)(hr:r<(ns.length:Int))(h:kE dm ns leaf 9 r a≠0):∃k,k<(kids ns r.toNat).length/\kE dm ns leaf 9 ((kids ns r.toNat).getD k 0) ((ns.getD r.toNat zN).1.toNat+1)≠0:=by
 rw[yj _ _ _ _ h0]at h
 have h1:zO dm ns leaf 8 r.toNat≠0:=λe=>h (by rw[e,Int.zero_mul])
 obtain⟨k,k1,k2⟩:=a0s _ h1
 refine⟨k,k1,λe=>k2 ?_⟩
 rw[MU hd hs (by omega) k1,e,Int.zero_mul]
theorem TQ{r:Nat}{k:Nat}(hk:k<(kids ns r).length)(h1:∀j,j<k->kE dm ns leaf 9 ((kids ns r).getD j 0) ((ns.getD r zN).1.toNat+1)=0)(h2:kE dm ns leaf 9 ((kids ns r).getD k 0) ((ns.getD r zN).1.toNat+1)≠0):BP dm ns leaf r=k:=by
 unfold BP
 exact U1 _ 0 k (by omega) (by omega) (λj _ hj=>by simpa using h1 j hj) (by simpa using h2)
end
theorem a1v(l:List DS0)(ns:List DS1)(root:Int)(leaf:Int)(hz:SzN ns):T (m21 (l,()) (ns,root,()) leaf) (λy=>(0<=leaf/\leaf<=255/\jM l=0/\VD (doms l) ns root/\kE (doms l) ns leaf 9 root 0≠0->y=(rQ (doms l) ns leaf 9 root ((doms l).map λd=>d.1),true,()))/\(¬(0<=leaf/\leaf<=255/\jM l=0/\VD (doms l) ns root/\kE (doms l) ns leaf 9 root 0≠0)->y=([],false,()))):=by
 unfold m21
 refine T.cnd (λhc=>?_) (λhc=>?_)<;>simp only[eX,fq,bD,bg]at hc
 .exact T.ret ⟨λh=>by omega,λ_=>rfl⟩
 refine T.call (DN l ns root hz) ?_
 rintro⟨y,⟨⟩⟩ hy
 dsimp only at hy ⊢
 refine T.cnd (λhc2=>?_) (λhc2=>?_)<;>simp only[dO,gW]at hc2
 .refine T.ret ⟨λh=>?_,λ_=>rfl⟩
  rw[hy.2 ⟨h.2.2.1,h.2.2.2.1⟩]at hc2
  cases hc2
 obtain⟨hv,hV⟩:=hy.1 hc2
 have hd:=rR hv
 refine T.dz (MQ l hv) ?_
 dsimp only
 generalize hdm:doms l=dm at hd hV
 have hs:=hV.FN
 have hn:=hV.1
 refine T.call (IE hd hs hn root 0 [] hV.2.1 (by omega) (λr t h=>by rw[Ji]at h;cases h)) ?_
 rintro _ ⟨me',rfl,hme⟩
 dsimp only
 refine T.cnd (λhc3=>?_) (λhc3=>?_)<;>simp only[dF,dP,KX]at hc3
 .exact T.ret ⟨λh=>absurd hc3 h.2.2.2.2,λ_=>rfl⟩
 have hD:=aY dm
 have hd2:=hd.2.1
 rw[hD]
 refine T.grd (by rw[iD];omega) ?_
 rw[bH]
 have good:∀y:List Int×Bool×Unit,y=(rQ dm ns leaf 9 root (dm.map λd=>d.1),true,())->((0<=leaf/\leaf<=255/\jM l=0/\VD dm ns root/\kE dm ns leaf 9 root 0≠0->y=(rQ dm ns leaf 9 root (dm.map λd=>d.1),true,()))/\(¬(0<=leaf/\leaf<=255/\jM l=0/\VD dm ns root/\kE dm ns leaf 9 root 0≠0)->y=([],false,()))):=λy e=>⟨λ_=>e,λh=>absurd ⟨by omega,by omega,hv,hV,hc3⟩ h⟩
 refine T.mono (Q:=λy=>y=(rQ dm ns leaf 9 root (dm.map λd=>d.1),true,())) ?_ good
 refine T.loop (λq=>∃(i:Nat) (fs:List Int),i<=dm.length/\fs.length=dm.length/\(∀j,j<i->fs.getD j 0=(dm.getD j zS).1)/\q=(dm,(dm.length:Int),(i:Int),ns,root,ns,dm,leaf,fs,me',())) (λq=>dm.length-q.2.2.1.toNat) ⟨0,_,by omega,by simp,λj hj=>by omega,rfl⟩ ?_
 rintro _ ⟨i,fs,hi,hfs,hg,rfl⟩
 dsimp only
 have hF:=aY fs
 have eD:atI dm (i:Int) (0,0,())=dm.getD i zS:=by rw[dW];rfl
 rw[hD,eD]
 refine T.cnd (λhc4=>?_) (λhc4=>?_)<;>simp only[bD,bg]at hc4
 .refine T.grd (by rw[bE];omega) (T.grd (by rw[bE];omega) (T.grd (by rw[fM];omega) (T.go ⟨i+1,fs.set i (dm.getD i zS).1,by omega,by rw[bT];exact hfs,λj hj=>?_,by rw[bB (by omega) (by omega)];rfl⟩ (by dsimp only;rw[bB (by omega) (by omega)];omega))))
  rw[aM]
  by_cases e:i=j
  .subst e
   rw[aW (by omega)];rfl
  .rw[aD e,<- aM]
   exact hg j (by omega)
 obtain rfl:i=dm.length:=by omega
 obtain rfl:fs=dm.map λd=>d.1:=by
  apply jq (by rw[hfs,bR])
  intro j h1 h2
  have:=hg j (by omega)
  rw[getD_eq _ _ _ h1,getD_eq _ _ _ (by omega)]at this
  rw[this,kZ]
 refine T.pX ?_
 have hN:=aY ns
 refine T.loop (λq=>∃(f:Nat) (r:Int) (a:Nat) (fs:List Int) (me:List DS3),jE ns.length r/\rkI (rkA ns) r<=f/\kE dm ns leaf 9 r a≠0/\fs.length=dm.length/\uU dm ns leaf me/\rQ dm ns leaf 9 root (dm.map λd=>d.1)=rQ dm ns leaf f r fs/\q=(r,ns,root,ns,dm,leaf,fs,me,())) (λq=>rkI (rkA ns) q.1) ⟨9,root,0,_,me',hV.2.1,?_,hc3,by simp,hme,rfl,rfl⟩ ?_
 .unfold rkI
  split
  .omega
  .have:=(nM hd hs).2 root.toNat (by have:=hV.2.1.2;omega);omega
 rintro _ ⟨f,r,a,fs,me,hr,hf,hcn,hfs,hm,hfin,rfl⟩
 dsimp only
 refine T.cnd (λhc5=>?_) (λhc5=>?_)<;>simp only[gD,gF]at hc5
 .have hrt:r.toNat<ns.length:=by have:=hr.2;omega
  have hsr:=hs r.toNat hrt
  have h1:=hsr.1
  have h2:=hsr.2.1
  have h4:=hsr.2.2.2.1
  have eN:atI ns r (0,[],[],())=ns.getD r.toNat zN:=rfl
  have eK:(ns.getD r.toNat zN).2.2.1=kids ns r.toNat:=rfl
  have hK:=aY (kids ns r.toNat)
  have hC:=aY (ns.getD r.toNat zN).2.1
  have hlen:=hsr.len hd
  have hkl:(kids ns r.toNat).length<=2000000001:=hlen.2
  rw[eN,eK,hK]
  refine T.grd (by rw[bE];have:=hr.2;omega) ?_
  obtain⟨k0,k01,k02⟩:=a3X hd hs hc5 hr.2 hcn
  obtain⟨f',rfl⟩:∃f',f=f'+1:=⟨f-1,by unfold rkI at hf;rw[au (by omega)]at hf;omega⟩
  refine T.loop (λq=>∃(i:Nat) (me:List DS3),i<=k0/\uU dm ns leaf me/\(∀j,j<i->kE dm ns leaf 9 ((kids ns r.toNat).getD j 0) ((ns.getD r.toNat zN).1.toNat+1)=0)/\q=(r,kids ns r.toNat,((kids ns r.toNat).length:Int),(i:Int),ns,root,ns,dm,leaf,fs,(ns.getD r.toNat zN).1,(ns.getD r.toNat zN).2.1,kids ns r.toNat,me,())) (λq=>(kids ns r.toNat).length-q.2.2.2.1.toNat) ⟨0,me,by omega,hm,λj hj=>by omega,rfl⟩ ?_
  rintro _ ⟨i,me1,hi,hm1,hz0,rfl⟩
  dsimp only
  have hil:i<(kids ns r.toNat).length:=by omega
  have hFs:=aY fs
  have ei:bZ .i64 (ns.getD r.toNat zN).1 1=(((ns.getD r.toNat zN).1.toNat+1:Nat):Int):=by rw[bB (by omega) (by omega)];omega
  have WI:=hsr.2.2.2.2.2 i hil
  have CB:jE ns.length ((kids ns r.toNat).getD i 0):=WI.1
  have hrk:rkI (rkA ns) ((kids ns r.toNat).getD i 0)<rkI (rkA ns) r:=by
   have hk2:=((nM hd hs).1 r.toNat hrt).2 _ (aV hil)
   rw[getD_eq _ _ _ hil]
   unfold rkI
   rw[au (show ¬r<0 by omega)]
   split
   .omega
   .have:=hk2.2 (by omega);omega
  rw[hK,hC,hFs,ei,dW]
  refine T.ct (by rw[bD];omega) (T.grd (by rw[bE];omega) (T.call (IE hd hs hn _ _ me1 CB (qG hd hs hrt hil) hm1) ?_))
  rintro _ ⟨me2,rfl,hm2⟩
  dsimp only
  refine T.cnd (λhc6=>?_) (λhc6=>?_)<;>simp only[dF,dP,KX]at hc6
  .refine T.go ⟨i+1,me2,?_,hm2,λj hj=>?_,by rw[bB (by omega) (by omega)];rfl⟩ (by dsimp only;rw[bB (by omega) (by omega)];omega)
   .rcases aS i k0 with q|q
    .omega
    .obtain rfl:i=k0:=by omega
     exact absurd hc6 k02
   .rcases aS j i with q|q
    .exact hz0 j q
    .obtain rfl:j=i:=by omega
     exact hc6
  have hkL:BP dm ns leaf r.toNat=i:=TQ hil hz0 hc6
  have Kj:rQ dm ns leaf 9 root (dm.map λd=>d.1)=rQ dm ns leaf f' ((kids ns r.toNat).getD i 0) (if 0<i then fs.set (ns.getD r.toNat zN).1.toNat ((ns.getD r.toNat zN).2.1.getD (i-1) 0) else fs):=by
   rw[hfin]
   simp only[rQ]
   rw[au (by omega),hkL]
  refine T.cnd (λhc7=>?_) (λhc7=>?_)<;>simp only[bD,bg]at hc7
  .have ej:gP .i64 (i:Int) 1=((i-1:Nat):Int):=by rw[fE (by omega) (by omega)];omega
   rw[ej,dW]
   have hik:i<(ns.getD r.toNat zN).2.1.length+1:=by rw[<- h4];exact hil
   refine T.grd (by rw[bE];omega) (T.grd (by rw[bE];omega) (T.grd (by rw[fM];omega) ?_))
   refine T.out (show LQ _ _ _ _ (Sum.inl _) from⟨⟨f',_,_,_,me2,CB,by omega,hc6,by rw[bT];exact hfs,hm2,?_,rfl⟩,by exact hrk⟩)
   rw[Kj,ak (by omega)]
  .refine T.out (show LQ _ _ _ _ (Sum.inl _) from⟨⟨f',_,_,_,me2,CB,by omega,hc6,hfs,hm2,?_,rfl⟩,by exact hrk⟩)
   rw[Kj,au (by omega)]
 .refine T.out ?_
  rw[hfin,Nq f hc5]
def I64(n:Int):Prop:=-9223372036854775808<=n/\n<=9223372036854775807
def JV(l:List DS0)(i lo hi:Int):DS2×Int×Unit :=
 if jM l≠0 then(([],0,()),jM l,()) else if i<0\/(l.length:Int)<=i then(([],0,()),7,()) else
 if hi<lo\/(jP (l.getD i.toNat zA)).2<lo\/hi<(jP (l.getD i.toNat zA)).1 then(([],-1,()),0,())
 else if lo<=(jP (l.getD i.toNat zA)).1/\(jP (l.getD i.toNat zA)).2<=hi then(([],-2,()),0,())
 else if lo<=(jP (l.getD i.toNat zA)).1 then(([(i,[hi+1],[-2,-1],())],0,()),0,())
 else if(jP (l.getD i.toNat zA)).2<=hi then(([(i,[lo],[-1,-2],())],0,()),0,())
 else(([(i,[lo,hi+1],[-1,-2,-1],())],0,()),0,())
theorem TK(v:Int):m17 v=some (([],-1-max 0 (min v 255),()),()):=by
 show some ((([]:List DS1),gP .i64 (-1) (vI 0 (qZ v 255)),()),())=_
 unfold vI qZ
 rw[fE (by omega) (by omega)]
theorem QA(v:Int)(h:0<=v/\v<=255):m40 v=some (-1-v,()):=by
 show some (gP .i64 (-1) v,())=_
 rw[fE (by omega) (by omega)]
theorem a2O(l:List DS0)(i lo hi:Int):m12 (l,()) i lo hi=some (JV l i lo hi):=by
 refine T.eq ?_
 unfold m12 JV
 refine T.dz (Eb _) ?_
 dsimp only
 have hL:=aY l
 refine T.cnd (λhc=>?_) (λhc=>?_)<;>simp only[gJ,gX]at hc
 .rw[ak hc];exact T.ret rfl
 rw[au (by omega)]
 have v:=val_ok hc
 refine T.cnd (λhc2=>?_) (λhc2=>?_)<;>simp only[eX,fq,bD,bg,gD,gF,hL]at hc2
 .rw[ak hc2];exact T.ret rfl
 rw[au (by omega)]
 have hil:i.toNat<l.length:=by omega
 have ei:i=(i.toNat:Int):=by omega
 have hb:=MR (v.2.2 _ (aV hil)).2
 refine T.dz (v:=((jP l[i.toNat]).1,(jP l[i.toNat]).2,())) (by have q:=U9 l i.toNat hil hc;rwa [<- ei]at q) ?_
 dsimp only
 rw[getD_eq l i.toNat zA hil]
 generalize jP l[i.toNat]=d at hb ⊢
 obtain⟨d1,d2⟩:=d
 dsimp only at hb ⊢
 unfold qZ vI
 refine T.cnd (λhc3=>?_) (λhc3=>?_)<;>simp only[bD,bg]at hc3
 .rw[ak (by omega)]
  refine T.dz (TK 0) (T.ret rfl)
 rw[au (by omega)]
 refine T.dz (QA 1 (by omega)) ?_
 dsimp only
 refine T.join (λj=>j=(i,min hi d2,d2,0,(if d1<lo then[lo] else[]),(if d1<lo then[-1,-2] else[-2]),())) ?_ ?_
 .refine T.cnd (λhc4=>?_) (λhc4=>?_)<;>simp only[bD,bg]at hc4
  .refine T.grd (by rw[eO];exact⟨by simp,by simp⟩) (T.dz (QA 0 (by omega)) (T.dz (QA 1 (by omega)) (T.jgo ?_)))
   rw[ak (by omega),ak (by omega),show max lo d1=lo by omega]
   rfl
  .refine T.jgo ?_
   rw[au (by omega),au (by omega)]
   rfl
 rintro _ rfl
 dsimp only
 refine T.cnd (λhc5=>?_) (λhc5=>?_)<;>simp only[bD,bg]at hc5
 .rw[bB (by omega) (by omega),show min hi d2=hi by omega,au (show ¬(lo<=d1/\d2<=hi) by omega)]
  refine T.grd (by rw[eO];split<;>exact⟨by simp,by simp⟩) (T.dz (QA 0 (by omega)) (T.grd (by rw[eO];split<;>exact⟨by simp,by simp⟩) (T.cf ?_ ?_)))
  .rw[dP,aY];split<;>simp
  .refine T.ret ?_
   by_cases q:d1<lo
   .rw[ak q,ak q,au (show ¬lo<=d1 by omega),au (show ¬d2<=hi by omega)];rfl
   .rw[au q,au q,ak (show lo<=d1 by omega)];rfl
 .refine T.cnd (λhc6=>?_) (λhc6=>?_)<;>simp only[dF,dP,aY]at hc6
  .have q:¬d1<lo:=λq=>by rw[ak q]at hc6;simp at hc6
   refine T.dz (TK 1) (T.ret ?_)
   rw[ak (show lo<=d1/\d2<=hi by omega)];rfl
  ·have q:d1 < lo:=by
    rcases fu d1 lo with q|q
    .exact q
    .rw[au (by omega)]at hc6;simp at hc6
   refine T.ret ?_
   rw[au (show ¬(lo<=d1/\d2<=hi) by omega),au (show ¬lo<=d1 by omega),ak (show d2<=hi by omega),ak q,ak q]
def l0:List DS0:=[((bs [120]),2,[],1,9,())]
def n0:List DS1:=[(0,[3],[-1,-2],())]
theorem UW:jM l0=0:=by kernel_rfl
theorem Xa:doms l0=[(1,9,())]:=rfl
theorem a5E:JV l0 0 3 20=((n0,0,()),0,()):=by
 unfold JV
 rw[au (by rw[UW];omega)]
 rfl
theorem a2T:mZ [(1,9,())] n0 (0,[3],[-1,-2],()):=by
 refine⟨by decide,by decide,by decide,by decide,λk hk=>?_,λk hk=>?_⟩
 .have:k=0:=by have:k<1:=hk;omega
  subst this
  exact⟨by decide,by decide,λq=>by omega⟩
 .have:k=0\/k=1:=by have:k<2:=hk;omega
  rcases this with rfl|rfl
  .exact⟨⟨by decide,by decide⟩,λq=>by omega,λq=>by revert q;decide⟩
  .exact⟨⟨by decide,by decide⟩,λ_=>by decide,λq=>by revert q;decide⟩
theorem vd0:VD (doms l0) n0 0:=by
 rw[Xa]
 refine⟨by decide,⟨by decide,by decide⟩,λi hi=>?_,λi hi k hk=>?_,by rfl⟩
 .have:i=0:=by have:i<1:=hi;omega
  subst this
  exact a2T
 .have:i<1:=hi
  omega
theorem a5a:kE (doms l0) n0 1 9 0 0=7:=by rw[Xa];kernel_rfl
theorem a3W:rQ (doms l0) n0 1 9 0 ((doms l0).map λd=>d.1)=[3]:=by rw[Xa];kernel_rfl
theorem sz0:SzN n0:=⟨by decide,λx hx=>by obtain rfl:=bI.1 hx;exact⟨by simp,by simp⟩⟩
theorem a2i:m11=some (true,()):=by
 refine T.eq ?_
 unfold m11
 refine T.dz (show m12 (l0,()) 0 3 20=some ((n0,0,()),0,()) by rw[a2O,a5E]) ?_
 dsimp only
 refine T.call (a1v l0 n0 0 1 sz0) ?_
 intro y hy
 obtain rfl:=hy.1 ⟨by omega,by omega,UW,vd0,by rw[a5a];omega⟩
 rw[a3W]
 refine T.grd (by rfl) (T.ct (by rfl) (T.call (a1T l0 n0 0 1 sz0) ?_))
 rintro⟨y,⟨⟩⟩ hy
 have e:=hy.1 ⟨by omega,by omega,UW,vd0⟩
 rw[a5a]at e
 dsimp only at e
 subst e
 exact T.ret rfl
theorem IG{Q:Bool×Unit->Prop}(h:Q (true,())):T ((m11).bind λy=>some (y.1,())) Q:=T.dz a2i (T.ret h)
def wO(lo hi:Int)(r:List Int):Prop:=r.head?=some lo/\r.Pairwise (·<·)/\∀x∈r,x<=hi
def GOk(dm:List DS3)(g:List (List Int)):Prop:=g.length=dm.length/\∀i,i<dm.length->wO (dm.getD i zS).1 (dm.getD i zS).2.1 (g.getD i [])
def gI:List (List Int)->Nat
 |[]=>1
 |r::g=>r.length*gI g
def excess:List (List Int)->Nat
 |[]=>0
 |r::g=>(r.length-1)+excess g
def oq:List Int->Int->List Int
 |[],n=>[n]
 |x::xs,n=>if n<x then n::x::xs else if n=x then x::xs else x::oq xs n
theorem Xr:∀(l:List Int) (n:Int),l.length<=(oq l n).length/\(oq l n).length<=l.length+1:=by
 intro l
 induction l with
 |nil=>intro n;simp[oq]
 |cons x xs ih =>
  intro n
  simp only[oq]
  split
  .simp
  .split
   .simp
   .have:=ih n;simp;omega
theorem Nf:∀(l:List Int) (n:Int),∀y∈oq l n,y=n\/y∈l:=by
 intro l
 induction l with
 |nil=>intro n y hy;simp[oq]at hy;exact .inl hy
 |cons x xs ih =>
  intro n y hy
  simp only[oq]at hy
  split at hy
  .rcases bU.1 hy with q|q;exact .inl q;exact .inr q
  .split at hy
   .exact .inr hy
   .rcases bU.1 hy with q|q
    .exact .inr (by simp[q])
    .rcases ih n y q with r|r;exact .inl r;exact .inr (by simp[r])
theorem NC:∀(l:List Int) (n:Int),l.Pairwise (·<·)->(oq l n).Pairwise (·<·):=by
 intro l
 induction l with
 |nil=>intro n _;simp[oq]
 |cons x xs ih =>
  intro n h
  obtain⟨h1,h2⟩:=jI.1 h
  simp only[oq]
  split
  .rename_i q
   refine jI.2 ⟨λy hy=>?_,h⟩
   rcases bU.1 hy with r|r
   .omega
   .have:=h1 y r;omega
  .split
   .exact h
   .refine jI.2 ⟨λy hy=>?_,ih n h2⟩
    rcases Nf xs n y hy with r|r
    .omega
    .exact h1 y r
theorem Xq{lo hi n:Int}{r:List Int}(h:wO lo hi r)(h1:lo<n)(h2:n<=hi):wO lo hi (oq r n):=by
 obtain⟨a,b,c⟩:=h
 refine⟨?_,NC _ _ b,λx hx=>?_⟩
 .cases r with
  |nil=>cases a
  |cons x xs =>
   obtain rfl:=aI a
   simp only[oq]
   rw[au (by omega),au (by omega)];rfl
 .rcases Nf _ _ _ hx with q|q
  .omega
  .exact c x q
theorem a8s(l:List Int)(n:Int)(hl:l.length<=3000000000):m79 l n=some (oq l n,()):=by
 refine T.eq ?_
 unfold m79
 refine T.dz (v:=(oq l n,())) ?_ (T.ret rfl)
 refine T.eq ?_
 unfold m96
 have hL:=aY l
 refine T.loop (λq=>∃(d:Bool) (i:Nat) (o:List Int),i<=l.length/\o.length<=i+d.toNat/\(if d=true then o++l.drop i else o++oq (l.drop i) n)=oq l n/\q=(l,n,d,(i:Int),o,())) (λq=>l.length-q.2.2.2.1.toNat) ⟨false,0,[],by omega,by simp,by simp,rfl⟩ ?_
 rintro _ ⟨d,i,o,hi,ho,hg,rfl⟩
 dsimp only
 have hdt:d.toNat<=1:=by cases d<;>decide
 rw[hL,dW]
 refine T.cnd (λhc=>?_) (λhc=>?_)<;>simp only[bD,bg]at hc
 .have hil:i<l.length:=by omega
  have b1:bnd (i:Int) (l.length:Int)=true:=by rw[bE];omega
  have hdr:l.drop i=l[i]::l.drop (i+1):=mK hil
  rw[getD_eq _ _ _ hil]
  have next:∀(d':Bool) (o':List Int),o'.length<=i+1+d'.toNat->(if d'=true then o'++l.drop (i+1) else o'++oq (l.drop (i+1)) n)=oq l n->T (some (Sum.inl (β:=(List Int)×Unit) (l,n,d',bZ .i64 (i:Int) 1,o',()))) (LQ (λq=>∃(d:Bool) (i:Nat) (o:List Int),i<=l.length/\o.length<=i+d.toNat/\(if d=true then o++l.drop i else o++oq (l.drop i) n)=oq l n/\q=(l,n,d,(i:Int),o,())) (λq=>l.length-q.2.2.2.1.toNat) (l.length-(i:Int).toNat) (λx=>x=(oq l n,()))):=λd' o' h1 h2 =>
   T.go ⟨d',i+1,o',by omega,by omega,h2,by rw[bB (by omega) (by omega)];rfl⟩ (by dsimp only;rw[bB (by omega) (by omega)];omega)
  refine T.grd (by rw[fG];exact .inl b1) (T.cnd (λhc2=>?_) (λhc2=>?_))
  .rw[dN,dO,gD]at hc2
   obtain⟨rfl,hle⟩:=hc2
   rw[au (by decide),hdr]at hg
   refine T.grd b1 (T.cnd (λhc3=>?_) (λhc3=>?_))<;>simp only[bD,bg]at hc3
   .refine T.grd (by rw[eO,aU];omega) (T.grd b1 (T.grd (by rw[eO,aB,aU,aU];omega) (next true _ (by rw[aB,aB,aU,aU];simp only[Bool.toNat_false,Bool.toNat_true]at ho ⊢;omega) ?_)))
    rw[ak rfl,<- hg]
    simp only[oq]
    rw[ak hc3]
    simp
   .refine T.grd b1 (T.grd (by rw[eO,aU];omega) (next true _ (by rw[aB,aU];simp only[Bool.toNat_false,Bool.toNat_true]at ho ⊢;omega) ?_))
    rw[ak rfl,<- hg]
    simp only[oq]
    rw[au (by omega),ak (by omega)]
    simp
  .refine T.grd b1 (T.grd (by rw[eO,aU];omega) (next d _ (by rw[aB,aU];omega) ?_))
   rw[dQ,gW,gF]at hc2
   cases d with
   |true=>rw[ak rfl,hdr]at hg;rw[ak rfl,<- hg];simp
   |false =>
    rw[au (by decide),hdr]at hg
    rw[au (by decide),<- hg]
    have hlt:l[i]<n:=by rcases hc2 with q|q;cases q;exact q
    simp only[oq]
    rw[au (by omega),au (by omega)]
    simp
 .obtain rfl:i=l.length:=by omega
  rw[vN]at hg
  refine T.pX (T.cnd (λhc2=>?_) (λhc2=>?_))<;>simp only[dO,gW]at hc2<;>subst hc2
  .rw[au (by decide)]at hg
   refine T.grd (by rw[eO,aU];omega) (T.ret ?_)
   rw[<- hg];rfl
  .rw[ak rfl,bS]at hg
   exact T.ret (by rw[<- hg])
theorem V9(l:List DS0)(hv:jM l=0):m44 (l,())=some ((doms l).map λd=>[d.1],()):=by
 refine T.eq ?_
 unfold m44
 have hL:=aY l
 have v:=val_ok hv
 refine T.loop (λq=>∃i:Nat,i<=l.length/\q=((i:Int),l,((doms l).take i).map (λd=>[d.1]),())) (λq=>l.length-q.1.toNat) ⟨0,by omega,rfl⟩ ?_
 rintro _ ⟨i,hi,rfl⟩
 dsimp only
 rw[hL]
 refine T.cnd (λhc=>?_) (λhc=>?_)<;>simp only[bD,bg]at hc
 .have hil:i<l.length:=by omega
  refine T.dz (GQ l i hil hv) (T.grd ?_ (T.go ⟨i+1,by omega,?_⟩ (by dsimp only;rw[bB (by omega) (by omega)];omega)))
  .rw[eO,bR,bL,aU];omega
  .rw[bB (by omega) (by omega),cK (by rw[ru];exact hil),dS]
   have:=xO l i hil
   rw[getD_eq _ _ _ (by rw[ru];exact hil)]at this
   simp only[dw,List.map_nil,this]
   rfl
 .obtain rfl:i=l.length:=by omega
  refine T.out ?_
  rw[<- ru l,eY]
theorem S9{dm:List DS3}(hd:iJ dm):GOk dm (dm.map λd=>[d.1])/\excess (dm.map λd=>[d.1])=0:=by
 refine⟨⟨by simp,λi hi=>?_⟩,?_⟩
 .have:=hd.at hi
  have e1:(dm.map λd=>[d.1]).getD i []=[dm[i].1]:=by rw[getD_eq _ _ _ (by simpa using hi),kZ]
  rw[getD_eq _ _ _ hi]at this
  rw[e1,getD_eq _ _ _ hi]
  exact⟨rfl,by simp,λx hx=>by obtain rfl:=bI.1 hx;exact this.1⟩
 .generalize dm=l
  induction l with
  |nil=>rfl
  |cons d l ih=>simp only[dw,excess,ih];rfl
def Mt(dm:List DS3)(g:List (List Int))(i:Nat)(v:Int):List (List Int):=if v<=(dm.getD i zS).1\/(dm.getD i zS).2.1<v then g else g.set i (oq (g.getD i []) v)
theorem a8l(l:List DS0)(hv:jM l=0)(g:List (List Int))(hg:g.length=l.length)(hgl:∀r∈g,r.length<=3000000000)(i:Nat)(hi:i<l.length)(v:Int):m46 (l,()) g (i:Int) v=some (Mt (doms l) g i v,()):=by
 refine T.eq ?_
 unfold m46 Mt
 have vo:=val_ok hv
 rw[xO l i hi]
 refine T.dz (GQ l i hi hv) ?_
 dsimp only
 have hG:=aY g
 refine T.cnd (λhc=>?_) (λhc=>?_)<;>simp only[eX,fq,gD,gF,bD,bg]at hc
 .rw[ak hc];exact T.ret rfl
 .rw[au (by omega)]
  have e:atI g (i:Int) []=g.getD i []:=by rw[dW]
  have hgi:i<g.length:=by omega
  rw[e,fP,hG,bH]
  refine T.grd (by rw[eO,cZ];omega) (T.grd (by rw[bE];omega) (T.dz (a8s _ _ (by rw[getD_eq _ _ _ hgi];exact hgl _ (aV hgi))) (T.grd (by rw[bE];omega) (T.grd (by rw[fM];omega) (T.ret rfl)))))
theorem R8:∀(g:List (List Int)) (i:Nat) (r:List Int),i<g.length->r.length<=(g.getD i []).length+1->excess (g.set i r)<=excess g+1:=by
 intro g
 induction g with
 |nil=>intro i r h;cases h
 |cons x g ih =>
  intro i r h hr
  cases i with
  |zero=>simp only[yA,excess];simp at hr;omega
  |succ i=>simp only[List.set_cons_succ,excess];have:=ih i r (by simpa using h) (by simpa using hr);omega
theorem vD{α:Type}(g:List α)(i j:Nat)(r z:α)(h:i<g.length):(g.set i r).getD j z=if i=j then r else g.getD j z:=by
 rw[aM]
 by_cases e:i=j
 .subst e;rw[aW h,ak rfl];rfl
 .rw[aD e,au e,<- aM]
theorem a4X{dm:List DS3}{g:List (List Int)}(hg:GOk dm g){i:Nat}(hi:i<dm.length)(v:Int):GOk dm (Mt dm g i v)/\excess (Mt dm g i v)<=excess g+1:=by
 unfold Mt
 split
 .exact⟨hg,by omega⟩
 .rename_i q
  have hgi:i<g.length:=by rw[hg.1];exact hi
  refine⟨⟨by rw[bT];exact hg.1,λj hj=>?_⟩,R8 g i _ hgi (Xr _ _).2⟩
  rw[vD g i j _ _ hgi]
  split
  .rename_i e;subst e
   exact Xq (hg.2 i hj) (by omega) (by omega)
  .exact hg.2 j hj
theorem a0V:∀g:List (List Int),gI g<=2^excess g:=by
 intro g
 induction g with
 |nil=>simp[gI,excess]
 |cons r g ih =>
  simp only[gI,excess]
  rw[Nat.pow_add]
  refine pV ?_ ih
  have:∀n:Nat,n<=2^(n-1):=by
   intro n
   induction n with
   |zero=>simp
   |succ n ihn =>
    cases n with
    |zero=>simp
    |succ n =>
     simp only[jg]at ihn ⊢
     rw[Nat.pow_succ];omega
  exact this _
theorem GOk.row{dm:List DS3}{g:List (List Int)}(hg:GOk dm g){i:Nat}(hi:i<g.length):wO (dm.getD i zS).1 (dm.getD i zS).2.1 g[i]:=by
 have:=hg.2 i (by rw[<- hg.1];exact hi)
 rwa [getD_eq _ _ _ hi]at this
theorem wO.pos{lo hi:Int}{r:List Int}(h:wO lo hi r):1<=r.length:=by
 cases r with
 |nil=>cases h.1
 |cons x xs=>simp
theorem Qh:∀(g:List (List Int)),∀r∈g,r.length<=excess g+1:=by
 intro g
 induction g with
 |nil=>intro r h;cases h
 |cons x g ih =>
  intro r h
  simp only[excess]
  rcases bU.1 h with rfl|q
  .omega
  .have:=ih r q;omega
theorem Dm(g:List (List Int))(i:Nat)(h:i<g.length):gI (g.drop i)=g[i].length*gI (g.drop (i+1)):=by
 rw[mK h];rfl
theorem a1Z(g:List (List Int))(hl:g.length<=6)(hp:∀r∈g,1<=r.length)(hc:gI g<=8192):m47 g=some ((gI g:Int),()):=by
 refine T.eq ?_
 unfold m47
 have hG:=aY g
 have pd:∀g':List (List Int),(∀r∈g',1<=r.length)->1<=gI g':=by
  intro g'
  induction g' with
  |nil=>intro _;simp[gI]
  |cons r g' ih=>intro h;simp only[gI];exact pV (h r (by simp)) (ih λx hx=>h x (by simp[hx]))
 refine T.loop (λq=>∃(i n:Nat),i<=g.length/\n*gI (g.drop i)=gI g/\q=(g,(n:Int),(i:Int),())) (λq=>g.length-q.2.2.1.toNat) ⟨0,1,by omega,by simp,rfl⟩ ?_
 rintro _ ⟨i,n,hi,hn,rfl⟩
 dsimp only
 rw[hG,dW]
 refine T.cnd (λhc2=>?_) (λhc2=>?_)<;>simp only[bD,bg]at hc2
 .have hil:i<g.length:=by omega
  rw[getD_eq _ _ _ hil,aY]
  rw[Dm g i hil,<- Nat.mul_assoc]at hn
  have h1:1<=gI (g.drop (i+1)):=pd _ λr hr=>hp r (sI hr)
  have h2:n*g[i].length<=8192:=by
   have:n*g[i].length*1<=n*g[i].length*gI (g.drop (i+1)):=pV (bM _) h1
   omega
  have e:((n:Int)*(g[i].length:Int))=((n*g[i].length:Nat):Int):=by push_cast;rfl
  refine T.grd (by rw[bE];omega) (T.go ⟨i+1,n*g[i].length,by omega,hn,?_⟩ (by dsimp only;rw[bB (by omega) (by omega)];omega))
  rw[bB (by omega) (by omega),jV (by omega) (by omega),e]
  unfold qZ
  rw[AY (by omega)]
  rfl
 .obtain rfl:i=g.length:=by omega
  refine T.out ?_
  rw[vN]at hn
  simp only[gI,mU]at hn
  rw[hn]
def pK(dm:List DS3)(lo:Int)(ns:List DS1):Prop:=iU dm ns/\(∀i,i<ns.length->∀k,k<i->ns.getD k zN≠ns.getD i zN)/\∀x∈ns,∀c∈x.2.2.1,lo<=c
def Rf(ns:List DS1)(lo:Int)(i:Nat)(r:Int):Prop:=lo<=r/\r<(ns.length:Int)/\(0<=r->(i:Int)<=(ns.getD r.toNat zN).1)
theorem jd{α:Type}(a b:List α)(z:α){i:Nat}(h:i<a.length):(a++b).getD i z=a.getD i z:=by
 rw[aM,aJ h,<- aM]
theorem Rf.app{ns:List DS1}{lo:Int}{i:Nat}{r:Int}(h:Rf ns lo i r)(t:List DS1):Rf (ns++t) lo i r:=by
 obtain⟨h1,h2,h3⟩:=h
 refine⟨h1,by rw[aB];omega,λq=>?_⟩
 rw[jd _ _ _ (by omega)];exact h3 q
theorem Rf.weak{ns:List DS1}{lo:Int}{i j:Nat}{r:Int}(h:Rf ns lo i r)(hj:j<=i):Rf ns lo j r:=⟨h.1,h.2.1,λq=>by have:=h.2.2 q;omega⟩
theorem mZ.app{dm:List DS3}{ns:List DS1}{x:DS1}(h:mZ dm ns x)(t:List DS1):mZ dm (ns++t) x:=by
 obtain⟨h1,h2,h3,h4,h5,h6⟩:=h
 refine⟨h1,h2,h3,h4,h5,λk hk=>?_⟩
 obtain⟨a,b,c⟩:=h6 k hk
 refine⟨⟨a.1,by rw[aB];have:=a.2;omega⟩,b,λq=>?_⟩
 rw[jd _ _ _ (by have:=a.2;omega)];exact c q
theorem pK.nil(dm:List DS3)(lo:Int):pK dm lo []:=⟨λi hi=>(by cases hi),λi hi=>(by cases hi),λx hx=>(by cases hx)⟩
theorem pK.snoc{dm:List DS3}{lo:Int}{ns:List DS1}(h:pK dm lo ns){x:DS1}(hs:mZ dm (ns++[x]) x)(hx:∀c∈x.2.2.1,lo<=c)(hn:∀k,k<ns.length->ns.getD k zN≠x):pK dm lo (ns++[x]):=by
 obtain⟨h1,h2,h3⟩:=h
 have el:(ns++[x]).getD ns.length zN=x:=by rw[aM,aL (bM _)];simp
 refine⟨λi hi=>?_,λi hi k hk=>?_,λy hy=>?_⟩
 .rw[aB,aU]at hi
  rcases aS i ns.length with q|q
  .rw[jd _ _ _ q];exact(h1 i q).app _
  .obtain rfl:i=ns.length:=by omega
   rw[el];exact hs
 .rw[aB,aU]at hi
  rcases aS i ns.length with q|q
  .rw[jd _ _ _ q,jd _ _ _ (by omega)];exact h2 i q k hk
  .obtain rfl:i=ns.length:=by omega
   rw[el,jd _ _ _ hk];exact hn k hk
 .rcases aX.1 hy with q|q
  .exact h3 y q
  .obtain rfl:=bI.1 q;exact hx
theorem Dl{lo hi:Int}{r:List Int}(h:wO lo hi r):∀k,0<k->k<r.length->lo<r.getD k 0/\r.getD k 0<=hi/\r.getD (k-1) 0<r.getD k 0:=by
 intro k h0 hk
 obtain⟨a,b,c⟩:=h
 have hp:=je.1 b
 rw[getD_eq _ _ _ hk,getD_eq _ _ _ (by omega)]
 have e0:r[0]'(by omega)=lo:=by
  cases r with
  |nil=>cases a
  |cons x xs=>exact aI a
 refine⟨?_,c _ (aV hk),hp (k-1) k (by omega) hk (by omega)⟩
 have:=hp 0 k (by omega) hk h0
 omega
theorem a3c{lo hi:Int}{r:List Int}(h:wO lo hi r):r.getD 0 0=lo/\∀k,k<r.length->lo<=r.getD k 0:=by
 have e0:r.getD 0 0=lo:=by
  cases r with
  |nil=>cases h.1
  |cons x xs=>exact aI h.1
 refine⟨e0,λk hk=>?_⟩
 rcases eT k with rfl|q
 .omega
 .have:=(Dl h k q hk).1;omega
theorem om{α:Type}(a:List α)(x z:α):(a++[x]).getD a.length z=x:=by rw[aM,aL (bM _)];simp
theorem Tf {dm:List DS3} {lo:Int} (hd:iJ dm) (hlo:-256<=lo) (hlo0:lo<=0) {i:Nat} (hi:i < dm.length) {cuts next:List Int} {ns:List DS1} (hr:wO (dm.getD i zS).1 (dm.getD i zS).2.1 cuts) (hl:next.length=cuts.length) (hcl:cuts.length<=1000000)
  (hnx:∀c∈next,Rf ns lo (i+1) c) (hN:pK dm lo ns) (hn:ns.length<=1000000) (gg:List (List Int)) (vv:List Int) :
  T (Ep (i:Int) cuts gg vv next ns) (λy=>∃t,y=(y.1,gg,vv,next,ns++t,())/\pK dm lo (ns++t)/\Rf (ns++t) lo i y.1/\t.length<=1/\(next.length=1->t=[])):=by
 have hp:=hr.pos
 unfold Ep
 have hX:=aY next
 refine T.grd (by rw[bE];omega) (T.grd (by rw[fM];simp;omega) ?_)
 have e0:next.getD (Int.toNat 0) 0=next[0]'(by omega):=getD_eq next 0 0 (by omega)
 rw[e0]
 refine T.loop (λq=>∃(k:Nat) (c n:List Int),1<=k/\k<=next.length/\n.length=c.length+1/\c.length+1<=k/\(∀j,j<c.length->(dm.getD i zS).1<c.getD j 0/\c.getD j 0<=(dm.getD i zS).2.1/\(0<j->c.getD (j-1) 0<c.getD j 0))/\(∀x∈c,x<=cuts.getD (k-1) 0)/\
  (∀x∈n,Rf ns lo (i+1) x)/\(∀j,j<n.length->0<j->n.getD j 0≠n.getD (j-1) 0)/\q=((i:Int),cuts,(k:Int),gg,vv,next,ns,c,n,())) (λq=>next.length-q.2.2.1.toNat)
  ⟨1,[],[next[0]'(by omega)],by omega,by omega,rfl,by simp,λj hj=>(by cases hj),λx hx=>(by cases hx),λx hx=>(by obtain rfl:=bI.1 hx;exact hnx _ (aV _)),λj hj q=>(by simp at hj;omega),rfl⟩ ?_
 rintro _ ⟨k,c,n,hk1,hk,hnl,hck,hc,hcx,hnr,hna,rfl⟩
 dsimp only
 have hCl:=aY n
 have hCu:=aY cuts
 rw[hX,hCl,hCu]
 refine T.cnd (λhc1=>?_) (λhc1=>?_)<;>simp only[bD,bg]at hc1
 .have hkl:k<next.length:=by omega
  have en1:gP .i64 (n.length:Int) 1=((n.length-1:Nat):Int):=by rw[fE (by omega) (by omega)];omega
  rw[en1,bH,bH,dW]
  refine T.grd (by rw[bE];omega) (T.grd (by rw[fM];omega) (T.grd (by rw[bE];omega) (T.grd (by rw[fM];omega) (T.cnd (λhc2=>?_) (λhc2=>?_)))))<;>simp only[gJ,gX]at hc2
  .refine T.grd (by rw[bE];omega) (T.grd (by rw[eO,aU];omega) (T.grd (by rw[bE];omega) (T.grd (by rw[fM];omega) (T.grd (by rw[eO,aU];omega) ?_))))
   have hrk:=Dl hr k (by omega) (by omega)
   refine T.go ⟨k+1,c++[cuts.getD k 0],n++[next.getD k 0],by omega,by omega,by rw[aB,aB,aU,aU];omega,by rw[aB,aU];omega,λj hj=>?_,λx hx=>?_,λx hx=>?_,λj hj hj0=>?_,by rw[bB (by omega) (by omega)];rfl⟩ (by dsimp only;rw[bB (by omega) (by omega)];omega)
   .rw[aB,aU]at hj
    rcases aS j c.length with q|q
    .rw[jd _ _ _ q]
     have:=hc j q
     refine⟨this.1,this.2.1,λq0=>?_⟩
     rw[jd _ _ _ (by omega)];exact this.2.2 q0
    .obtain rfl:j=c.length:=by omega
     rw[om]
     refine⟨hrk.1,hrk.2.1,λq0=>?_⟩
     rw[jd _ _ _ (by omega),getD_eq c _ _ (by omega)]
     have:=hcx _ (aV (show c.length-1<c.length by omega))
     omega
   .rw[jg]
    rcases aX.1 hx with q|q
    .have:=hcx x q;omega
    .obtain rfl:=bI.1 q;omega
   .rcases aX.1 hx with q|q
    .exact hnr x q
    .obtain rfl:=bI.1 q
     rw[getD_eq _ _ _ hkl];exact hnx _ (aV hkl)
   .rw[aB,aU]at hj
    rcases aS j n.length with q|q
    .rw[jd _ _ _ q,jd _ _ _ (by omega)];exact hna j q hj0
    .obtain rfl:j=n.length:=by omega
     rw[om,jd _ _ _ (by omega)];exact hc2
  .have hrk:=Dl hr k (by omega) (by omega)
   refine T.go ⟨k+1,c,n,by omega,by omega,hnl,by omega,hc,λx hx=>?_,hnr,hna,by rw[bB (by omega) (by omega)];rfl⟩ (by dsimp only;rw[bB (by omega) (by omega)];omega)
   rw[jg]
   have:=hcx x hx;omega
 .obtain rfl:k=next.length:=by omega
  refine T.pX (T.cnd (λhc2=>?_) (λhc2=>?_))<;>simp only[dF,dP]at hc2
  .refine T.grd (by rw[bE];omega) (T.grd (by rw[fM];simp;omega) (T.ret ⟨[],by rw[bS],by rw[bS];exact hN,?_,by simp,λ_=>rfl⟩))
   have en:n.getD (Int.toNat 0) 0=n[0]'(by omega):=getD_eq n 0 0 (by omega)
   rw[bS]
   show Rf ns lo i (n.getD (Int.toNat 0) 0)
   rw[en]
   exact(hnr _ (aV _)).weak (by omega)
  have hNs:=aY ns
  refine T.loop (λq=>∃j:Nat,j<=ns.length/\(∀j',j'<j->ns.getD j' zN≠((i:Int),c,n,()))/\q=((i:Int),(j:Int),gg,vv,next,ns,c,n,())) (λq=>ns.length-q.2.1.toNat) ⟨0,by omega,λj hj=>by omega,rfl⟩ ?_
  rintro _ ⟨j,hj,hjn,rfl⟩
  dsimp only
  rw[hNs,bH]
  refine T.cnd (λhc3=>?_) (λhc3=>?_)<;>simp only[bD,bg]at hc3
  .have hjl:j<ns.length:=by omega
   have hsj:=(hN.1 j hjl).len hd
   have Qy:ns.getD j zN ≠ ((i:Int),c,n,())->T (some (Sum.inl (β:=Int × (List (List Int)) × (List Int) × (List Int) × (List DS1) × Unit) ((i:Int),bZ .i64 (j:Int) 1,gg,vv,next,ns,c,n,()))) (LQ (fun q=>∃ j:Nat,j<=ns.length/\(∀ j',j' < j->ns.getD j' zN ≠ ((i:Int),c,n,()))/\q=((i:Int),(j:Int),gg,vv,next,ns,c,n,())) (fun q=>ns.length - q.2.1.toNat) (ns.length - (j:Int).toNat)
     (λy=>∃t,y=(y.1,gg,vv,next,ns++t,())/\pK dm lo (ns++t)/\Rf (ns++t) lo i y.1/\t.length<=1/\(next.length=1->t=[]))):=λhx=>by
    refine T.go ⟨j+1,by omega,λj' hj'=>?_,by rw[bB (by omega) (by omega)];rfl⟩ (by dsimp only;rw[bB (by omega) (by omega)];omega)
    rcases aS j' j with q|q
    .exact hjn j' q
    .obtain rfl:j'=j:=by omega
     exact hx
   have ez:ns.getD j (0,[],[],())=ns.getD j zN:=rfl
   rw[ez]
   refine T.grd (by rw[bE];omega) (T.grd (by rw[fM];omega) (T.cnd (λhc4=>?_) (λhc4=>?_)))<;>simp only[dF,dP]at hc4
   .refine T.dz (G9 _ _ (by omega)) ?_
    dsimp only
    refine T.cnd (λhc5=>?_) (λhc5=>?_)<;>simp only[dI,gG]at hc5
    .refine T.dz (G9 _ _ (by omega)) ?_
     dsimp only
     refine T.cnd (λhc6=>?_) (λhc6=>?_)<;>simp only[dI,gG]at hc6
     .refine T.out ⟨[],by rw[bS],by rw[bS];exact hN,?_,by simp,λ_=>rfl⟩
      rw[bS]
      exact⟨by show lo<=(j:Int);omega,by show(j:Int)<_;omega,λ_=>by show(i:Int)<=(ns.getD (j:Int).toNat zN).1;rw[bH,hc4];omega⟩
     .exact Qy λe=>hc6 (by rw[e])
    .exact Qy λe=>hc5 (by rw[e])
   .exact Qy λe=>hc4 (by rw[e])
  .obtain rfl:j=ns.length:=by omega
   refine T.pX (T.grd (by rw[eO,aU];omega) (T.ret ⟨[((i:Int),c,n,())],?_,hN.snoc ?_ ?_ hjn,?_,by simp,λq=>?_⟩))
   .have e1:gP .i64 (aG (ns++[((i:Int),c,n,())])) 1=(ns.length:Int):=by rw[aY,aB,aU,fE (by omega) (by omega)];omega
    rw[e1]
   .refine⟨by show(0:Int)<=i;omega,by show(i:Int)<_;omega,by show 0<c.length;omega,hnl,λk hk=>?_,λk hk=>?_⟩
    .have:=hc k hk
     show(dm.getD (i:Int).toNat zS).1<_/\_<=(dm.getD (i:Int).toNat zS).2.1/\_
     rw[bH];exact this
    .have hk':k<n.length:=hk
     have hm:=hnr (n.getD k 0) (by rw[getD_eq _ _ _ hk'];exact aV hk')
     refine⟨⟨by show -256<=n.getD k 0;have:=hm.1;omega,(hm.app _).2.1⟩,λq=>hna k hk' q,λq=>?_⟩
     have:=(hm.app [((i:Int),c,n,())]).2.2 q
     show(i:Int)<((ns++[((i:Int),c,n,())]).getD (n.getD k 0).toNat zN).1
     omega
   .intro x hx
    exact(hnr x hx).1
   .have e1:gP .i64 (aG (ns++[((i:Int),c,n,())])) 1=(ns.length:Int):=by rw[aY,aB,aU,fE (by omega) (by omega)];omega
    show Rf _ lo i (gP .i64 (aG (ns++[((i:Int),c,n,())])) 1)
    rw[e1]
    refine⟨by omega,by rw[aB,aU];omega,λ_=>?_⟩
    rw[bH,om]
    exact nY _
   .omega
theorem a1m(x:Int×Int×Int×(List (List Int))×(List Int)×(List DS1)×Unit):Mo λs=>Ie s x.1 x.2.1 x.2.2.1 x.2.2.2.1 x.2.2.2.2.1 x.2.2.2.2.2.1:=by
 unfold Ie;(repeat' (first|exact Mo.const _|exact Mo.self _|apply Mo.bind|apply Mo.cond|apply Mo.map|apply Mo.join|apply Mo.loop|(intro _)))
theorem a11 {dm:List DS3} {lo:Int} (hd:iJ dm) (hlo:-256<=lo) (hlo0:lo<=0) {g:List (List Int)} (hg:GOk dm g) (hgl:∀ r ∈ g,r.length<=1000000) (hP:gI g<=1000000) {v:List Int} (hv:∀ x ∈ v,0<=x/\lo<=-1 - x) (hvl:v.length<=1000000) (i at_:Nat) (ns:List DS1) (hi:i<=g.length) (hat:at_ + gI (g.drop i)<=v.length) (hN:pK dm lo ns) (hns:ns.length + gI (g.drop i)<=1000000) :
  T (m80 (i:Int) (at_:Int) (gI (g.drop i):Int) g v ns) (λy=>∃t,y=(y.1,g,v,ns++t,())/\pK dm lo (ns++t)/\Rf (ns++t) lo i y.1/\t.length+1<=gI (g.drop i)):=by
 unfold m80
 refine EB (ι:=Nat×Nat×List DS1) a1m (λq=>((q.1:Int),(q.2.1:Int),(gI (g.drop q.1):Int),g,v,q.2.2,())) (λq=>q.1<=g.length/\q.2.1+gI (g.drop q.1)<=v.length/\pK dm lo q.2.2/\q.2.2.length+gI (g.drop q.1)<=1000000)
  (λq y=>∃t,y=(y.1,g,v,q.2.2++t,())/\pK dm lo (q.2.2++t)/\Rf (q.2.2++t) lo q.1 y.1/\t.length+1<=gI (g.drop q.1)) (λq=>g.length-q.1) ?_ (i,at_,ns) ⟨hi,hat,hN,hns⟩
 rintro⟨i,at_,ns⟩ ⟨hi,hat,hN,hns⟩ s ih
 dsimp only at hi hat hN hns ih ⊢
 unfold Ie
 have hG:=aY g
 have hV:=aY v
 have hd2:=hd.2.1
 have hgd:=hg.1
 rw[hG,hV]
 refine T.cnd (λhc=>?_) (λhc=>?_)<;>simp only[dF,dP]at hc
 .obtain rfl:i=g.length:=by omega
  rw[vN]at hat ⊢
  simp only[gI]at hat ⊢
  have hal:at_<v.length:=by omega
  rw[dW,getD_eq _ _ _ hal]
  have hx:=hv _ (aV hal)
  refine T.grd (by rw[bE];omega) (T.ret ⟨[],by rw[bS],by rw[bS];exact hN,?_,by simp⟩)
  rw[bS,fE (by omega) (by omega)]
  exact⟨hx.2,by show -1-v[at_]<_;omega,λq=>absurd q (by show ¬0<=-1-v[at_];omega)⟩
 have hil:i<g.length:=by omega
 have hrow:=hg.row hil
 have hrp:=hrow.pos
 have hpd:=Dm g i hil
 have Ra:yN .i64 (gI (g.drop i):Int) (g[i].length:Int)=(gI (g.drop (i+1)):Int):=by
  unfold yN
  rw[hpd,oO (by omega)]
  have:((g[i].length*gI (g.drop (i+1)):Nat):Int)/(g[i].length:Int)=(gI (g.drop (i+1)):Int):=by
   rw[<- Int.natCast_ediv,Nat.mul_div_cancel_left _ (by omega)]
  rw[this]
  have h1:gI (g.drop (i+1))<=gI (g.drop i):=by
   rw[hpd]
   have:1*gI (g.drop (i+1))<=g[i].length*gI (g.drop (i+1)):=pV hrp (bM _)
   omega
  rw[wrap64]<;>omega
 have hgi:=hgl _ (aV hil)
 have hR:=aY g[i]
 rw[dW,getD_eq _ _ _ hil,hR,Ra]
 generalize hpt:gI (g.drop (i+1))=part at hpd
 refine T.grd (by rw[bE];omega) (T.grd (by rw[gJ];omega) ?_)
 refine T.loop (λq=>∃(k:Nat) (t:List DS1) (nx:List Int),k<=g[i].length/\nx.length=k/\pK dm lo (ns++t)/\(∀c∈nx,Rf (ns++t) lo (i+1) c)/\t.length+k<=k*part/\q=((i:Int),(at_:Int),(part:Int),(k:Int),g,v,ns++t,nx,())) (λq=>g[i].length-q.2.2.2.1.toNat) ⟨0,[],[],by omega,rfl,by rw[bS];exact hN,λc hc=>(by cases hc),by simp,by rw[bS];rfl⟩ ?_
 rintro _ ⟨k,t,nx,hk,hnx,hNt,hrf,htl,rfl⟩
 dsimp only
 rw[hG,dW,getD_eq _ _ _ hil,hR]
 refine T.grd (by rw[bE];omega) (T.cnd (λhc2=>?_) (λhc2=>?_))<;>simp only[bD,bg]at hc2
 .have hkl:k<g[i].length:=by omega
  have hkp:(k+1)*part<=g[i].length*part:=pV hkl (bM _)
  rw[d9,gy]at hkp
  have e1:bZ .i64 (i:Int) 1=((i+1:Nat):Int):=by rw[bB (by omega) (by omega)];omega
  have ekp:(k:Int)*(part:Int)=((k*part:Nat):Int):=by push_cast;rfl
  have e2:bZ .i64 (at_:Int) (DI .i64 (k:Int) (part:Int))=((at_+k*part:Nat):Int):=by
   rw[jV (by omega) (by omega),ekp,bB (by omega) (by omega)];omega
  rw[e1,e2]
  have hcall:=ih (i+1,at_+k*part,ns++t) ⟨by omega,by dsimp only;rw[hpt];omega,hNt,by dsimp only;rw[hpt,aB];omega⟩ (by dsimp only;omega)
  dsimp only at hcall
  rw[hpt]at hcall
  refine T.call hcall ?_
  rintro⟨r,q1,q2,q3,⟨⟩⟩ ⟨t2,heq,hN2,hr2,ht2⟩
  obtain⟨rfl,rfl,rfl⟩:g=q1/\v=q2/\ns++t++t2=q3:=by
   simp only[nD]at heq
   exact⟨heq.2.1.symm,heq.2.2.1.symm,heq.2.2.2.1.symm⟩
  dsimp only at hr2 ⊢
  rw[bq]at hN2 hr2
  rw[bq]
  refine T.grd (by rw[eO,aU];omega) (T.go ⟨k+1,t++t2,nx++[r],by omega,by rw[aB,aU,hnx],hN2,λc hc=>?_,?_,by rw[bB (by omega) (by omega)];rfl⟩ (by dsimp only;rw[bB (by omega) (by omega)];omega))
  .rcases aX.1 hc with q|q
   .have:=(hrf c q).app t2
    rwa [bq]at this
   .obtain rfl:=bI.1 q;exact hr2
  .rw[aB,d9,gy];omega
 .obtain rfl:k=g[i].length:=by omega
  refine T.pX (T.grd (by rw[bE];omega) (T.call (Tf hd hlo hlo0 (by omega) (cuts:=g[i]) (next:=nx) (ns:=ns++t) hrow (by omega) hgi hrf hNt (by rw[aB];omega) g v) ?_))
  rintro⟨r,q1,q2,q3,q4,⟨⟩⟩ ⟨t2,heq,hN2,hr2,ht2,ht3⟩
  obtain⟨rfl,rfl,rfl,rfl⟩:g=q1/\v=q2/\nx=q3/\ns++t++t2=q4:=by
   simp only[nD]at heq
   exact⟨heq.2.1.symm,heq.2.2.1.symm,heq.2.2.2.1.symm,heq.2.2.2.2.1.symm⟩
  dsimp only at hr2 ⊢
  rw[bq]at hN2 hr2
  rw[bq]
  refine T.grd (by rw[iM];exact⟨jS _,rfl⟩) (T.ret ⟨t++t2,rfl,hN2,hr2,?_⟩)
  rw[aB,hpd]
  have hlx:g[i].length=nx.length:=hnx.symm
  rw[hlx]at htl ⊢
  rw[hlx]at hrp
  by_cases h1:nx.length=1
  .rw[ht3 h1,cZ];omega
  .omega
section
variable{ns:List DS1}{rk:Nat->Nat}
theorem Bn(hR:rT ns rk):∀(m f:Nat) (c:Int) (o:List Nat),rkI rk c<=m->m<=f->c<(ns.length:Int)->ko ns.length o->(0<=c->c.toNat∈dL ns f o c)/\∀r∈dL ns f o c,r∉o->∀k∈kids ns r,0<=k->k.toNat∈dL ns f o c:=by
 intro m
 induction m with
 |zero =>
  intro f c o h _ hc ho
  have hneg:c<0:=by unfold rkI at h;split at h;assumption;omega
  rw[nS f o hneg]
  exact⟨λq=>by omega,λr hr hn=>absurd hr hn⟩
 |succ m ih =>
  intro f c o h hf hc ho
  rcases fu c 0 with q|q
  .rw[nS f o q]
   exact⟨λq=>by omega,λr hr hn=>absurd hr hn⟩
  by_cases hm:c.toNat∈o
  .rw[vS f o hm]
   exact⟨λ_=>hm,λr hr hn=>absurd hr hn⟩
  obtain⟨g,rfl⟩:∃g,f=g+1:=⟨f-1,by omega⟩
  unfold rkI at h
  rw[au (by omega)]at h
  have hk:=(hR c.toNat (by omega)).2
  have e:dL ns (g+1) o c=(kids ns c.toNat).foldl (dL ns g) (o++[c.toNat]):=by
   simp only[dL]
   rw[au (by rintro(r|r);omega;exact hm r)]
  rw[e]
  have key:∀(cs:List Int),(∀x∈cs,x∈kids ns c.toNat)->∀o',ko ns.length o'->(∀x∈cs,0<=x->x.toNat∈cs.foldl (dL ns g) o')/\∀r∈cs.foldl (dL ns g) o',r∉o'->∀k∈kids ns r,0<=k->k.toNat∈cs.foldl (dL ns g) o':=by
   intro cs
   induction cs with
   |nil=>intro _ o' _;exact⟨λx hx=>(by cases hx),λr hr hn=>absurd hr hn⟩
   |cons x cs ih2 =>
    intro hx o' ho'
    obtain⟨k1,k2⟩:=hk x (hx x (by simp))
    have hrx:rkI rk x<=m:=by unfold rkI;split;omega;rename_i q2;have:=k2 (by omega);omega
    obtain⟨a1,a2⟩:=ih g x o' hrx (by omega) k1 ho'
    obtain⟨ho2,t1,e1⟩:=rP hR g x o' k1 ho'
    obtain⟨b1,b2⟩:=ih2 (λy hy=>hx y (by simp[hy])) _ ho2
    obtain⟨_,t2,e2⟩:=EA hR g cs (λy hy=>(hk y (hx y (by simp[hy]))).1) _ ho2
    rw[dx]
    have up:∀z,z∈dL ns g o' x->z∈cs.foldl (dL ns g) (dL ns g o' x):=λz hz=>by rw[e2];exact List.mem_append_left _ hz
    refine⟨λy hy h0=>?_,λr hr hn k hk' h0=>?_⟩
    .rcases bU.1 hy with rfl|hy
     .exact up _ (a1 h0)
     .exact b1 y hy h0
    .by_cases hin:r∈dL ns g o' x
     .exact up _ (a2 r hin hn k hk' h0)
     .exact b2 r hr hin k hk' h0
  have hso:=ho.snoc (show c.toNat<ns.length by omega) hm
  obtain⟨c1,c2⟩:=key (kids ns c.toNat) (λ_ q=>q) _ hso
  obtain⟨_,t,e2⟩:=EA hR g (kids ns c.toNat) (λy hy=>(hk y hy).1) _ hso
  refine⟨λ_=>?_,λr hr hn k hk' h0=>?_⟩
  .rw[e2];simp
  .by_cases hin:r∈o++[c.toNat]
   .rcases aX.1 hin with q2|q2
    .exact absurd q2 hn
    .obtain rfl:=bI.1 q2
     exact c1 k hk' h0
   .exact c2 r hr hin k hk' h0
end
theorem sj(ns:List DS1)(O:List Nat):(o8 ns O).length=O.length:=by simp[o8]
theorem Eh(ns:List DS1)(O:List Nat){r:Nat}(h:r∈O):(o8 ns O).getD (O.idxOf r) zN=imN ns O r:=by
 have hl:=iT h
 rw[getD_eq _ _ _ (by rw[sj];exact hl)]
 simp only[o8,kZ,oz]
theorem Fg{O:List Nat}{c:Int}:eF O c<0↔c<0:=by unfold eF;split<;>omega
theorem Oz{O:List Nat}{a b:Nat}(ha:a∈O)(hb:b∈O)(h:O.idxOf a=O.idxOf b):a=b:=by
 have h1:=oz (iT ha)
 have h2:=oz (iT hb)
 simp only[h]at h1
 rw[<- h1,h2]
theorem Ld{O:List Nat}{a b:Int}(ha:0<=a->a.toNat∈O)(hb:0<=b->b.toNat∈O)(h:eF O a=eF O b):a=b:=by
 unfold eF at h
 split at h<;>split at h
 .exact h
 .omega
 .omega
 .have:=Oz (ha (by omega)) (hb (by omega)) (by omega)
  omega
theorem Wd (ns:List DS1) (O:List Nat) (hcl:∀ r ∈ O,∀ k ∈ kids ns r,0<=k->k.toNat ∈ O):∀ (f:Nat) (c:Int) (o:List Nat),(0<=c->c.toNat ∈ O)->(∀ x ∈ o,x ∈ O) ->
  dL (o8 ns O) f (o.map O.idxOf) (eF O c)=(dL ns f o c).map O.idxOf/\∀x∈dL ns f o c,x∈O:=by
 intro f
 induction f with
 |zero=>intro c o _ ho;exact⟨rfl,ho⟩
 |succ f ih =>
  intro c o hc ho
  rcases fu c 0 with q|q
  .rw[nS _ _ q,nS _ _ (Fg.2 q)];exact⟨rfl,ho⟩
  have e:(eF O c).toNat=O.idxOf c.toNat:=by unfold eF;rw[au (by omega)];rfl
  by_cases hm:c.toNat∈o
  .rw[vS _ _ hm,vS _ _ (by rw[e];exact List.mem_map_of_mem hm)];exact⟨rfl,ho⟩
  have hcO:=hc q
  have hnm:(eF O c).toNat∉o.map O.idxOf:=λh=>by
   rw[e]at h
   obtain⟨x,hx,hxe⟩:=dU.1 h
   have:=Oz (ho x hx) hcO hxe
   exact hm (this▸hx)
  have e1:dL ns (f+1) o c=(kids ns c.toNat).foldl (dL ns f) (o++[c.toNat]):=by
   simp only[dL];rw[au (by rintro(r|r);omega;exact hm r)]
  have e2:dL (o8 ns O) (f+1) (o.map O.idxOf) (eF O c)=(kids (o8 ns O) (eF O c).toNat).foldl (dL (o8 ns O) f) (o.map O.idxOf++[(eF O c).toNat]):=by
   simp only[dL];rw[au (by rintro(r|r);exact absurd (Fg.1 r) (by omega);exact hnm r)]
  rw[e1,e2,e]
  have e3:kids (o8 ns O) (O.idxOf c.toNat)=(kids ns c.toNat).map (eF O):=by
   unfold kids
   rw[Eh ns O hcO];rfl
  have e4:o.map O.idxOf++[O.idxOf c.toNat]=(o++[c.toNat]).map O.idxOf:=by simp
  rw[e3,e4,List.foldl_map]
  have key:∀(cs:List Int),(∀x∈cs,x∈kids ns c.toNat)->∀o',(∀x∈o',x∈O)->cs.foldl (λx y=>dL (o8 ns O) f x (eF O y)) (o'.map O.idxOf)=(cs.foldl (dL ns f) o').map O.idxOf/\∀x∈cs.foldl (dL ns f) o',x∈O:=by
   intro cs
   induction cs with
   |nil=>intro _ o' ho';exact⟨rfl,ho'⟩
   |cons x cs ih2 =>
    intro hx o' ho'
    obtain⟨a1,a2⟩:=ih x o' (λh0=>hcl c.toNat hcO x (hx x (by simp)) h0) ho'
    rw[dx,dx,a1]
    exact ih2 (λy hy=>hx y (by simp[hy])) _ a2
  exact key (kids ns c.toNat) (λ_ h=>h) _ (λx hx=>by
   rcases aX.1 hx with r|r
   .exact ho x r
   .obtain rfl:=bI.1 r;exact hcO)
theorem a1r{O:List Nat}(h:O.Nodup):O.map O.idxOf=List.range O.length:=by
 apply jq (by simp)
 intro i h1 h2
 rw[kZ,uj,h.idxOf_getElem]
theorem SA {dm:List DS3} {lo:Int} {ns:List DS1} {root:Int} (hd:iJ dm) (hN:pK dm lo ns) (hlo:-256<=lo) (hlo0:lo<=0) (hroot:root < (ns.length:Int)) (hrl:lo<=root) (hlen:ns.length<=1000) :
  VD dm (o8 ns (dL ns 8 [] root)) (eF (dL ns 8 [] root) root)/\(∀x∈o8 ns (dL ns 8 [] root),∀c∈x.2.2.1,lo<=c)/\lo<=eF (dL ns 8 [] root) root:=by
 obtain⟨hs,hdi,hlw⟩:=hN
 obtain⟨hR,hF⟩:=nM hd hs
 have h0:ko ns.length []:=⟨lu,λx hx=>by cases hx⟩
 have hO:=(rP hR 8 root [] hroot h0).1
 have hr8:rkI (rkA ns) root<=8:=by
  unfold rkI
  split
  .omega
  .exact hF _ (by omega)
 obtain⟨hcr,hcl0⟩:=Bn hR 8 8 root [] hr8 (bM _) hroot h0
 have a6R:=Wd ns (dL ns 8 [] root)
 generalize hOe:dL ns 8 [] root=O at *
 have hcl:∀r∈O,∀k∈kids ns r,0<=k->k.toNat∈O:=λr hr=>hcl0 r hr (λq=>by cases q)
 have a4n:=(a6R hcl 8 root [] hcr (λx hx=>by cases hx)).1
 rw[hOe,a1r hO.1]at a4n
 have hOl:=hO.len
 have QN:∀c:Int,lo<=c->lo<=eF O c:=λc h=>by unfold eF;split;exact h;omega
 have a4s:∀c:Int,(0<=c->c.toNat∈O)->eF O c<(O.length:Int):=λc h=>by
  unfold eF
  split
  .omega
  .have:=iT (h (by omega));omega
 have at_:∀j (hj:j<O.length),(o8 ns O).getD j zN=imN ns O O[j]:=λj hj=>by
  rw[getD_eq _ _ _ (by rw[sj];exact hj)];simp[o8]
 have kl:∀r,r<ns.length->∀c∈kids ns r,lo<=c:=λr hr c hc=>hlw (ns.getD r zN) (by rw[getD_eq _ _ _ hr];exact aV hr) c hc
 refine⟨⟨by rw[sj];omega,⟨by have:=QN root hrl;omega,by rw[sj];exact a4s root hcr⟩,λi hi=>?_,λi hi k hk=>?_,by rw[sj];exact a4n⟩,λx hx c hc=>?_,QN root hrl⟩
 .rw[sj]at hi
  rw[at_ i hi]
  have hrm:=aV hi
  have hrn:=hO.2 _ hrm
  generalize O[i]=r at hrm hrn
  obtain⟨s1,s2,s3,s4,s5,s6⟩:=hs r hrn
  have s6':∀k,k<(kids ns r).length->jE ns.length ((kids ns r).getD k 0)/\(0<k->(kids ns r).getD k 0≠(kids ns r).getD (k-1) 0)/\(0<=(kids ns r).getD k 0->(ns.getD r zN).1<(ns.getD ((kids ns r).getD k 0).toNat zN).1):=s6
  have eg:∀k,k<(kids ns r).length->((kids ns r).map (eF O)).getD k 0=eF O ((kids ns r).getD k 0):=λk hk=>by
   rw[getD_eq _ _ _ (by rw[bR];exact hk),kZ,getD_eq _ _ _ hk]
  have km:∀k,k<(kids ns r).length->(kids ns r).getD k 0∈kids ns r:=λk hk=>by rw[getD_eq _ _ _ hk];exact aV hk
  refine⟨s1,s2,s3,by show((kids ns r).map (eF O)).length=_;rw[bR];exact s4,s5,λk hk=>?_⟩
  have hk':k<(kids ns r).length:=by
   have:k<((kids ns r).map (eF O)).length:=hk
   rwa [bR]at this
  show jE (o8 ns O).length (((kids ns r).map (eF O)).getD k 0)/\(0<k->((kids ns r).map (eF O)).getD k 0≠((kids ns r).map (eF O)).getD (k-1) 0)/\(0<=((kids ns r).map (eF O)).getD k 0->(ns.getD r zN).1<((o8 ns O).getD (((kids ns r).map (eF O)).getD k 0).toNat zN).1)
  rw[eg k hk',sj]
  have hc0:0<=(kids ns r).getD k 0->((kids ns r).getD k 0).toNat∈O:=λq=>hcl r hrm _ (km k hk') q
  refine⟨⟨by have:=QN _ (kl r hrn _ (km k hk'));omega,a4s _ hc0⟩,λq e=>?_,λq=>?_⟩
  .rw[eg (k-1) (by omega)]at e
   exact(s6' k hk').2.1 q (Ld hc0 (λq2=>hcl r hrm _ (km (k-1) (by omega)) q2) e)
  ·have hc1:0<=(kids ns r).getD k 0:=by
    rcases fu ((kids ns r).getD k 0) 0 with r2|r2
    .have:=Fg (O:=O).2 r2;omega
    .exact r2
   have e:(eF O ((kids ns r).getD k 0)).toNat=O.idxOf ((kids ns r).getD k 0).toNat:=by
    unfold eF;rw[au (by omega)];rfl
   rw[e,Eh ns O (hc0 hc1)]
   exact(s6' k hk').2.2 hc1
 .rw[sj]at hi
  have hkl:k<O.length:=by omega
  rw[at_ i hi,at_ k hkl]
  intro e
  have hi2:=hO.2 _ (aV hi)
  have hk2:=hO.2 _ (aV hkl)
  have hne:O[k]≠O[i]:=λq=>by have:=(List.getElem_inj hO.1).1 q;omega
  have hmi:=aV hi
  have hmk:=aV hkl
  generalize O[i]=a at e hi2 hne hmi
  generalize O[k]=b at e hk2 hne hmk
  have e1:=kM Prod.fst e
  have e2:=kM (λx:DS1=>x.2.1) e
  have e3:=kM (λx:DS1=>x.2.2.1) e
  have e1:(ns.getD b zN).1=(ns.getD a zN).1:=e1
  have e2:(ns.getD b zN).2.1=(ns.getD a zN).2.1:=e2
  have e3:(kids ns b).map (eF O)=(kids ns a).map (eF O):=e3
  have inj:∀(xs ys:List Int),(∀x∈xs,0<=x->x.toNat∈O)->(∀x∈ys,0<=x->x.toNat∈O)->xs.map (eF O)=ys.map (eF O)->xs=ys:=by
   intro xs
   induction xs with
   |nil=>intro ys _ _ h;cases ys with
    |nil=>rfl
    |cons y ys=>cases h
   |cons x xs ih =>
    intro ys hx hy h
    cases ys with
    |nil=>cases h
    |cons y ys =>
     rw[dw,dw]at h
     obtain⟨h1,h2⟩:=mg h
     rw[Ld (hx x (by simp)) (hy y (by simp)) h1,ih ys (λz hz=>hx z (by simp[hz])) (λz hz=>hy z (by simp[hz])) h2]
  have e4:kids ns b=kids ns a:=inj _ _ (hcl b hmk) (hcl a hmi) e3
  have e5:ns.getD b zN=ns.getD a zN:=sG e1 (sG e2 (sG e4 rfl))
  rcases oV a b with q|q|q
  .exact hdi b hk2 a q e5.symm
  .exact hne q.symm
  .exact hdi a hi2 b q e5
 .obtain⟨r,hr,rfl⟩:=dU.1 hx
  have hc:c∈(kids ns r).map (eF O):=hc
  obtain⟨k,hk,rfl⟩:=dU.1 hc
  exact QN k (kl r (hO.2 r hr) k hk)
theorem a1p(x:Int×(List (List Int))×(List Int)×(List DS1)×(List Int)×(List DS1)×Unit):Mo λs=>Ii s x.1 x.2.1 x.2.2.1 x.2.2.2.1 x.2.2.2.2.1 x.2.2.2.2.2.1:=by
 unfold Ii;(repeat' (first|exact Mo.const _|exact Mo.self _|apply Mo.bind|apply Mo.cond|apply Mo.map|apply Mo.join|apply Mo.loop|(intro _)))
theorem a3Q {ns:List DS1} {rk:Nat->Nat} (hR:rT ns rk) (hn:ns.length<=1000000) {F:Nat} (hF:∀ r,r < ns.length->rk r + 1<=F) (g:List (List Int)) (v:List Int) (r:Int) (ord:List Nat) (hr:r < (ns.length:Int)) (ho:ko ns.length ord) :
  T (m58 r g v (nQ ns ord) (fF ns.length ord) ns) (λy=>y=(g,v,nQ ns (dL ns F ord r),fF ns.length (dL ns F ord r),ns,())):=by
 unfold m58
 refine EB (ι:=Int×List Nat) a1p (λq=>(q.1,g,v,nQ ns q.2,fF ns.length q.2,ns,())) (λq=>q.1<(ns.length:Int)/\ko ns.length q.2)
  (λq y=>y=(g,v,nQ ns (dL ns F q.2 q.1),fF ns.length (dL ns F q.2 q.1),ns,())) (λq=>rkI rk q.1) ?_ (r,ord) ⟨hr,ho⟩
 rintro⟨r,ord⟩ ⟨hr,ho⟩ s ih
 dsimp only at hr ho ih ⊢
 unfold Ii
 have hN:=aY ns
 have hP:=aY (fF ns.length ord)
 have hPl:=iW ns.length ord
 have hO:=ho.len
 rcases fu r 0 with h0|h0
 .refine T.grd (by rw[fG,dO,iR,bD];exact .inr h0) (T.grd (by rw[fG,dO,iR,bD];exact .inr h0) (T.ct (by rw[eX,bD];exact .inl h0) (T.ret ?_)))
  rw[nS F ord h0]
 have hrt:r.toNat<ns.length:=by omega
 refine T.grd (by rw[fG,bE];left;omega) (T.grd (by rw[fG,fM];left;omega) (T.cnd (λhc=>?_) (λhc=>?_)))
 .rw[eX,bD,gD,pz hrt]at hc
  have hin:r.toNat∈ord:=by
   rcases hc with q|q
   .omega
   .split at q
    .assumption
    .omega
  refine T.ret ?_
  rw[vS F ord hin]
 rw[fq,bg,gF,pz hrt]at hc
 have hni:r.toNat∉ord:=λq=>by
  rw[ak q]at hc
  omega
 obtain⟨hkl,hk⟩:=hR r.toNat hrt
 have hun:=xV hR hF h0 hr hni
 have hso:=ho.snoc hrt hni
 have hOl:=Cr ns ord
 have hlO:=aY (nQ ns ord)
 have hrI:bnd r (aG ns)=true:=by rw[bE];omega
 have hrB:inB r.toNat ns=true:=by rw[fM];omega
 refine T.grd (by rw[bE];omega) (T.grd (by rw[fM];omega) (T.grd hrI (T.grd hrB (T.grd (by rw[eO,aU];omega) ?_))))
 have eN:ns.getD r.toNat (0,[],[],())=ns.getD r.toNat zN:=rfl
 have eK:(ns.getD r.toNat zN).2.2.1=kids ns r.toNat:=rfl
 have e1:List.set (fF ns.length ord) r.toNat (aG (nQ ns ord))=fF ns.length (ord++[r.toNat]):=by rw[hlO,hOl,xU hrt hni]
 rw[eN,<- Aw,e1]
 have hK:=aY (kids ns r.toNat)
 refine T.loop (λq=>∃(i:Nat) (o:List Nat),i<=(kids ns r.toNat).length/\ko ns.length o/\((kids ns r.toNat).take i).foldl (dL ns F) (ord++[r.toNat])=o/\q=(r,(i:Int),g,v,nQ ns o,fF ns.length o,ns,())) (λq=>(kids ns r.toNat).length-q.2.1.toNat) ⟨0,_,by omega,hso,rfl,rfl⟩ ?_
 rintro _ ⟨i,o,hi,hoo,pI,rfl⟩
 dsimp only
 rw[eN,eK,hK,dW]
 refine T.grd hrI (T.grd hrB (T.cnd (λhc3=>?_) (λhc3=>?_)))<;>simp only[bD,bg]at hc3
 .have hil:i<(kids ns r.toNat).length:=by omega
  have ec:=getD_eq (kids ns r.toNat) i 0 hil
  rw[ec]
  obtain⟨k1,k2⟩:=hk _ (aV hil)
  have hlt2:rkI rk (kids ns r.toNat)[i]<rkI rk r:=by
   unfold rkI
   rw[au (show ¬r<0 by omega)]
   split
   .omega
   .rename_i q;have:=k2 (by omega);omega
  refine T.grd hrI (T.grd hrB (T.grd (by rw[bE];omega) (T.call (ih ((kids ns r.toNat)[i],o) ⟨k1,hoo⟩ hlt2) ?_)))
  rintro _ rfl
  dsimp only
  refine T.grd (by rw[iM];exact⟨by rw[iW,iW];exact jS _,rfl⟩) (T.go ⟨i+1,_,by omega,(rP hR F _ o k1 hoo).1,?_,by rw[bB (by omega) (by omega)];rfl⟩ (by dsimp only;rw[bB (by omega) (by omega)];omega))
  rw[cK hil,jC,pI];rfl
 .obtain rfl:i=(kids ns r.toNat).length:=by omega
  refine T.out ?_
  rw[eY]at pI
  rw[hun,pI]
theorem a3P {ns:List DS1} {rk:Nat->Nat} (hR:rT ns rk) (hn:ns.length<=1000000) {F:Nat} (hF:∀ r,r < ns.length->rk r + 1<=F) (g:List (List Int)) (v:List Int) (r:Int) (hr:r < (ns.length:Int)) :
  T (Gt r g v (fF ns.length []) ns) (λy=>y=(g,v,fF ns.length (dL ns F [] r),ns,nQ ns (dL ns F [] r),())):=by
 have ho:ko ns.length []:=⟨lu,λx hx=>by cases hx⟩
 unfold Gt
 have hN:=aY ns
 have hP:=aY (fF ns.length [])
 have hPl:=iW ns.length []
 rcases fu r 0 with h0|h0
 .refine T.grd (by rw[fG,dO,iR,bD];exact .inr h0) (T.grd (by rw[fG,dO,iR,bD];exact .inr h0) (T.ct (by rw[eX,bD];exact .inl h0) (T.ret ?_)))
  rw[nS F [] h0];rfl
 have hrt:r.toNat<ns.length:=by omega
 refine T.grd (by rw[fG,bE];left;omega) (T.grd (by rw[fG,fM];left;omega) (T.cf ?_ ?_))
 .rw[fq,bg,gF,pz hrt]
  exact⟨h0,by simp⟩
 have hni:r.toNat∉([]:List Nat):=λq=>by cases q
 obtain⟨hkl,hk⟩:=hR r.toNat hrt
 have hun:=xV hR hF h0 hr hni
 have hso:=ho.snoc hrt hni
 have hrI:bnd r (aG ns)=true:=by rw[bE];omega
 have hrB:inB r.toNat ns=true:=by rw[fM];omega
 refine T.grd (by rw[bE];omega) (T.grd (by rw[fM];omega) (T.grd hrI (T.grd hrB (T.grd (by rw[eO,aU];omega) ?_))))
 have eN:ns.getD r.toNat (0,[],[],())=ns.getD r.toNat zN:=rfl
 have eK:(ns.getD r.toNat zN).2.2.1=kids ns r.toNat:=rfl
 have e1:List.set (fF ns.length []) r.toNat 0=fF ns.length ([]++[r.toNat]):=by rw[<- xU hrt hni];rfl
 have e2:([ns.getD r.toNat zN]:List DS1)=nQ ns ([]++[r.toNat]):=by rw[Aw];rfl
 rw[eN,e2,e1]
 have hK:=aY (kids ns r.toNat)
 refine T.loop (λq=>∃(i:Nat) (o:List Nat),i<=(kids ns r.toNat).length/\ko ns.length o/\((kids ns r.toNat).take i).foldl (dL ns F) ([]++[r.toNat])=o/\q=(r,(i:Int),g,v,fF ns.length o,ns,nQ ns o,())) (λq=>(kids ns r.toNat).length-q.2.1.toNat) ⟨0,_,by omega,hso,rfl,rfl⟩ ?_
 rintro _ ⟨i,o,hi,hoo,pI,rfl⟩
 dsimp only
 rw[eN,eK,hK,dW]
 refine T.grd hrI (T.grd hrB (T.cnd (λhc3=>?_) (λhc3=>?_)))<;>simp only[bD,bg]at hc3
 .have hil:i<(kids ns r.toNat).length:=by omega
  have ec:=getD_eq (kids ns r.toNat) i 0 hil
  rw[ec]
  obtain⟨k1,k2⟩:=hk _ (aV hil)
  refine T.grd hrI (T.grd hrB (T.grd (by rw[bE];omega) (T.call (a3Q hR hn hF g v (kids ns r.toNat)[i] o k1 hoo) ?_)))
  rintro _ rfl
  dsimp only
  refine T.grd (by rw[iM];exact⟨by rw[iW,iW];exact jS _,rfl⟩) (T.go ⟨i+1,_,by omega,(rP hR F _ o k1 hoo).1,?_,by rw[bB (by omega) (by omega)];rfl⟩ (by dsimp only;rw[bB (by omega) (by omega)];omega))
  rw[cK hil,jC,pI];rfl
 .obtain rfl:i=(kids ns r.toNat).length:=by omega
  refine T.out ?_
  rw[eY]at pI
  rw[hun,pI]
theorem a13 {dm:List DS3} {lo:Int} (hd:iJ dm) (hlo:-256<=lo) (hlo0:lo<=0) {g:List (List Int)} (hg:GOk dm g) (hgl:∀ r ∈ g,r.length<=1000000) (hP:gI g<=500000) {v:List Int} (hv:∀ x ∈ v,0<=x/\lo<=-1 - x) (hvl:v.length=gI g) :
  T (Gr 0 0 (aG v) g v) (λy=>∃t,y=(y.1,g,v,t,())/\pK dm lo t/\Rf t lo 0 y.1/\t.length+1<=gI g):=by
 unfold Gr
 have hG:=aY g
 have hV:=aY v
 have hd1:=hd.1
 have hd2:=hd.2.1
 have hgd:=hg.1
 have hil:0<g.length:=by omega
 have hrow:=hg.row hil
 have hrp:=hrow.pos
 have hpd:=Dm g 0 hil
 rw[kJ,dR]at hpd
 have Ra:yN .i64 (aG v) (g[0].length:Int)=(gI (g.drop 1):Int):=by
  unfold yN
  rw[hV,hvl,hpd,oO (by omega)]
  have:((g[0].length*gI (g.drop 1):Nat):Int)/(g[0].length:Int)=(gI (g.drop 1):Int):=by
   rw[<- Int.natCast_ediv,Nat.mul_div_cancel_left _ (by omega)]
  rw[this]
  have h1:gI (g.drop 1)<=gI g:=by
   rw[hpd]
   have:1*gI (g.drop 1)<=g[0].length*gI (g.drop 1):=pV hrp (bM _)
   omega
  rw[wrap64]<;>omega
 have hgi:=hgl _ (aV hil)
 have hR:=aY g[0]
 have e00:atI g 0 []=g[0]:=getD_eq g 0 [] hil
 rw[e00,hR,Ra,hG]
 have b0e:gI (g.drop (0+1))=gI (g.drop 1):=rfl
 generalize hpt:gI (g.drop 1)=part at hpd
 refine T.cf (by rw[dP];omega) (T.grd (by rw[bE];omega) (T.grd (by rw[gJ];omega) ?_))
 refine T.loop (λq=>∃(k:Nat) (t:List DS1) (nx:List Int),k<=g[0].length/\nx.length=k/\pK dm lo t/\(∀c∈nx,Rf t lo 1 c)/\t.length+k<=k*part/\q=(0,0,(part:Int),(k:Int),g,v,nx,t,())) (λq=>g[0].length-q.2.2.2.1.toNat) ⟨0,[],[],by omega,rfl,pK.nil dm lo,λc hc=>(by cases hc),by simp,rfl⟩ ?_
 rintro _ ⟨k,t,nx,hk,hnx,hNt,hrf,htl,rfl⟩
 dsimp only
 rw[hG,e00,hR]
 refine T.grd (by rw[bE];omega) (T.cnd (λhc2=>?_) (λhc2=>?_))<;>simp only[bD,bg]at hc2
 .have hkl:k<g[0].length:=by omega
  have hkp:(k+1)*part<=g[0].length*part:=pV hkl (bM _)
  rw[d9,gy]at hkp
  have e1:bZ .i64 0 1=((0+1:Nat):Int):=by rw[bB (by omega) (by omega)];rfl
  have ekp:(k:Int)*(part:Int)=((k*part:Nat):Int):=by push_cast;rfl
  have e2:bZ .i64 0 (DI .i64 (k:Int) (part:Int))=((k*part:Nat):Int):=by
   rw[jV (by omega) (by omega),ekp,bB (by omega) (by omega)];omega
  rw[e1,e2]
  have hcall:=a11 hd hlo hlo0 hg hgl (by omega) hv (by omega) 1 (k*part) t (by omega) (by rw[hpt];omega) hNt (by rw[hpt];omega)
  rw[hpt]at hcall
  refine T.call hcall ?_
  rintro⟨r,q1,q2,q3,⟨⟩⟩ ⟨t2,heq,hN2,hr2,ht2⟩
  obtain⟨rfl,rfl,rfl⟩:g=q1/\v=q2/\t++t2=q3:=by
   simp only[nD]at heq
   exact⟨heq.2.1.symm,heq.2.2.1.symm,heq.2.2.2.1.symm⟩
  dsimp only at hr2 ⊢
  refine T.grd (by rw[eO,aU];omega) (T.go ⟨k+1,t++t2,nx++[r],by omega,by rw[aB,aU,hnx],hN2,λc hc=>?_,?_,by rw[bB (by omega) (by omega)];rfl⟩ (by dsimp only;rw[bB (by omega) (by omega)];omega))
  .rcases aX.1 hc with q|q
   .exact(hrf c q).app t2
   .obtain rfl:=bI.1 q;exact hr2
  .rw[aB,d9,gy];omega
 .obtain rfl:k=g[0].length:=by omega
  refine T.pX (T.grd (by rw[bE];omega) (T.call (Tf (i:=0) hd hlo hlo0 (by omega) (cuts:=g[0]) (next:=nx) (ns:=t) hrow (by omega) hgi hrf hNt (by omega) g v) ?_))
  rintro⟨r,q1,q2,q3,q4,⟨⟩⟩ ⟨t2,heq,hN2,hr2,ht2,ht3⟩
  obtain⟨rfl,rfl,rfl,rfl⟩:g=q1/\v=q2/\nx=q3/\t++t2=q4:=by
   simp only[nD]at heq
   exact⟨heq.2.1.symm,heq.2.2.1.symm,heq.2.2.2.1.symm,heq.2.2.2.2.1.symm⟩
  dsimp only at hr2 ⊢
  refine T.grd (by rw[iM];exact⟨jS _,rfl⟩) (T.ret ⟨t++t2,rfl,hN2,hr2,?_⟩)
  rw[aB,hpd]
  have hlx:g[0].length=nx.length:=hnx.symm
  rw[hlx]at htl ⊢
  rw[hlx]at hrp
  by_cases h1:nx.length=1
  .rw[ht3 h1,cZ];omega
  .omega
theorem Jb{n:Nat}{O:List Nat}{c:Int}(h:c<(n:Int))(h0:0<=c)(hm:c.toNat∈O):(fF n O).getD c.toNat 0=eF O c:=by
 rw[pz (by omega),ak hm];unfold eF;rw[au (by omega)]
theorem a2k {dm:List DS3} {lo:Int} (hd:iJ dm) (hlo:-256<=lo) (hlo0:lo<=0) {g:List (List Int)} (hg:GOk dm g) (hgl:∀ r ∈ g,r.length<=1000000) (hP:gI g<=1000) {v:List Int} (hv:∀ x ∈ v,0<=x/\lo<=-1 - x) (hvl:v.length=gI g) :
  T (m48 g v) (λy=>VD dm y.1.1 y.1.2.1/\(∀x∈y.1.1,∀c∈x.2.2.1,lo<=c)/\lo<=y.1.2.1/\y.2.1=0):=by
 unfold m48
 refine T.call (a13 hd hlo hlo0 hg hgl (by omega) hv hvl) ?_
 rintro⟨root,q1,q2,ns,⟨⟩⟩ ⟨t,heq,hN,hr,ht⟩
 obtain⟨rfl,rfl,rfl⟩:g=q1/\v=q2/\t=ns:=by
  simp only[nD]at heq
  exact⟨heq.2.1.symm,heq.2.2.1.symm,heq.2.2.2.1.symm⟩
 dsimp only at hr ⊢
 have hN':=aY t
 have hs:=hN.1
 obtain⟨hR,hF⟩:=nM hd hs
 have hfin:=SA hd hN hlo hlo0 hr.2.1 hr.1 (by omega)
 have h0:ko t.length []:=⟨lu,λx hx=>by cases hx⟩
 have hO:=(rP hR 8 root [] hr.2.1 h0).1
 have hr8:rkI (rkA t) root<=8:=by
  unfold rkI
  split
  .omega
  .exact hF _ (by have:=hr.2.1;omega)
 obtain⟨hcr,hcl0⟩:=Bn hR 8 8 root [] hr8 (bM _) hr.2.1 h0
 rw[hN']
 refine T.cf (by rw[bg];omega) (T.grd (by rw[iD];omega) ?_)
 rw[bH]
 refine T.loop (λq=>∃(i:Nat) (p:List Int),i<=t.length/\p.length=t.length/\(∀j,j<i->p.getD j 0=-1)/\q=(root,(i:Int),0,g,v,p,t,())) (λq=>t.length-q.2.1.toNat) ⟨0,_,by omega,by simp,λj hj=>by omega,rfl⟩ ?_
 rintro _ ⟨i,p,hi,hp,hpg,rfl⟩
 dsimp only
 have hpI:=aY p
 rw[hpI,bH]
 refine T.cnd (λhc2=>?_) (λhc2=>?_)<;>simp only[bD,bg]at hc2
 .refine T.grd (by rw[bE];omega) (T.grd (by rw[fM];omega) (T.go ⟨i+1,p.set i (-1),by omega,by rw[bT];exact hp,λj hj=>?_,by rw[bB (by omega) (by omega)];rfl⟩ (by dsimp only;rw[bB (by omega) (by omega)];omega)))
  rw[vD p i j _ _ (by omega)]
  split
  .rfl
  .exact hpg j (by omega)
 obtain rfl:i=t.length:=by omega
 obtain rfl:p=fF t.length []:=by
  rw[Gg]
  apply jq (by simp[hp])
  intro j h1 h2
  have:=hpg j (by omega)
  rw[getD_eq _ _ _ h1]at this
  rw[this];simp
 refine T.pX (T.call (a3P hR (by omega) hF g v root hr.2.1) ?_)
 rintro _ rfl
 dsimp only
 generalize hOe:dL t 8 [] root=O at hfin hO hcr hcl0
 have hcl:∀r∈O,∀k∈kids t r,0<=k->k.toNat∈O:=λr hr=>hcl0 r hr (λq=>by cases q)
 have hOl:=hO.len
 have hPl:=iW t.length O
 have hPI:=aY (fF t.length O)
 refine T.grd (by rw[iM];exact⟨by rw[iW,iW];exact jS _,rfl⟩) ?_
 refine T.loop (λq=>∃(i:Nat) (o:List DS1),i<=O.length/\o.length=O.length/\(∀j (hj:j<O.length),o.getD j zN=if j<i then imN t O O[j] else t.getD O[j] zN)/\q=(root,(i:Int),0,fF t.length O,o,())) (λq=>O.length-q.2.1.toNat) ⟨0,nQ t O,by omega,Cr t O,λj hj=>?_,rfl⟩ ?_
 .rw[au (by omega),getD_eq _ _ _ (by rw[Cr];exact hj)];simp[nQ]
 rintro _ ⟨i,o,hi,hol,hog,rfl⟩
 dsimp only
 have hoI:=aY o
 rw[hoI]
 refine T.cnd (λhc2=>?_) (λhc2=>?_)<;>simp only[bD,bg]at hc2
 .have hil:i<O.length:=by omega
  have hoi:=hog i hil
  rw[au (by omega)]at hoi
  have hrm:=aV hil
  have hrn:=hO.2 _ hrm
  obtain⟨hkl,hk⟩:=hR _ hrn
  have hK:=aY (kids t O[i])
  have eo:o.getD i (0,[],[],())=t.getD O[i] zN:=hoi
  have eK:(t.getD O[i] zN).2.2.1=kids t O[i]:=rfl
  have b1:bnd (i:Int) (o.length:Int)=true:=by rw[bE];omega
  have b2:inB i o=true:=by rw[fM];omega
  refine T.loop (λq=>∃k:Nat,k<=(kids t O[i]).length/\q=(root,(i:Int),(k:Int),0,fF t.length O,o,((kids t O[i]).take k).map (eF O),())) (λq=>(kids t O[i]).length-q.2.2.1.toNat) ⟨0,by omega,rfl⟩ ?_
  rintro _ ⟨k,hkk,rfl⟩
  dsimp only
  rw[hoI,bH,eo,eK,hK,dW,hPI]
  refine T.grd b1 (T.grd b2 (T.cnd (λhc3=>?_) (λhc3=>?_)))<;>simp only[bD,bg]at hc3
  .have QO:k<(kids t O[i]).length:=by omega
   rw[getD_eq _ _ _ QO]
   have hkm:=aV QO
   obtain⟨k1,_⟩:=hk _ hkm
   have hcm:=hcl _ hrm _ hkm
   have etk:((kids t O[i]).take (k+1)).map (eF O)=((kids t O[i]).take k).map (eF O)++[eF O (kids t O[i])[k]]:=by
    rw[cK QO,dS];rfl
   have nxt:T (cond (fits (List.length (((kids t O[i]).take k).map (eF O)) + List.length ([eF O (kids t O[i])[k]]:List Int)) 8) (some (Sum.inl (β:=(Int × Int × Int × (List Int) × (List DS1) × Unit) ⊕ (DS2 × Int × Unit)) (root,(i:Int),bZ .i64 (k:Int) 1,(0:Int),fF t.length O,o,((kids t O[i]).take k).map (eF O) ++ ([eF O (kids t O[i])[k]]:List Int),()))) none)
     (LQ (λq=>∃k:Nat,k<=(kids t O[i]).length/\q=(root,(i:Int),(k:Int),0,fF t.length O,o,((kids t O[i]).take k).map (eF O),())) (λq=>(kids t O[i]).length-q.2.2.1.toNat) ((kids t O[i]).length-(k:Int).toNat)
      (LQ (λq=>∃(i:Nat) (o:List DS1),i<=O.length/\o.length=O.length/\(∀j (hj:j<O.length),o.getD j zN=if j<i then imN t O O[j] else t.getD O[j] zN)/\q=(root,(i:Int),0,fF t.length O,o,())) (λq=>O.length-q.2.1.toNat) (O.length-(i:Int).toNat) (λy=>VD dm y.1.1 y.1.2.1/\(∀x∈y.1.1,∀c∈x.2.2.1,lo<=c)/\lo<=y.1.2.1/\y.2.1=0))):=by
    refine T.grd (by rw[eO,bR,bL,aU];omega) (T.go ⟨k+1,by omega,?_⟩ (by dsimp only;rw[bB (by omega) (by omega)];omega))
    rw[etk,bB (by omega) (by omega)];rfl
   refine T.grd b1 (T.grd b2 (T.grd (by rw[bE];omega) (T.cnd (λhc4=>?_) (λhc4=>?_))))<;>simp only[gD,gF]at hc4
   .rw[Jb k1 hc4 (hcm hc4)]
    exact T.grd (by rw[bE];omega) (T.grd (by rw[fM];omega) nxt)
   .have er:eF O (kids t O[i])[k]=(kids t O[i])[k]:=by unfold eF;rw[ak hc4]
    rw[er]at nxt
    exact nxt
  .obtain rfl:k=(kids t O[i]).length:=by omega
   rw[eY]
   refine T.pX (T.grd b1 (T.grd b2 (T.grd b1 (T.grd b2 (T.grd b1 (T.grd b2 (T.ret (show LQ _ _ _ _ (Sum.inl _) from⟨⟨i+1,o.set i (imN t O O[i]),by omega,by rw[bT];exact hol,λj hj=>?_,by rw[bB (by omega) (by omega)];rfl⟩,by dsimp only;rw[bB (by omega) (by omega)];omega⟩))))))))
   rw[vD o i j _ _ (by omega)]
   by_cases e:i=j
   .subst e;rw[ak rfl,ak (by omega)]
   .rw[au e,hog j hj]
    by_cases q:j<i
    .rw[ak q,ak (by omega)]
    .rw[au q,au (by omega)]
 .obtain rfl:i=O.length:=by omega
  obtain rfl:o=o8 t O:=by
   apply jq (by rw[hol,sj])
   intro j h1 h2
   have hj:j<O.length:=by rw[<- hol];exact h1
   have:=hog j hj
   rw[ak hj,getD_eq _ _ _ h1]at this
   rw[this];simp[o8]
  rw[hPI]
  refine T.pX (T.cnd (λhc3=>?_) (λhc3=>?_))<;>simp only[gD,gF]at hc3
  .have hrl:=hr.2.1
   refine T.grd (by rw[bE];omega) (T.grd (by rw[fM];omega) (T.ret ?_))
   dsimp only
   rw[Jb hrl hc3 (hcr hc3)]
   exact⟨hfin.1,hfin.2.1,hfin.2.2,rfl⟩
  .refine T.ret ?_
   have er:eF O root=root:=by unfold eF;rw[ak hc3]
   rw[er]at hfin
   exact⟨hfin.1,hfin.2.1,hfin.2.2,rfl⟩
theorem RQ{l:List DS0}{f:List Int}(h:qJ l f=true):f.length=l.length:=by
 unfold qJ at h
 rw[ay,ay]at h
 exact bW h.1.2
theorem TF (l:List DS0) (hv:jM l=0) (values:Int) (h1:1<=values) (h2:values<=256) {L:List Int} {a:Int} (hk:oC L a) :
  T (m18 (l,()) values L a) (λy=>VD (doms l) y.1 y.2.1/\(∀x∈y.1,∀c∈x.2.2.1,-values<=c)/\-values<=y.2.1/\oC y.2.2.1 y.2.2.2.1):=by
 unfold m18
 have hd:=rR hv
 have vo:=val_ok hv
 have hL:=aY l
 have hdl:=ru l
 refine T.dz (V9 l hv) (T.call (BK hk (by omega) (by omega)) ?_)
 rintro⟨k0,K,a0,⟨⟩⟩ ⟨n1,n2,n3⟩
 dsimp only at n1 n2 n3 ⊢
 obtain⟨g1,g2⟩:=S9 hd
 refine T.loop (λq=>∃(g:List (List Int)) (k:Nat) (K:List Int) (a:Int),GOk (doms l) g/\excess g+k<=4/\oC K a/\q=(values,g,(k:Int),K,a,l,0,())) (λq=>q.2.2.1.toNat) ⟨_,k0.toNat,K,a0,g1,by omega,n1,by rw[show((k0.toNat:Nat):Int)=k0 by omega]⟩ ?_
 rintro _ ⟨g,k,K,a,hg,hek,hK,rfl⟩
 dsimp only
 rw[hL]
 have hgd:=hg.1
 have hgl:∀r∈g,r.length<=1000000:=λr hr=>by have:=Qh g r hr;omega
 refine T.cnd (λhc=>?_) (λhc=>?_)<;>simp only[bD,bg]at hc
 .refine T.call (BK hK (by omega) (by omega)) ?_
  rintro⟨i,K1,a1,⟨⟩⟩ ⟨m1,m2,m3⟩
  dsimp only at m1 m2 m3 ⊢
  refine T.call (OG l hv m1) ?_
  rintro⟨K2,a2,f,⟨⟩⟩ ⟨f1,f2⟩
  dsimp only at f1 f2 ⊢
  have hfl:=RQ f2
  have hfI:=aY f
  refine T.grd (by rw[bE];omega) (T.grd (by rw[fM];omega) ?_)
  have ei:i=(i.toNat:Int):=by omega
  have hil:i.toNat<l.length:=by omega
  have hcm:=a8l l hv g (by omega) (λr hr=>by have:=hgl r hr;omega) i.toNat hil (f.getD i.toNat 0)
  rw[<- ei]at hcm
  refine T.dz hcm ?_
  obtain⟨c1,c2⟩:=a4X hg (i:=i.toNat) (by omega) (f.getD i.toNat 0)
  refine T.go ⟨_,k-1,K2,a2,c1,by omega,f1,?_⟩ (by dsimp only;rw[fE (by omega) (by omega)];omega)
  rw[fE (by omega) (by omega),show((k-1:Nat):Int)=(k:Int)-1 by omega]
 .obtain rfl:k=0:=by omega
  refine T.pX ?_
  have hp:gI g<=16:=by
   refine dh (a0V g) ?_
   have:excess g<=4:=by omega
   exact dh (Nat.pow_le_pow_right (by omega) this) (by decide)
  have hpos:∀r∈g,1<=r.length:=λr hr=>by
   obtain⟨j,hj,rfl⟩:=iI hr
   exact(hg.row hj).pos
  refine T.dz (a1Z g (by have:=hd.2.1;omega) hpos (by omega)) ?_
  dsimp only
  refine T.loop (λq=>∃(k:Nat) (v K:List Int) (a:Int),v.length+k=gI g/\(∀x∈v,0<=x/\x<values)/\oC K a/\q=(values,g,(k:Int),K,a,0,v,())) (λq=>q.2.2.1.toNat) ⟨gI g,[],K,a,by simp,λx hx=>(by cases hx),hK,rfl⟩ ?_
  rintro _ ⟨k,v,K,a,hvk,hvx,hK,rfl⟩
  dsimp only
  refine T.cnd (λhc2=>?_) (λhc2=>?_)<;>simp only[bD,bg]at hc2
  .refine T.call (BK hK (by omega) (by omega)) ?_
   rintro⟨x,K1,a1,⟨⟩⟩ ⟨m1,m2,m3⟩
   dsimp only at m1 m2 m3 ⊢
   refine T.grd (by rw[eO,aU];omega) (T.go ⟨k-1,v++[x],K1,a1,by rw[aB,aU];omega,λy hy=>?_,m1,?_⟩ (by dsimp only;rw[fE (by omega) (by omega)];omega))
   .rcases aX.1 hy with q|q
    .exact hvx y q
    .obtain rfl:=bI.1 q;exact⟨m2,m3⟩
   .rw[fE (by omega) (by omega),show((k-1:Nat):Int)=(k:Int)-1 by omega]
  .obtain rfl:k=0:=by omega
   refine T.pX (T.call (a2k (lo:=-values) hd (by omega) (by omega) hg hgl (by omega) (λx hx=>by have:=hvx x hx;omega) (by omega)) ?_)
   intro y ⟨y1,y2,y3,y4⟩
   exact T.ret ⟨y1,y2,y3,hK⟩
def SzB(ns:List DS1):Prop:=ns.length<=1002/\∀x∈ns,x.2.1.length<=2000000003/\x.2.2.1.length<=2000000003
theorem SzB.n{ns:List DS1}(h:SzB ns):SzN ns:=⟨by have:=h.1;omega,λx hx=>by have:=h.2 x hx;omega⟩
theorem SzB.set{ns:List DS1}(h:SzB ns)(k:Nat){x:DS1}(hx:x.2.1.length<=2000000003/\x.2.2.1.length<=2000000003):SzB (ns.set k x):=by
 refine⟨by rw[bT];exact h.1,λy hy=>?_⟩
 rcases tH hy with q|q
 .exact h.2 y q
 .rw[q];exact hx
theorem VD.sz{dm:List DS3}{ns:List DS1}{root:Int}(hd:iJ dm)(h:VD dm ns root):(∀x∈ns,1<=x.2.1.length/\x.2.1.length<=2000000001/\1<=x.2.2.1.length/\x.2.2.1.length<=2000000001)/\SzN ns:=by
 have key:∀x∈ns,1<=x.2.1.length/\x.2.1.length<=2000000001/\1<=x.2.2.1.length/\x.2.2.1.length<=2000000001:=λx hx=>by
  obtain⟨i,hi,rfl⟩:=iI hx
  have hs:=h.2.2.1 i hi
  rw[getD_eq _ _ _ hi]at hs
  have hl:=hs.len hd
  have h3:=hs.2.2.1
  have h4:=hs.2.2.2.1
  omega
 exact⟨key,by have:=h.1;omega,λx hx=>by have:=key x hx;omega⟩
theorem OM{L:List Int}(h:OkT (.list (.int .i64)) L):oC L 0:=⟨λx hx=>LM ((zD (e:=.int .i64) h).2 x hx),(zD (e:=.int .i64) h).1,by omega⟩
theorem a5F{x:DS2}(h:OkT tS2 x):SzN x.1:=by
 have h1:OkT (.list tS1) x.1:=h.1
 obtain⟨a,b⟩:=zD (e:=tS1) h1
 refine⟨a,λn hn=>?_⟩
 have hb:=b n hn
 exact⟨(zD (e:=.int .i64) hb.2.1).1,(zD (e:=.int .i64) hb.2.2.1).1⟩
def Sub(g g':List (List Int)):Prop:=g.length=g'.length/\∀a,(∀x∈g.getD a [],x∈g'.getD a [])/\(g.getD a []).length<=(g'.getD a []).length
theorem Sub.refl(g:List (List Int)):Sub g g:=⟨rfl,λa=>⟨λx h=>h,bM _⟩⟩
theorem Sub.trans{a b c:List (List Int)}(h:Sub a b)(h':Sub b c):Sub a c:=⟨h.1.trans h'.1,λi=>⟨λx q=>(h'.2 i).1 x ((h.2 i).1 x q),dh (h.2 i).2 (h'.2 i).2⟩⟩
theorem VF{lo hi:Int}{r:List Int}(h:wO lo hi r):∀k,k<r.length->lo+k<=r.getD k 0:=by
 intro k
 induction k with
 |zero=>intro _;rw[(a3c h).1];omega
 |succ k ih=>intro hk;have:=(Dl h (k+1) (by omega) hk).2.2;rw[jg]at this;have:=ih (by omega);omega
theorem a0Q{lo hi:Int}{r:List Int}(h:wO lo hi r):(r.length:Int)<=hi-lo+1\/r.length=1:=by
 have hp:=h.pos
 rcases aS 1 r.length with q|q
 .have h1:=VF h (r.length-1) (by omega)
  have h2:=(Dl h (r.length-1) (by omega) (by omega)).2.1
  left;omega
 .right;omega
theorem GOk.len{dm:List DS3}(hd:iJ dm){g:List (List Int)}(hg:GOk dm g):∀r∈g,1<=r.length/\r.length<=2000000001:=by
 intro r hr
 obtain⟨i,hi,rfl⟩:=iI hr
 have h1:=hg.row hi
 have h2:=a0Q h1
 have h3:=hd.at (i:=i) (by rw[<- hg.1];exact hi)
 have h4:=h1.pos
 omega
theorem jF(ns:List DS1)(f:Nat){r:Int}(h:r<0)(fs:List Int):vlF ns f r fs=-1-r:=by
 cases f with
 |zero=>rfl
 |succ f=>simp only[vlF];rw[ak h]
theorem oK(ns:List DS1)(f:Nat){r:Int}(h:0<=r)(fs:List Int):vlF ns (f+1) r fs=vlF ns f ((kids ns r.toNat).getD (brK (ns.getD r.toNat zN).2.1 (fs.getD (ns.getD r.toNat zN).1.toNat 0)) 0) fs:=by
 simp only[vlF];rw[au (by omega)]
section
variable{dm:List DS3}{ns:List DS1}
theorem wG(hs:iU dm ns){r:Nat}(hr:r<ns.length)(v:Int):brK (ns.getD r zN).2.1 v<(kids ns r).length:=by
 have:=uT (ns.getD r zN).2.1 v
 have h4:=(hs r hr).2.2.2.1
 have:(kids ns r).length=(ns.getD r zN).2.1.length+1:=h4
 omega
theorem ny(hs:iU dm ns){r:Nat}(hr:r<ns.length){k:Nat}(hk:k<(kids ns r).length):jE ns.length ((kids ns r).getD k 0):=((hs r hr).2.2.2.2.2 k hk).1
theorem BO(hd:iJ dm)(hs:iU dm ns){r:Nat}(hr:r<ns.length){k:Nat}(hk:k<(kids ns r).length):rkI (rkA ns) ((kids ns r).getD k 0)<=rkA ns r:=by
 have hk2:=((nM hd hs).1 r hr).2 _ (aV hk)
 rw[getD_eq _ _ _ hk]
 unfold rkI
 split
 .omega
 .exact hk2.2 (by omega)
theorem PS(hd:iJ dm)(hs:iU dm ns):∀(m f f':Nat) (r:Int) (fs:List Int),rkI (rkA ns) r<=m->m<=f->m<=f'->r<(ns.length:Int)->vlF ns f r fs=vlF ns f' r fs:=by
 intro m
 induction m with
 |zero =>
  intro f f' r fs h _ _ _
  have:r<0:=by unfold rkI at h;split at h;assumption;omega
  rw[jF ns f this,jF ns f' this]
 |succ m ih =>
  intro f f' r fs h h1 h2 hr
  rcases fu r 0 with q|q
  .rw[jF ns f q,jF ns f' q]
  obtain⟨g,rfl⟩:∃g,f=g+1:=⟨f-1,by omega⟩
  obtain⟨g',rfl⟩:∃g',f'=g'+1:=⟨f'-1,by omega⟩
  rw[oK ns g q,oK ns g' q]
  have hrt:r.toNat<ns.length:=by omega
  have hk:=wG hs hrt (fs.getD (ns.getD r.toNat zN).1.toNat 0)
  unfold rkI at h
  rw[au (by omega)]at h
  exact ih g g' _ fs (dh (BO hd hs hrt hk) (by omega)) (by omega) (by omega) (ny hs hrt hk).2
theorem a5B(hd:iJ dm)(hs:iU dm ns)(root:Int)(hr:jE ns.length root)(hn:ns.length<=1000)(fs:List Int)(hf:fs.length=dm.length):m25 (ns,root,()) fs=some (vlF ns 9 root fs,()):=by
 refine T.eq ?_
 unfold m25
 have hN:=aY ns
 have hF:=aY fs
 refine T.loop (λq=>∃(f:Nat) (r:Int),jE ns.length r/\rkI (rkA ns) r<=f/\vlF ns 9 root fs=vlF ns f r fs/\q=(fs,r,ns,root,())) (λq=>rkI (rkA ns) q.2.1) ⟨9,root,hr,?_,rfl,rfl⟩ ?_
 .unfold rkI
  split
  .omega
  .have:=(nM hd hs).2 root.toNat (by have:=hr.2;omega);omega
 rintro _ ⟨f,r,hr,hfr,hv,rfl⟩
 dsimp only
 rw[hN]
 refine T.cnd (λhc=>?_) (λhc=>?_)<;>simp only[gD,gF]at hc
 .have hr2:=hr.2
  have hrt:r.toNat<ns.length:=by omega
  have hsr:=hs r.toNat hrt
  have h1:=hsr.1
  have h2:=hsr.2.1
  have h4:=hsr.2.2.2.1
  have hle:=hsr.len hd
  have eN:atI ns r (0,[],[],())=ns.getD r.toNat zN:=rfl
  have eK:(ns.getD r.toNat zN).2.2.1=kids ns r.toNat:=rfl
  have hC:=aY (ns.getD r.toNat zN).2.1
  have hK:=aY (kids ns r.toNat)
  have hkl:(kids ns r.toNat).length=(ns.getD r.toNat zN).2.1.length+1:=h4
  have eA:atI fs (ns.getD r.toNat zN).1 0=fs.getD (ns.getD r.toNat zN).1.toNat 0:=rfl
  obtain⟨f',rfl⟩:∃f',f=f'+1:=⟨f-1,by unfold rkI at hfr;rw[au (by omega)]at hfr;omega⟩
  rw[oK ns f' hc]at hv
  rw[eN,eK]
  refine T.grd (by rw[bE];omega) ?_
  refine T.loop (λq=>∃k:Nat,k<=(ns.getD r.toNat zN).2.1.length/\(∀j,j<k->(ns.getD r.toNat zN).2.1.getD j 0<=fs.getD (ns.getD r.toNat zN).1.toNat 0)/\q=(fs,(k:Int),ns,root,(ns.getD r.toNat zN).1,(ns.getD r.toNat zN).2.1,kids ns r.toNat,())) (λq=>(ns.getD r.toNat zN).2.1.length-q.2.1.toNat) ⟨0,by omega,λj hj=>by omega,rfl⟩ ?_
  rintro _ ⟨k,hk,hj,rfl⟩
  dsimp only
  rw[hC,hF,hK,eA,dW,dW]
  refine T.grd (by rw[fG,bE];left;omega) (T.grd ?_ (T.cnd (λhc2=>?_) (λhc2=>?_)))
  .rw[fG,bE,dO,fC,bg];omega
  .rw[dN,bD,gD]at hc2
   refine T.go ⟨k+1,by omega,λj hj2=>?_,by rw[bB (by omega) (by omega)];rfl⟩ (by dsimp only;rw[bB (by omega) (by omega)];omega)
   rcases aS j k with q|q
   .exact hj j q
   .obtain rfl:j=k:=by omega
    exact hc2.2
  .rw[dQ,bg,gF]at hc2
   have hb:brK (ns.getD r.toNat zN).2.1 (fs.getD (ns.getD r.toNat zN).1.toNat 0)=k:=Ac _ _ k hk hj (by rcases hc2 with q|q;left;omega;right;exact q)
   have hkk:k<(kids ns r.toNat).length:=by omega
   have hrk:=BO hd hs hrt hkk
   have hfr2:=hfr
   unfold rkI at hfr2
   rw[au (by omega)]at hfr2
   refine T.pX (T.grd (by rw[bE];omega) (T.ret (show LQ _ _ _ _ (Sum.inl _) from⟨⟨f',_,ny hs hrt hkk,by omega,by rw[hv,hb],rfl⟩,?_⟩)))
   show rkI (rkA ns) ((kids ns r.toNat).getD k 0)<rkI (rkA ns) r
   have:rkI (rkA ns) r=rkA ns r.toNat+1:=by unfold rkI;rw[au (by omega)]
   omega
 .have hr1:=hr.1
  refine T.out ?_
  rw[hv,jF ns f hc,fE (by omega) (by omega)]
end
theorem sP{dm:List DS3}{ns:List DS1}{x:DS1}(h:mZ dm ns x):x.2.1.Pairwise (·<·):=by
 rw[je]
 have key:∀d i,i+d+1<x.2.1.length->x.2.1.getD i 0<x.2.1.getD (i+d+1) 0:=by
  intro d
  induction d with
  |zero=>intro i hi;have:=(h.2.2.2.2.1 (i+1) (by omega)).2.2 (by omega);rwa [jg]at this
  |succ d ih =>
   intro i hi
   have h1:=ih i (by omega)
   have h2:=(h.2.2.2.2.1 (i+d+1+1) (by omega)).2.2 (by omega)
   rw[jg]at h2
   have:i+(d+1)+1=i+d+1+1:=by omega
   rw[this];omega
 intro i j hi hj hij
 have:=key (j-i-1) i (by omega)
 rw[show i+(j-i-1)+1=j by omega,getD_eq _ _ _ hi,getD_eq _ _ _ hj]at this
 exact this
theorem Uj:∀(cs:List Int) (v:Int) (j:Nat),j<cs.length->v<cs.getD j 0->brK cs v<=j:=by
 intro cs
 induction cs with
 |nil=>intro v j h;cases h
 |cons c cs ih =>
  intro v j hj hv
  simp only[brK]
  split
  .cases j with
   |zero=>simp at hv;omega
   |succ j=>have:=ih v j (by simpa using hj) (by simpa using hv);omega
  .omega
theorem N8:∀(cs:List Int) (v:Int) (j:Nat),j<brK cs v->cs.getD j 0<=v:=by
 intro cs
 induction cs with
 |nil=>intro v j h;cases h
 |cons c cs ih =>
  intro v j h
  simp only[brK]at h
  split at h
  .cases j with
   |zero=>simpa
   |succ j=>have:=ih v j (by omega);simpa using this
  .omega
section
variable{dm:List DS3}{ns:List DS1}{leaf:Int}
end
end
end Abs
end Go.Proofs.YtgfnhpadmifiiaaDoor
