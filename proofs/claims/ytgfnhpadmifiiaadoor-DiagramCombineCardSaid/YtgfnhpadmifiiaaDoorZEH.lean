/- Merged and trimmed by a program: E1 E2 D1 D2 D3 D4 D5 D6 D7 D8 D9 D10 D11 D12 D13 D14 D15 D16. -/
import Derived.Test.YtgfnhpadmifiiaaDoorZEG
set_option linter.unusedVariables false
set_option linter.unusedSimpArgs false
set_option linter.defProp false
namespace Go.Proofs.YtgfnhpadmifiiaaDoor
namespace Abs
noncomputable section
def mo(L:List Int)(a:Int):Prop:=(∀x∈L,-9223372036854775808<=x/\x<=9223372036854775807)/\L.length<=9223372036854775807/\0<=a
theorem a02{L:List Int}{a n:Int}(h:mo L a)(hn:0<n)(hn2:n<=4611686018427387904):∃v a',m45 n L a=some (v,L,a',())/\0<=v/\v<n/\mo L a'/\a<=a'/\(a<(L.length:Int)->a'=a+1):=by
 obtain⟨h1,h2,h3⟩:=h
 unfold m45
 by_cases hl:(L.length:Int)<=a
 .refine⟨0,a,?_,by omega,hn,⟨h1,h2,h3⟩,nV _,λq=>by omega⟩
  rw[a6C (by simpa[ay]using hl)];rfl
 .have hlt:a.toNat<L.length:=by omega
  have ha:a=(a.toNat:Int):=by omega
  have hx:=h1 L[a.toNat] (aJ _)
  have e1:fV .i64 (bX .i64 a 1) 1=(a.toNat:Int):=by rw[aY (by omega) (by omega),eF (by omega) (by omega)];omega
  have b1:=Int.tmod_lt_of_pos L[a.toNat] hn
  have b2:-n<L[a.toNat].tmod n:=by have:=Int.lt_tmod_of_pos L[a.toNat] hn;omega
  have e2:bX .i64 (tZ L[a.toNat] n) n=L[a.toNat].tmod n+n:=aY (by simp only[tZ];omega) (by simp only[tZ];omega)
  refine⟨(L[a.toNat].tmod n+n)%n,a+1,?_,Int.emod_nonneg _ (by omega),Int.emod_lt_of_pos _ hn,⟨h1,h2,by omega⟩,by omega,λ_=>rfl⟩
  rw[a6D (by simp only[ay];omega),e1]
  simp(disch:=omega) only[cond_false,a8g,ay,Ai,a6B,a11,e2,aY,M5]
theorem ru{L:List Int}{a n:Int}(h:mo L a)(hn:0<n)(hn2:n<=4611686018427387904):T (m45 n L a) (λy=>mo y.2.1 y.2.2.1/\0<=y.1/\y.1<n):=by
 obtain⟨v,a',e,h1,h2,h3,_⟩:=a02 h hn hn2
 exact⟨_,e,h3,h1,h2⟩
theorem Bg(s:ByteArray):sLen s=(s.size:Int):=rfl
def spn(p:Int->Bool)(s:ByteArray):Nat->Nat->Nat
 |0,i=>i
 |n+1,i=>if p (sAt s (i:Int))=true then spn p s n (i+1) else i
def vL(p:Int->Bool)(s:ByteArray)(i:Nat):Nat:=spn p s (s.size-i) i
theorem FU(p:Int->Bool)(s:ByteArray)(i:Nat)(h:i<s.size):vL p s i=if p (sAt s (i:Int))=true then vL p s (i+1) else i:=by
 unfold vL
 obtain⟨n,hn⟩:∃n,s.size-i=n+1:=⟨s.size-i-1,by omega⟩
 rw[hn]
 conv=>lhs;unfold spn
 rw[show s.size-(i+1)=n by omega]
theorem IG(p:Int->Bool)(s:ByteArray):vL p s s.size=s.size:=by unfold vL;rw[o8];rfl
def isLet(c:Int):Bool:=decide (97<=c/\c<=122)
def Eo(c:Int):Bool:=decide (48<=c/\c<=57)
def rH(c:Int):Bool:=isLet c||Eo c||decide (c=45)
theorem Yf(c:Int):m99 c=some (isLet c,()):=by unfold m99 isLet iLe;by_cases h:97<=c<;>simp[h]
theorem Ye(c:Int):HZ c=some (isLet c,()):=by unfold HZ isLet iLe;by_cases h:97<=c<;>simp[h]
theorem a8c(c:Int):LC c=some (Eo c,()):=by unfold LC Eo iLe;by_cases h:48<=c<;>simp[h]
theorem a8b(c:Int):LD c=some (Eo c,()):=by unfold LD Eo iLe;by_cases h:48<=c<;>simp[h]
theorem a5r(c:Int):LH c=some (rH c,()):=by
 unfold LH rH
 rw[Yf,a8c]
 simp only[nQ]
 cases isLet c<;>cases Eo c<;>simp[iEq,BEq.beq]
theorem a5x(s:ByteArray)(i:Nat)(hi:i<=s.size)(hs:s.size<=4611686018427387904):LJ s (i:Int) ()=some ((vL rH s i:Int),()):=by
 refine T.eq ?_
 unfold LJ
 refine T.loop (λq=>∃j:Nat,j<=s.size/\vL rH s j=vL rH s i/\q=(s,(j:Int),(),())) (λq=>s.size-q.2.1.toNat) ⟨i,hi,rfl,rfl⟩ ?_
 rintro _ ⟨j,hj,he,rfl⟩
 dsimp only
 have hl:=Bg s
 refine T.grd (by first|(simp(disch:=omega) only[bD,bq,fU,gq,dD,dG,fZ,gT,bf,kY,dU,kW,dN,gM,iJ,je,jf,kT,dO,gQ,iB,l5,eY,nO,dM,dS,fB,fF,jM,fC,jN,iM,eq_self,or_true,true_or,eU,true_and,or_false,false_or,gZ,false_and,not_true_eq_false,not_false_eq_true,dA,aT,aY,eF,jC,aR,ak,bI,bV,bK,bH,cu,bW];omega)|(simp(disch:=omega) only[bD,bq,fU,gq,dD,dG,fZ,gT,bf,kY,dU,kW,dN,gM,iJ,je,jf,kT,dO,gQ,iB,l5,eY,nO,dM,dS,fB,fF,jM,fC,jN,iM,eq_self,or_true,true_or,eU,true_and,or_false,false_or,gZ,false_and,not_true_eq_false,not_false_eq_true,dA,aT,aY,eF,jC,aR,ak,bI,bV,bK,bH,cu,bW];done)) ?_
 refine T.cnd (λhc=>?_) (λhc=>?_)<;>simp only[bD,bq]at hc
 .rw[FU rH s j (by omega)]at he
  refine T.dh (a5r _) ?_
  refine T.cnd (λhp=>?_) (λhp=>T.out ?_)
  .rw[if_pos hp]at he
   refine T.go ⟨j+1,by omega,he,by rw[aY (by omega) (by omega)];rfl⟩ ?_
   dsimp only;rw[aY (by omega) (by omega)];omega
  .rw[if_neg (by simpa using hp)]at he
   rw[<- he]
 .refine T.out ?_
  have:j=s.size:=by omega
  subst this
  rw[IG]at he
  rw[<- he]
def uI(s:ByteArray):Bool:=if s.size=0\/16<s.size then false else if isLet (sAt s 0)=true/\¬sAt s ((s.size:Int)-1)=45 then decide (vL rH s 0=s.size) else false
theorem a2u(s:ByteArray)(hs:s.size<=4611686018427387904):m88 s=some (uI s,()):=by
 refine T.eq ?_
 unfold m88 uI
 have hl:=Bg s
 refine T.grd (by first|(simp(disch:=omega) only[bD,bq,fU,gq,dD,dG,fZ,gT,bf,kY,dU,kW,dN,gM,iJ,je,jf,kT,dO,gQ,iB,l5,eY,nO,dM,dS,fB,fF,jM,fC,jN,iM,eq_self,or_true,true_or,eU,true_and,or_false,false_or,gZ,false_and,not_true_eq_false,not_false_eq_true,dA,aT,aY,eF,jC,aR,ak,bI,bV,bK,bH,cu,bW];omega)|(simp(disch:=omega) only[bD,bq,fU,gq,dD,dG,fZ,gT,bf,kY,dU,kW,dN,gM,iJ,je,jf,kT,dO,gQ,iB,l5,eY,nO,dM,dS,fB,fF,jM,fC,jN,iM,eq_self,or_true,true_or,eU,true_and,or_false,false_or,gZ,false_and,not_true_eq_false,not_false_eq_true,dA,aT,aY,eF,jC,aR,ak,bI,bV,bK,bH,cu,bW];done)) ?_
 refine T.cnd (λhc=>?_) (λhc=>?_)<;>simp only[bD,bq,fU,gq,dD,dG,fZ,gT,bf,kY,dU,kW,dN,gM,iJ,je,jf,kT,dO,gQ,iB,l5,eY,nO,dM,dS,fB,fF,jM,fC,jN,iM,eq_self,or_true,true_or,eU,true_and,or_false,false_or,gZ,false_and,not_true_eq_false,not_false_eq_true,dA,aT]at hc
 .refine T.grd (by first|(simp(disch:=omega) only[bD,bq,fU,gq,dD,dG,fZ,gT,bf,kY,dU,kW,dN,gM,iJ,je,jf,kT,dO,gQ,iB,l5,eY,nO,dM,dS,fB,fF,jM,fC,jN,iM,eq_self,or_true,true_or,eU,true_and,or_false,false_or,gZ,false_and,not_true_eq_false,not_false_eq_true,dA,aT,aY,eF,jC,aR,ak,bI,bV,bK,bH,cu,bW];omega)|(simp(disch:=omega) only[bD,bq,fU,gq,dD,dG,fZ,gT,bf,kY,dU,kW,dN,gM,iJ,je,jf,kT,dO,gQ,iB,l5,eY,nO,dM,dS,fB,fF,jM,fC,jN,iM,eq_self,or_true,true_or,eU,true_and,or_false,false_or,gZ,false_and,not_true_eq_false,not_false_eq_true,dA,aT,aY,eF,jC,aR,ak,bI,bV,bK,bH,cu,bW];done)) (T.ret ?_)
  rw[if_pos (by omega)]
 .rw[if_neg (by omega)]
  have e1:fV .i64 (sLen s) 1=(s.size:Int)-1:=by rw[eF (by omega) (by omega),hl]
  rw[e1]
  refine T.dh (Yf _) ?_
  refine T.grd (by first|(simp(disch:=omega) only[bD,bq,fU,gq,dD,dG,fZ,gT,bf,kY,dU,kW,dN,gM,iJ,je,jf,kT,dO,gQ,iB,l5,eY,nO,dM,dS,fB,fF,jM,fC,jN,iM,eq_self,or_true,true_or,eU,true_and,or_false,false_or,gZ,false_and,not_true_eq_false,not_false_eq_true,dA,aT,aY,eF,jC,aR,ak,bI,bV,bK,bH,cu,bW];omega)|(simp(disch:=omega) only[bD,bq,fU,gq,dD,dG,fZ,gT,bf,kY,dU,kW,dN,gM,iJ,je,jf,kT,dO,gQ,iB,l5,eY,nO,dM,dS,fB,fF,jM,fC,jN,iM,eq_self,or_true,true_or,eU,true_and,or_false,false_or,gZ,false_and,not_true_eq_false,not_false_eq_true,dA,aT,aY,eF,jC,aR,ak,bI,bV,bK,bH,cu,bW];done)) ?_
  refine T.cnd (λhc=>T.ret ?_) (λhc=>?_)<;>simp only[bD,bq,fU,gq,dD,dG,fZ,gT,bf,kY,dU,kW,dN,gM,iJ,je,jf,kT,dO,gQ,iB,l5,eY,nO,dM,dS,fB,fF,jM,fC,jN,iM,eq_self,or_true,true_or,eU,true_and,or_false,false_or,gZ,false_and,not_true_eq_false,not_false_eq_true,dA,aT]at hc
  .rw[if_neg]
   rintro⟨q1,q2⟩
   rcases hc with q|q
   .rw[q1]at q;cases q
   .exact q2 q
  .rw[if_pos ⟨hc.1,hc.2⟩]
   refine T.dh (a5x s 0 (by omega) hs) (T.ret ?_)
   congr 1
   rw[hl,wB]
   simp only[dD,dH]
   omega
theorem RQ(p:Int->Bool)(s:ByteArray):∀(n i:Nat),i+n=s.size->(vL p s i=s.size↔∀j,i<=j->j<s.size->p (sAt s (j:Int))=true):=by
 intro n
 induction n with
 |zero =>
  intro i hi
  have:i=s.size:=by omega
  subst this
  rw[IG]
  exact⟨λ_ j h1 h2=>by omega,λ_=>rfl⟩
 |succ n ih =>
  intro i hi
  rw[FU p s i (by omega)]
  have:=ih (i+1) (by omega)
  by_cases hp:p (sAt s (i:Int))=true
  .rw[if_pos hp,this]
   constructor
   .intro h j h1 h2
    rcases Nat.eq_or_lt_of_le h1 with q|q
    .rw[<- q];exact hp
    .exact h j q h2
   .intro h j h1 h2;exact h j (by omega) h2
  .rw[if_neg hp]
   constructor
   .intro h;omega
   .intro h;exact absurd (h i (bF _) (by omega)) hp
theorem a2t(s:ByteArray)(hs:s.size<=4611686018427387904):m91 s=some (uI s,()):=by
 refine T.eq ?_
 unfold m91 uI
 have hl:=Bg s
 refine T.grd (by first|(simp(disch:=omega) only[bD,bq,fU,gq,dD,dG,fZ,gT,bf,kY,dU,kW,dN,gM,iJ,je,jf,kT,dO,gQ,iB,l5,eY,nO,dM,dS,fB,fF,jM,fC,jN,iM,eq_self,or_true,true_or,eU,true_and,or_false,false_or,gZ,false_and,not_true_eq_false,not_false_eq_true,dA,aT,aY,eF,jC,aR,ak,bI,bV,bK,bH,cu,bW];omega)|(simp(disch:=omega) only[bD,bq,fU,gq,dD,dG,fZ,gT,bf,kY,dU,kW,dN,gM,iJ,je,jf,kT,dO,gQ,iB,l5,eY,nO,dM,dS,fB,fF,jM,fC,jN,iM,eq_self,or_true,true_or,eU,true_and,or_false,false_or,gZ,false_and,not_true_eq_false,not_false_eq_true,dA,aT,aY,eF,jC,aR,ak,bI,bV,bK,bH,cu,bW];done)) ?_
 refine T.cnd (λhc=>?_) (λhc=>?_)<;>simp only[bD,bq,fU,gq,dD,dG,fZ,gT,bf,kY,dU,kW,dN,gM,iJ,je,jf,kT,dO,gQ,iB,l5,eY,nO,dM,dS,fB,fF,jM,fC,jN,iM,eq_self,or_true,true_or,eU,true_and,or_false,false_or,gZ,false_and,not_true_eq_false,not_false_eq_true,dA,aT]at hc
 .refine T.grd (by first|(simp(disch:=omega) only[bD,bq,fU,gq,dD,dG,fZ,gT,bf,kY,dU,kW,dN,gM,iJ,je,jf,kT,dO,gQ,iB,l5,eY,nO,dM,dS,fB,fF,jM,fC,jN,iM,eq_self,or_true,true_or,eU,true_and,or_false,false_or,gZ,false_and,not_true_eq_false,not_false_eq_true,dA,aT,aY,eF,jC,aR,ak,bI,bV,bK,bH,cu,bW];omega)|(simp(disch:=omega) only[bD,bq,fU,gq,dD,dG,fZ,gT,bf,kY,dU,kW,dN,gM,iJ,je,jf,kT,dO,gQ,iB,l5,eY,nO,dM,dS,fB,fF,jM,fC,jN,iM,eq_self,or_true,true_or,eU,true_and,or_false,false_or,gZ,false_and,not_true_eq_false,not_false_eq_true,dA,aT,aY,eF,jC,aR,ak,bI,bV,bK,bH,cu,bW];done)) (T.ret ?_)
  rw[if_pos (by omega)]
 .rw[if_neg (by omega)]
  have e1:fV .i64 (sLen s) 1=(s.size:Int)-1:=by rw[eF (by omega) (by omega),hl]
  rw[e1]
  refine T.dh (Ye _) ?_
  refine T.grd (by first|(simp(disch:=omega) only[bD,bq,fU,gq,dD,dG,fZ,gT,bf,kY,dU,kW,dN,gM,iJ,je,jf,kT,dO,gQ,iB,l5,eY,nO,dM,dS,fB,fF,jM,fC,jN,iM,eq_self,or_true,true_or,eU,true_and,or_false,false_or,gZ,false_and,not_true_eq_false,not_false_eq_true,dA,aT,aY,eF,jC,aR,ak,bI,bV,bK,bH,cu,bW];omega)|(simp(disch:=omega) only[bD,bq,fU,gq,dD,dG,fZ,gT,bf,kY,dU,kW,dN,gM,iJ,je,jf,kT,dO,gQ,iB,l5,eY,nO,dM,dS,fB,fF,jM,fC,jN,iM,eq_self,or_true,true_or,eU,true_and,or_false,false_or,gZ,false_and,not_true_eq_false,not_false_eq_true,dA,aT,aY,eF,jC,aR,ak,bI,bV,bK,bH,cu,bW];done)) ?_
  refine T.cnd (λhc=>T.ret ?_) (λhc=>?_)<;>simp only[bD,bq,fU,gq,dD,dG,fZ,gT,bf,kY,dU,kW,dN,gM,iJ,je,jf,kT,dO,gQ,iB,l5,eY,nO,dM,dS,fB,fF,jM,fC,jN,iM,eq_self,or_true,true_or,eU,true_and,or_false,false_or,gZ,false_and,not_true_eq_false,not_false_eq_true,dA,aT]at hc
  .rw[if_neg]
   rintro⟨q1,q2⟩
   rcases hc with q|q
   .rw[q1]at q;cases q
   .exact q2 q
  .rw[if_pos ⟨hc.1,hc.2⟩]
   have key:=RQ rH s s.size 0 (by omega)
   refine T.loop (λq=>∃j:Nat,j<=s.size/\(∀k,k<j->rH (sAt s (k:Int))=true)/\q=(s,(j:Int),())) (λq=>s.size-q.2.1.toNat) ⟨0,by omega,λk hk=>by omega,rfl⟩ ?_
   rintro _ ⟨j,hj,he,rfl⟩
   dsimp only
   have go:j<s.size->rH (sAt s (j:Int))=true->T (some (Sum.inl (β:=Bool×Unit) (s,bX .i64 (j:Int) 1,()))) (LQ (λq=>∃j:Nat,j<=s.size/\(∀k,k<j->rH (sAt s (k:Int))=true)/\q=(s,(j:Int),())) (λq=>s.size-q.2.1.toNat) (s.size-(j:Int).toNat) (λx=>x=(decide (vL rH s 0=s.size),()))):=λhlt hw=>by
    refine T.go ⟨j+1,by omega,λk hk=>?_,by rw[aY (by omega) (by omega)];rfl⟩ ?_
    .rcases aM k j with q|q
     .exact he k q
     .rw[show k=j by omega];exact hw
    .dsimp only;rw[aY (by omega) (by omega)];omega
   refine T.cnd (λhc=>?_) (λhc=>?_)<;>simp only[bD,bq]at hc
   .have hlt:j<s.size:=by omega
    refine T.grd (by first|(simp(disch:=omega) only[bD,bq,fU,gq,dD,dG,fZ,gT,bf,kY,dU,kW,dN,gM,iJ,je,jf,kT,dO,gQ,iB,l5,eY,nO,dM,dS,fB,fF,jM,fC,jN,iM,eq_self,or_true,true_or,eU,true_and,or_false,false_or,gZ,false_and,not_true_eq_false,not_false_eq_true,dA,aT,aY,eF,jC,aR,ak,bI,bV,bK,bH,cu,bW];omega)|(simp(disch:=omega) only[bD,bq,fU,gq,dD,dG,fZ,gT,bf,kY,dU,kW,dN,gM,iJ,je,jf,kT,dO,gQ,iB,l5,eY,nO,dM,dS,fB,fF,jM,fC,jN,iM,eq_self,or_true,true_or,eU,true_and,or_false,false_or,gZ,false_and,not_true_eq_false,not_false_eq_true,dA,aT,aY,eF,jC,aR,ak,bI,bV,bK,bH,cu,bW];done)) ?_
    refine T.dh (Ye _) ?_
    refine T.grd (by first|(simp(disch:=omega) only[bD,bq,fU,gq,dD,dG,fZ,gT,bf,kY,dU,kW,dN,gM,iJ,je,jf,kT,dO,gQ,iB,l5,eY,nO,dM,dS,fB,fF,jM,fC,jN,iM,eq_self,or_true,true_or,eU,true_and,or_false,false_or,gZ,false_and,not_true_eq_false,not_false_eq_true,dA,aT,aY,eF,jC,aR,ak,bI,bV,bK,bH,cu,bW];omega)|(simp(disch:=omega) only[bD,bq,fU,gq,dD,dG,fZ,gT,bf,kY,dU,kW,dN,gM,iJ,je,jf,kT,dO,gQ,iB,l5,eY,nO,dM,dS,fB,fF,jM,fC,jN,iM,eq_self,or_true,true_or,eU,true_and,or_false,false_or,gZ,false_and,not_true_eq_false,not_false_eq_true,dA,aT,aY,eF,jC,aR,ak,bI,bV,bK,bH,cu,bW];done)) ?_
    refine T.cnd (λh1=>?_) (λh1=>?_)<;>simp only[dO,gQ]at h1
    .refine T.dh (a8b _) ?_
     refine T.grd (by first|(simp(disch:=omega) only[bD,bq,fU,gq,dD,dG,fZ,gT,bf,kY,dU,kW,dN,gM,iJ,je,jf,kT,dO,gQ,iB,l5,eY,nO,dM,dS,fB,fF,jM,fC,jN,iM,eq_self,or_true,true_or,eU,true_and,or_false,false_or,gZ,false_and,not_true_eq_false,not_false_eq_true,dA,aT,aY,eF,jC,aR,ak,bI,bV,bK,bH,cu,bW];omega)|(simp(disch:=omega) only[bD,bq,fU,gq,dD,dG,fZ,gT,bf,kY,dU,kW,dN,gM,iJ,je,jf,kT,dO,gQ,iB,l5,eY,nO,dM,dS,fB,fF,jM,fC,jN,iM,eq_self,or_true,true_or,eU,true_and,or_false,false_or,gZ,false_and,not_true_eq_false,not_false_eq_true,dA,aT,aY,eF,jC,aR,ak,bI,bV,bK,bH,cu,bW];done)) ?_
     refine T.cnd (λh2=>T.out ?_) (λh2=>?_)<;>simp only[bD,bq,fU,gq,dD,dG,fZ,gT,bf,kY,dU,kW,dN,gM,iJ,je,jf,kT,dO,gQ,iB,l5,eY,nO,dM,dS,fB,fF,jM,fC,jN,iM,eq_self,or_true,true_or,eU,true_and,or_false,false_or,gZ,false_and,not_true_eq_false,not_false_eq_true,dA,aT]at h2
     .rw[jh]
      intro q
      have:=key.1 q j (by omega) hlt
      unfold rH at this
      rw[h1,h2.1]at this
      simp at this
      exact h2.2 this
     .refine go hlt ?_
      unfold rH
      rcases h2 with q|q
      .rw[q];simp
      .rw[gF q];simp
    .refine T.grd (by first|(simp(disch:=omega) only[bD,bq,fU,gq,dD,dG,fZ,gT,bf,kY,dU,kW,dN,gM,iJ,je,jf,kT,dO,gQ,iB,l5,eY,nO,dM,dS,fB,fF,jM,fC,jN,iM,eq_self,or_true,true_or,eU,true_and,or_false,false_or,gZ,false_and,not_true_eq_false,not_false_eq_true,dA,aT,aY,eF,jC,aR,ak,bI,bV,bK,bH,cu,bW];omega)|(simp(disch:=omega) only[bD,bq,fU,gq,dD,dG,fZ,gT,bf,kY,dU,kW,dN,gM,iJ,je,jf,kT,dO,gQ,iB,l5,eY,nO,dM,dS,fB,fF,jM,fC,jN,iM,eq_self,or_true,true_or,eU,true_and,or_false,false_or,gZ,false_and,not_true_eq_false,not_false_eq_true,dA,aT,aY,eF,jC,aR,ak,bI,bV,bK,bH,cu,bW];done)) (go hlt ?_)
     unfold rH;rw[h1];rfl
   .refine T.out ?_
    rw[gF]
    exact key.2 λk _ hk=>he k (by omega)
theorem Jf(a b:Bool):(cond a (some (true,())) (some (b,())):Option (Bool×Unit))=some (a||b,()):=by cases a<;>rfl
def Hl(s:ByteArray):Bool:=(m89 s).elim false λy=>y.1
theorem Xz(s:ByteArray):m89 s=some (Hl s,()):=by
 have h:∃b,m89 s=some (b,()):=by
  unfold m89
  simp only[Jf]
  exact⟨_,rfl⟩
 obtain⟨b,h⟩:=h
 unfold Hl
 rw[h];rfl
theorem a5A(s:ByteArray):m92 s=some (Hl s,()):=(show m92 s=m89 s from rfl).trans (Xz s)
def JI(s:ByteArray):Bool:=uI s&&!Hl s
theorem a4R{a b:ByteArray}(h:BG a=BG b):a=b:=by
 have key:∀(l m:List UInt8),(l.map λc=>(c.toNat:Int))=(m.map λc=>(c.toNat:Int))->l=m:=by
  intro l
  induction l with
  |nil=>intro m h;cases m with
   |nil=>rfl
   |cons=>cases h
  |cons x l ih =>
   intro m h
   cases m with
   |nil=>cases h
   |cons y m =>
    simp only[dn,wz]at h
    have:x=y:=UInt8.toNat_inj.1 (by omega)
    rw[this,ih m h.2]
 have:=key _ _ h
 cases a;cases b
 simp at this;rw[this]
theorem a0w(a b:ByteArray):sEq a b=decide (BG a=BG b):=by
 rcases h:sEq a b with _|_
 .rw[G5]at h;symm;rw[fJ];exact λq=>h (a4R q)
 .rw[FZ]at h;subst h;symm;rw[dH]
theorem a0B{a b:Int}(h:0<=a):tZ a b=a%b:=by unfold tZ;rw[Int.tmod_eq_emod_of_nonneg h]
def eqB(a b:ByteArray):Bool:=decide (BG a=BG b)
theorem yX(a b:ByteArray):sEq a b=eqB a b:=a0w a b
theorem a7Z{a b:ByteArray}:(eqB a b=true)=(a=b):=by rw[<- yX,FZ]
def RES:List ByteArray:=[bs [97,110,100],bs [97,118,101,114,97,103,101],bs [99,111,105,110,115,117,114,97,110,99,101],bs [99,111,110,100,105,116,105,111,110],bs [99,111,118,101,114],bs [100,101,100,117,99,116,105,98,108,101],bs [100,101,102,105,110,101],bs [101,110,100],bs [101,110,100,111,114,115,101],bs [101,120,99,108,117,100,101],bs [102,97,108,115,101],bs [102,114,97,110,99,104,105,115,101],bs [102,114,111,109],bs [105,110],bs [108,105,109,105,116],bs [110,111,116],bs [111,114],bs [114,101,109,111,118,101],bs [115,117,98,108,105,109,105,116],bs [116,111],bs [116,114,117,101],bs [117,110,108,101,115,115],bs [119,104,101,110]]
theorem a0A(s:ByteArray):Hl s=RES.any (λw=>eqB s w):=by
 unfold Hl m89
 simp only[Jf,yX,Option.elim,RES,List.any_cons,List.any_nil,Bool.or_false]
def pG(s:ByteArray):Bool:=uI s&&!RES.any (λw=>eqB s w)
theorem Oc(s:ByteArray):JI s=pG s:=by unfold JI pG;rw[a0A]
theorem UQ(s:ByteArray):m88 s=some (uI s,()):=by
 by_cases h:s.size<=4611686018427387904
 .exact a2u s h
 .refine T.eq ?_
  unfold m88 uI
  have hl:=Bg s
  refine T.grd (by rw[eY,bf];left;omega) ?_
  refine T.ct (by rw[fB,dD,bD];omega) ?_
  refine T.grd (by rw[eY];right;rfl) (T.ret ?_)
  rw[if_pos (by omega)]
theorem RF(s:ByteArray):m91 s=some (uI s,()):=by
 by_cases h:s.size<=4611686018427387904
 .exact a2t s h
 .refine T.eq ?_
  unfold m91 uI
  have hl:=Bg s
  refine T.grd (by rw[eY,bf];left;omega) ?_
  refine T.ct (by rw[fB,bD,bD];omega) ?_
  refine T.grd (by rw[eY];right;rfl) (T.ret ?_)
  rw[if_pos (by omega)]
theorem nm(s:ByteArray):m73 s=some (pG s,()):=by
 rw[<- Oc]
 unfold m73 JI
 rw[UQ s,Xz]
 cases uI s<;>rfl
theorem nr(s:ByteArray):m77 s=some (pG s,()):=by
 rw[<- Oc]
 unfold m77 JI
 rw[RF s,a5A]
 cases uI s<;>rfl
theorem R8(l:List ByteArray)(w:ByteArray)(hl:l.length<=9223372036854775807):LG l w=some (l.any (λx=>eqB w x),()):=by
 refine T.eq ?_
 unfold LG Qs
 refine T.call (P:=λy=>(0<=y.1↔l.any (λx=>eqB w x)=true)) ?_ ?_
 .refine T.loop (λq=>∃i:Nat,i<=l.length/\(l.take i).any (λx=>eqB w x)=false/\q=(l,w,ay l,(i:Int),())) (λq=>l.length-q.2.2.2.1.toNat) ⟨0,by omega,rfl,rfl⟩ ?_
  rintro _ ⟨i,hi,hf,rfl⟩
  dsimp only
  refine T.cnd (λhc=>?_) (λhc=>?_)<;>simp only[bD,bq,aR]at hc
  .have hlt:i<l.length:=by omega
   refine T.grd (by rw[bf,aR];omega) ?_
   have ea:atI l (i:Int) ByteArray.empty=l[i]:=by unfold atI;rw[aZ,aQ,ah hlt];rfl
   rw[ea,yX]
   refine T.cnd (λhc2=>T.out ?_) (λhc2=>T.go ⟨i+1,by omega,?_,?_⟩ ?_)
   .dsimp only
    refine⟨λ_=>gP.2 ⟨l[i],aJ hlt,hc2⟩,λ_=>by omega⟩
   .rw[bU hlt,qC,hf]
    simp[hc2]
   .rw[aY (by omega) (by omega)];rfl
   .dsimp only;rw[aY (by omega) (by omega)];omega
  .refine T.out ?_
   obtain rfl:i=l.length:=by omega
   rw[dV]at hf
   dsimp only
   rw[hf];simp
 .rintro⟨v,_⟩ hv
  refine T.ret ?_
  dsimp only at hv ⊢
  congr 1
  rcases h:l.any (λx=>eqB w x) with _|_
  .rw[h]at hv;rw[gq];have:¬0<=v:=λq=>by have:=hv.1 q;cases this
   omega
  .rw[h]at hv;rw[fU];exact hv.2 rfl
def Cz(l:List ByteArray)(i:Nat):Bool:=(l.take i).any (λx=>eqB (l.getD i ByteArray.empty) x)
def Bd(l:List ByteArray):Int:=if l.length=0 then 19 else if 12<l.length then 4 else if l.all pG=true then(if(List.range l.length).any (Cz l)=true then 8 else 0) else 6
theorem xP{α:Type}(l:List α)(i:Nat)(z:α)(h:i<l.length):atI l (i:Int) z=l[i]:=by unfold atI;rw[aZ,aQ,ah h];rfl
theorem MS{α:Type}(l:List α)(p:α->Bool)(i:Nat)(h:i<l.length)(hf:(l.take i).all p=true)(hp:p l[i]=true):(l.take (i+1)).all p=true:=by
 rw[bU h,Ao,hf];simp[hp]
theorem OY{α:Type}(l:List α)(p:α->Bool)(i:Nat)(h:i<l.length)(hp:p l[i]=false):l.all p=false:=by
 rcases q:l.all p with _|_
 .rfl
 .have:=aU.1 q l[i] (aJ h);rw[hp]at this;cases this
theorem ZT(l:List ByteArray):m90 l=some (Bd l,()):=by
 refine T.eq ?_
 unfold m90 Bd
 refine T.cnd (λhc=>T.ret ?_) (λhc=>?_)<;>simp only[dD,dG,aR]at hc
 .rw[if_pos (by omega)]
 rw[if_neg (by omega)]
 refine T.cnd (λhc=>T.ret ?_) (λhc=>?_)<;>simp only[bD,bq,aR]at hc
 .rw[if_pos (by omega)]
 rw[if_neg (by omega)]
 have hL:=aR l
 refine T.loop (λq=>∃i:Nat,i<=l.length/\(l.take i).all pG=true/\q=(l,l,ay l,(i:Int),())) (λq=>l.length-q.2.2.2.1.toNat) ⟨0,by omega,rfl,rfl⟩ ?_
 rintro _ ⟨i,hi,hf,rfl⟩
 dsimp only
 refine T.cnd (λhc=>?_) (λhc=>?_)<;>simp only[bD,bq]at hc
 .have hlt:i<l.length:=by omega
  refine T.grd (by rw[bf];omega) ?_
  rw[xP l i _ hlt]
  refine T.dh (nm _) ?_
  dsimp only
  refine T.cnd (λhc2=>T.out ?_) (λhc2=>T.go ⟨i+1,by omega,?_,?_⟩ ?_)
  .rw[dO]at hc2;rw[if_neg (by rw[OY l pG i hlt hc2];simp)]
  .rw[gQ]at hc2;exact MS l pG i hlt hf hc2
  .rw[aY (by omega) (by omega)];rfl
  .dsimp only;rw[aY (by omega) (by omega)];omega
 obtain rfl:i=l.length:=by omega
 rw[dV]at hf
 rw[if_pos hf]
 refine T.lT ?_
 refine T.loop (λq=>∃i:Nat,i<=l.length/\(List.range i).any (Cz l)=false/\q=(l,l,ay l,(i:Int),())) (λq=>l.length-q.2.2.2.1.toNat) ⟨0,by omega,rfl,rfl⟩ ?_
 rintro _ ⟨i,hi,hg,rfl⟩
 dsimp only
 refine T.cnd (λhc=>?_) (λhc=>?_)<;>simp only[bD,bq]at hc
 .have hlt:i<l.length:=by omega
  refine T.grd (by rw[bf];omega) ?_
  refine T.grd (by rw[iJ];omega) ?_
  have hcut:uU 0 (i:Int) l=l.take i:=by unfold uU;rw[aZ];rfl
  rw[hcut]
  refine T.dh (R8 _ _ (by rw[bH];omega)) ?_
  have hd:(l.take i).any (λx=>eqB (atI l (i:Int) ByteArray.empty) x)=Cz l i:=by unfold Cz atI;rw[aZ]
  rw[hd]
  dsimp only
  refine T.cnd (λhc2=>T.out ?_) (λhc2=>T.go ⟨i+1,by omega,?_,?_⟩ ?_)
  .rw[if_pos (gP.2 ⟨i,bO.2 hlt,hc2⟩)]
  .rw[qA,qC,hg];simp[hc2]
  .rw[aY (by omega) (by omega)];rfl
  .dsimp only;rw[aY (by omega) (by omega)];omega
 .obtain rfl:i=l.length:=by omega
  refine T.out ?_
  rw[if_neg (by rw[hg];simp)]
theorem a03(l:List ByteArray)(hl:l.length<=12):m93 l=some (l.all pG,()):=by
 refine T.eq ?_
 unfold m93
 have hL:=aR l
 refine T.loop (λq=>∃i:Nat,i<=l.length/\(l.take i).all pG=true/\q=(l,(i:Int),())) (λq=>l.length-q.2.1.toNat) ⟨0,by omega,rfl,rfl⟩ ?_
 rintro _ ⟨i,hi,hf,rfl⟩
 dsimp only
 refine T.cnd (λhc=>?_) (λhc=>?_)<;>simp only[bD,bq]at hc
 .have hlt:i<l.length:=by omega
  refine T.grd (by rw[bf];omega) ?_
  rw[xP l i _ hlt]
  refine T.dh (nr _) ?_
  dsimp only
  refine T.cnd (λhc2=>T.out ?_) (λhc2=>T.go ⟨i+1,by omega,?_,?_⟩ ?_)
  .rw[dO]at hc2;rw[OY l pG i hlt hc2]
  .rw[gQ]at hc2;exact MS l pG i hlt hf hc2
  .rw[aY (by omega) (by omega)];rfl
  .dsimp only;rw[aY (by omega) (by omega)];omega
 .obtain rfl:i=l.length:=by omega
  rw[dV]at hf
  exact T.out (by rw[hf])
theorem R7(l:List ByteArray)(hl:l.length<=12):m94 l=some (!(List.range l.length).any (Cz l),()):=by
 refine T.eq ?_
 unfold m94
 have hL:=aR l
 refine T.loop (λq=>∃i:Nat,i<=l.length/\(List.range i).any (Cz l)=false/\q=(l,(i:Int),())) (λq=>l.length-q.2.1.toNat) ⟨0,by omega,rfl,rfl⟩ ?_
 rintro _ ⟨i,hi,hg,rfl⟩
 dsimp only
 refine T.cnd (λhc=>?_) (λhc=>?_)<;>simp only[bD,bq]at hc
 .have hlt:i<l.length:=by omega
  have hd:Cz l i=(l.take i).any (λx=>eqB l[i] x):=by unfold Cz;rw[aQ,ah hlt];rfl
  refine T.loop (λq=>∃j:Nat,j<=i/\(l.take j).any (λx=>eqB l[i] x)=false/\q=(l,(i:Int),(j:Int),())) (λq=>i-q.2.2.1.toNat) ⟨0,by omega,rfl,rfl⟩ ?_
  rintro _ ⟨j,hj,hf,rfl⟩
  dsimp only
  refine T.cnd (λhc2=>?_) (λhc2=>?_)<;>simp only[bD,bq]at hc2
  .have hjl:j<l.length:=by omega
   refine T.grd (by rw[bf];omega) ?_
   refine T.grd (by rw[bf];omega) ?_
   rw[xP l i _ hlt,xP l j _ hjl,yX]
   refine T.cnd (λhc3=>T.out ?_) (λhc3=>T.go ⟨j+1,by omega,?_,?_⟩ ?_)
   .show _=_
    have:Cz l i=true:=by
     rw[hd];refine gP.2 ⟨l[j],?_,hc3⟩
     exact jX.2 ⟨j,by rw[bH];omega,by rw[yF]⟩
    rw[gP.2 ⟨i,bO.2 hlt,this⟩];rfl
   .rw[bU hjl,qC,hf];simp[hc3]
   .rw[aY (by omega) (by omega)];rfl
   .dsimp only;rw[aY (by omega) (by omega)];omega
  .obtain rfl:j=i:=by omega
   refine T.out ⟨⟨j+1,by omega,?_,?_⟩,?_⟩
   .rw[qA,qC,hg];simp[hd,hf]
   .rw[aY (by omega) (by omega)];rfl
   .dsimp only;rw[aY (by omega) (by omega)];omega
 .obtain rfl:i=l.length:=by omega
  exact T.out (by rw[hg];rfl)
def tK(a:DS0):Int :=
 if a.2.1=1 then(if a.2.2.2.1≠0\/a.2.2.2.2.1≠0 then 20 else Bd a.2.2.1)
 else if a.2.1=2 then(if 0<a.2.2.1.length then 20 else if a.2.2.2.2.1<a.2.2.2.1\/a.2.2.2.1 < -1000000000\/1000000000<a.2.2.2.2.1 then 1 else 0)
 else if a.2.1=3 then(if 0<a.2.2.1.length\/a.2.2.2.1≠0\/a.2.2.2.2.1≠0 then 20 else 0) else 11
theorem a5g(a:DS0):m75 a=some (tK a,()):=by
 refine T.eq ?_
 unfold m75 tK
 have hL:=aR a.2.2.1
 refine T.cnd (λc1=>?_) (λc1=>?_)<;>simp only[dD,dG]at c1
 .rw[if_pos c1]
  refine T.cnd (λc2=>T.ret ?_) (λc2=>?_)<;>simp only[fB,fF,fZ,gT]at c2
  .rw[if_pos (by omega)]
  .rw[if_neg (by omega)];exact T.dh (ZT _) (T.ret rfl)
 rw[if_neg c1]
 refine T.cnd (λc1=>?_) (λc1=>?_)<;>simp only[dD,dG]at c1
 .rw[if_pos c1]
  refine T.cnd (λc2=>T.ret ?_) (λc2=>?_)<;>simp only[bD,bq]at c2
  .rw[if_pos (by omega)]
  .rw[if_neg (by omega)]
   refine T.cnd (λc2=>T.ret ?_) (λc2=>T.ret ?_)<;>simp only[fB,fF,bD,bq]at c2
   .rw[if_pos (by omega)]
   .rw[if_neg (by omega)]
 rw[if_neg c1]
 refine T.cnd (λc1=>?_) (λc1=>?_)<;>simp only[dD,dG]at c1
 .rw[if_pos c1]
  refine T.cnd (λc2=>T.ret ?_) (λc2=>T.ret ?_)<;>simp only[fB,fF,bD,bq,fZ,gT]at c2
  .rw[if_pos (by omega)]
  .rw[if_neg (by omega)]
 .rw[if_neg c1];exact T.ret rfl
theorem a5f(a:DS0):m78 a=some (tK a,()):=by
 refine T.eq ?_
 unfold m78 tK
 have hL:=aR a.2.2.1
 refine T.cnd (λc1=>?_) (λc1=>?_)<;>simp only[dD,dG]at c1
 .rw[if_pos c1]
  refine T.cnd (λc2=>T.ret ?_) (λc2=>?_)<;>simp only[fB,fF,fZ,gT]at c2
  .rw[if_pos (by omega)]
  .rw[if_neg (by omega)]
   unfold Bd
   refine T.cnd (λc2=>T.ret ?_) (λc2=>?_)<;>simp only[dD,dG]at c2
   .rw[if_pos (by omega)]
   rw[if_neg (by omega)]
   refine T.cnd (λc2=>T.ret ?_) (λc2=>?_)<;>simp only[bD,bq]at c2
   .rw[if_pos (by omega)]
   rw[if_neg (by omega)]
   refine T.dh (a03 _ (by omega)) ?_
   dsimp only
   refine T.cnd (λc3=>T.ret ?_) (λc3=>?_)<;>simp only[dO,gQ]at c3
   .rw[if_neg (by rw[c3];simp)]
   rw[if_pos c3]
   refine T.dh (R7 _ (by omega)) ?_
   dsimp only
   refine T.cnd (λc4=>T.ret ?_) (λc4=>T.ret ?_)<;>simp only[dO,gQ]at c4
   .rw[if_pos c4]
   .rw[if_neg (by rw[c4];simp)]
 rw[if_neg c1]
 refine T.cnd (λc1=>?_) (λc1=>?_)<;>simp only[dD,dG]at c1
 .rw[if_pos c1]
  refine T.cnd (λc2=>T.ret ?_) (λc2=>?_)<;>simp only[bD,bq]at c2
  .rw[if_pos (by omega)]
  rw[if_neg (by omega)]
  refine T.cnd (λc3=>T.ret ?_) (λc3=>?_)<;>simp only[bD,bq]at c3
  .rw[if_pos (by omega)]
  unfold m95
  refine T.bind (T.ret ?_)
  refine T.cnd (λc4=>T.ret ?_) (λc4=>?_)<;>simp only[fB,fF,bD,bq]at c4
  .rw[if_pos (by omega)]
  refine T.bind (T.ret ?_)
  refine T.cnd (λc5=>T.ret ?_) (λc5=>T.ret ?_)<;>simp only[fB,fF,bD,bq]at c5
  .rw[if_pos (by omega)]
  .rw[if_neg (by omega)]
 rw[if_neg c1]
 refine T.cnd (λc1=>?_) (λc1=>?_)<;>simp only[dD,dG]at c1
 .rw[if_pos c1]
  refine T.cnd (λc2=>T.ret ?_) (λc2=>T.ret ?_)<;>simp only[fB,fF,bD,bq,fZ,gT]at c2
  .rw[if_pos (by omega)]
  .rw[if_neg (by omega)]
 .rw[if_neg c1];exact T.ret rfl
def zA:DS0:=(ByteArray.empty,0,[],0,0,())
def CB(l:List DS0)(i:Nat):Bool:=(l.take i).any (λx=>eqB x.1 (l.getD i zA).1)
def chk(l:List DS0)(i:Nat):Int:=if pG (l.getD i zA).1=false then 6 else if CB l i=true then 8 else tK (l.getD i zA)
def Ay(l:List DS0):Nat->Nat->Int
 |0,_=>0
 |n+1,i=>if chk l i≠0 then chk l i else Ay l n (i+1)
def jH(l:List DS0):Int:=if l.length=0 then 19 else if 6<l.length then 4 else Ay l l.length 0
theorem getD_eq{α:Type}(l:List α)(i:Nat)(z:α)(h:i<l.length):l.getD i z=l[i]:=by rw[aQ,ah h];rfl
theorem dF{α:Type}(l:List α)(i:Nat)(z:α):atI l (i:Int) z=l.getD i z:=by unfold atI;rw[aZ]
theorem a1f(l:List DS0)(i:Nat)(hi:i<l.length)(hl:l.length<=6):T (m74 (l,()) (l.getD i zA).1) (λy=>(y.1<(i:Int))↔CB l i=true):=by
 unfold m74
 have hL:=aR l
 generalize hw:(l.getD i zA).1=w
 have hd:CB l i=(l.take i).any (λx=>eqB x.1 w):=by unfold CB;rw[hw]
 rw[hd]
 refine T.loop (λq=>∃j:Nat,j<=i/\(l.take j).any (λx=>eqB x.1 w)=false/\q=(w,l,ay l,(j:Int),())) (λq=>l.length-q.2.2.2.1.toNat) ⟨0,by omega,rfl,rfl⟩ ?_
 rintro _ ⟨j,hj,hf,rfl⟩
 dsimp only
 refine T.ct (by rw[bD];omega) ?_
 have hjl:j<l.length:=by omega
 refine T.grd (by rw[bf];omega) ?_
 rw[xP l j _ hjl,yX]
 refine T.cnd (λhc=>T.out ?_) (λhc=>T.go ⟨j+1,?_,?_,?_⟩ ?_)
 .dsimp only
  constructor
  .intro q
   refine gP.2 ⟨l[j],jX.2 ⟨j,by rw[bH];omega,by rw[yF]⟩,hc⟩
  .intro q
   rcases aM j i with r|r
   .omega
   .obtain rfl:j=i:=by omega
    rw[hf]at q;cases q
 .rcases aM j i with r|r
  .omega
  .obtain rfl:j=i:=by omega
   rw[getD_eq l j _ hjl]at hw
   rw[hw]at hc
   have:eqB w w=true:=by rw[a7Z]
   rw[this]at hc;cases hc
 .rw[bU hjl,qC,hf];simp[hc]
 .rw[aY (by omega) (by omega)];rfl
 .dsimp only;rw[aY (by omega) (by omega)];omega
theorem Jw(s:DS5):m38 s=some (jH s.1,()):=by
 obtain⟨l,⟨⟩⟩:=s
 refine T.eq ?_
 unfold m38 jH
 dsimp only
 have hL:=aR l
 refine T.cnd (λhc=>T.ret ?_) (λhc=>?_)<;>simp only[dD,dG]at hc
 .rw[if_pos (by omega)]
 rw[if_neg (by omega)]
 refine T.cnd (λhc=>T.ret ?_) (λhc=>?_)<;>simp only[bD,bq]at hc
 .rw[if_pos (by omega)]
 rw[if_neg (by omega)]
 generalize htg:Ay l l.length 0=tgt
 refine T.loop (λq=>∃n i:Nat,i+n=l.length/\Ay l n i=tgt/\q=(l,ay l,(i:Int),l,())) (λq=>l.length-q.2.2.1.toNat) ⟨l.length,0,by omega,htg,rfl⟩ ?_
 rintro _ ⟨n,i,hn,he,rfl⟩
 dsimp only
 refine T.cnd (λhc1=>?_) (λhc1=>?_)<;>simp only[bD,bq]at hc1
 .have hi:i<l.length:=by omega
  obtain⟨n,rfl⟩:∃m,n=m+1:=⟨n-1,by omega⟩
  simp only[Ay]at he
  refine T.grd (by rw[bf];omega) ?_
  have ea:atI l (i:Int) (ByteArray.empty,0,[],0,0,())=l.getD i zA:=dF l i zA
  rw[ea]
  refine T.dh (nm _) ?_
  dsimp only
  refine T.cnd (λc1=>T.out ?_) (λc1=>?_)<;>simp only[dO,gQ]at c1
  .rw[show chk l i=6 by unfold chk;rw[if_pos c1],if_pos (by decide)]at he;exact he▸rfl
  have k1:chk l i=if CB l i=true then 8 else tK (l.getD i zA):=by unfold chk;rw[if_neg (by rw[c1];simp)]
  refine T.call (a1f l i hi (by omega)) (λy hy=>?_)
  refine T.cnd (λc2=>T.out ?_) (λc2=>?_)<;>simp only[bD,bq]at c2
  .rw[if_pos (hy.1 c2)]at k1;rw[k1,if_pos (by decide)]at he;exact he▸rfl
  rw[if_neg (λq=>by have:=hy.2 q;omega)]at k1
  rw[k1]at he
  refine T.dh (a5g (l.getD i zA)) ?_
  dsimp only
  refine T.cnd (λc3=>T.out ?_) (λc3=>T.go ⟨n,i+1,by omega,?_,?_⟩ ?_)<;>simp only[fZ,gT]at c3
  .rw[if_pos c3]at he;exact he▸rfl
  .rw[if_neg (by rw[c3];simp)]at he;exact he
  .rw[aY (by omega) (by omega)];rfl
  .dsimp only;rw[aY (by omega) (by omega)];omega
 .obtain rfl:n=0:=by omega
  exact T.out (he▸rfl)
theorem Xw(s:DS5):m41 s=some (jH s.1,()):=by
 obtain⟨l,⟨⟩⟩:=s
 refine T.eq ?_
 unfold m41 jH
 dsimp only
 have hL:=aR l
 refine T.cnd (λhc=>T.ret ?_) (λhc=>?_)<;>simp only[dD,dG]at hc
 .rw[if_pos (by omega)]
 rw[if_neg (by omega)]
 refine T.cnd (λhc=>T.ret ?_) (λhc=>?_)<;>simp only[bD,bq]at hc
 .rw[if_pos (by omega)]
 rw[if_neg (by omega)]
 generalize htg:Ay l l.length 0=tgt
 refine T.loop (λq=>∃n i:Nat,i+n=l.length/\Ay l n i=tgt/\q=((i:Int),l,())) (λq=>l.length-q.1.toNat) ⟨l.length,0,by omega,htg,rfl⟩ ?_
 rintro _ ⟨n,i,hn,he,rfl⟩
 dsimp only
 refine T.cnd (λhc1=>?_) (λhc1=>?_)<;>simp only[bD,bq]at hc1
 .have hi:i<l.length:=by omega
  obtain⟨n,rfl⟩:∃m,n=m+1:=⟨n-1,by omega⟩
  simp only[Ay]at he
  refine T.grd (by rw[bf];omega) ?_
  have ea:atI l (i:Int) (ByteArray.empty,0,[],0,0,())=l.getD i zA:=dF l i zA
  rw[ea]
  refine T.dh (nr _) ?_
  dsimp only
  refine T.cnd (λc1=>T.out ?_) (λc1=>?_)<;>simp only[dO,gQ]at c1
  .rw[show chk l i=6 by unfold chk;rw[if_pos c1],if_pos (by decide)]at he;exact he▸rfl
  have k1:chk l i=if CB l i=true then 8 else tK (l.getD i zA):=by unfold chk;rw[if_neg (by rw[c1];simp)]
  obtain⟨w,hw⟩:∃w,l.getD i zA=w:=⟨_,rfl⟩
  have hd:CB l i=(l.take i).any (λx=>eqB x.1 w.1):=by unfold CB;rw[hw]
  rw[hw,hd]at k1
  rw[hw]
  refine T.loop (λq=>∃j:Nat,j<=i/\(l.take j).any (λx=>eqB x.1 w.1)=false/\q=((i:Int),(j:Int),l,w.1,w.2.1,w.2.2.1,w.2.2.2.1,w.2.2.2.2.1,())) (λq=>i-q.2.1.toNat) ⟨0,by omega,rfl,rfl⟩ ?_
  rintro _ ⟨j,hj,hf,rfl⟩
  dsimp only
  refine T.cnd (λhc2=>?_) (λhc2=>?_)<;>simp only[bD,bq]at hc2
  .have hjl:j<l.length:=by omega
   refine T.grd (by rw[bf];omega) ?_
   rw[xP l j _ hjl,yX]
   refine T.cnd (λhc3=>T.out ?_) (λhc3=>T.go ⟨j+1,by omega,?_,?_⟩ ?_)
   .show((8:Int),())=(tgt,())
    rw[if_pos (gP.2 ⟨l[j],jX.2 ⟨j,by rw[bH];omega,by rw[yF]⟩,hc3⟩)]at k1
    rw[k1,if_pos (by decide)]at he
    exact he▸rfl
   .rw[bU hjl,qC,hf];simp[hc3]
   .rw[aY (by omega) (by omega)];rfl
   .dsimp only;rw[aY (by omega) (by omega)];omega
  .obtain rfl:j=i:=by omega
   rw[if_neg (by rw[hf];simp)]at k1
   rw[k1]at he
   refine T.lT ?_
   refine T.dh (a5f (w.1,w.2.1,w.2.2.1,w.2.2.2.1,w.2.2.2.2.1,())) ?_
   have ew:((w.1,w.2.1,w.2.2.1,w.2.2.2.1,w.2.2.2.2.1,()):DS0)=w:=rfl
   rw[ew]
   dsimp only
   refine T.cnd (λc3=>T.ret ?_) (λc3=>T.ret ⟨⟨n,j+1,by omega,?_,?_⟩,?_⟩)<;>simp only[fZ,gT]at c3
   .show(tK w,())=(tgt,())
    rw[if_pos c3]at he;exact he▸rfl
   .rw[if_neg (by rw[c3];simp)]at he;exact he
   .rw[aY (by omega) (by omega)];rfl
   .dsimp only;rw[aY (by omega) (by omega)];omega
 .obtain rfl:n=0:=by omega
  exact T.out (he▸rfl)
theorem ZY(l:List DS0):∀n i,Ay l n i=0->∀j,i<=j->j<i+n->chk l j=0:=by
 intro n
 induction n with
 |zero=>intro i _ j h1 h2;omega
 |succ n ih =>
  intro i h j h1 h2
  simp only[Ay]at h
  by_cases q:chk l i≠0
  .rw[if_pos q]at h;exact absurd h q
  .rw[if_neg q]at h
   rcases Nat.eq_or_lt_of_le h1 with r|r
   .subst r;simpa using q
   .exact ih (i+1) h j (by omega) (by omega)
theorem val_ok{l:List DS0}(h:jH l=0):1<=l.length/\l.length<=6/\∀a∈l,pG a.1=true/\tK a=0:=by
 unfold jH at h
 by_cases q:l.length=0
 .rw[if_pos q]at h;cases h
 rw[if_neg q]at h
 by_cases q2:6<l.length
 .rw[if_pos q2]at h;cases h
 rw[if_neg q2]at h
 refine⟨by omega,by omega,λa ha=>?_⟩
 obtain⟨j,hj,rfl⟩:=jX.1 ha
 have:=ZY l l.length 0 h j (by omega) (by omega)
 unfold chk at this
 rw[getD_eq l j zA hj]at this
 rcases c:pG (l[j]).1 with _|_
 .rw[if_pos c]at this;cases this
 .rw[if_neg (by rw[c];simp)]at this
  by_cases d:CB l j=true
  .rw[if_pos d]at this;cases this
  .rw[if_neg d]at this;exact⟨rfl,this⟩
def kE(a:DS0):Int×Int:=if a.2.1=1 then(0,(a.2.2.1.length:Int)-1) else if a.2.1=2 then(a.2.2.2.1,a.2.2.2.2.1) else(0,1)
theorem RD{l:List ByteArray}(h:Bd l=0):1<=l.length/\l.length<=12/\∀w∈l,pG w=true:=by
 unfold Bd at h
 by_cases q:l.length=0
 .rw[if_pos q]at h;cases h
 rw[if_neg q]at h
 by_cases q2:12<l.length
 .rw[if_pos q2]at h;cases h
 rw[if_neg q2]at h
 by_cases q3:l.all pG=true
 .exact⟨by omega,by omega,λw hw=>aU.1 q3 w hw⟩
 .rw[if_neg q3]at h;cases h
theorem Ij{a:DS0}(h:tK a=0):(a.2.1=1/\1<=a.2.2.1.length/\a.2.2.1.length<=12/\(∀w∈a.2.2.1,pG w=true))\/(a.2.1=2/\a.2.2.2.1<=a.2.2.2.2.1/\-1000000000<=a.2.2.2.1/\a.2.2.2.2.1<=1000000000)\/a.2.1=3:=by
 unfold tK at h
 by_cases c1:a.2.1=1
 .rw[if_pos c1]at h
  by_cases c2:a.2.2.2.1≠0\/a.2.2.2.2.1≠0
  .rw[if_pos c2]at h;cases h
  .rw[if_neg c2]at h;have:=RD h;exact .inl ⟨c1,this.1,this.2.1,this.2.2⟩
 rw[if_neg c1]at h
 by_cases c2:a.2.1=2
 .rw[if_pos c2]at h
  by_cases c3:0<a.2.2.1.length
  .rw[if_pos c3]at h;cases h
  rw[if_neg c3]at h
  by_cases c4:a.2.2.2.2.1<a.2.2.2.1\/a.2.2.2.1 < -1000000000\/1000000000<a.2.2.2.2.1
  .rw[if_pos c4]at h;cases h
  .exact .inr (.inl ⟨c2,by omega,by omega,by omega⟩)
 rw[if_neg c2]at h
 by_cases c3:a.2.1=3
 .exact .inr (.inr c3)
 .rw[if_neg c3]at h;cases h
theorem MF{a:DS0}(h:tK a=0):(kE a).1<=(kE a).2/\-1000000000<=(kE a).1/\(kE a).2<=1000000000:=by
 unfold kE
 rcases Ij h with⟨k,h1,h2,_⟩|⟨k,h1,h2,h3⟩|k
 .rw[if_pos k];dsimp only;omega
 .rw[if_neg (by omega),if_pos k];exact⟨h1,h2,h3⟩
 .rw[if_neg (by omega),if_neg (by omega)];decide
theorem a8a{a:DS0}(h:tK a=0):m76 a=some ((kE a).1,(kE a).2,()):=by
 refine T.eq ?_
 unfold m76 kE
 have hL:=aR a.2.2.1
 refine T.cnd (λc1=>?_) (λc1=>?_)<;>simp only[dD,dG]at c1
 .rcases Ij h with⟨k,h1,h2,_⟩|⟨k,_⟩|k
  .rw[if_pos c1,eF (by omega) (by omega),hL];exact T.ret rfl
  .omega
  .omega
 rw[if_neg c1]
 refine T.cnd (λc2=>?_) (λc2=>?_)<;>simp only[dD,dG]at c2
 .rw[if_pos c2];exact T.ret rfl
 .rw[if_neg c2];exact T.ret rfl
theorem JX(l:List DS0)(i:Nat)(hi:i<l.length)(h:jH l=0):m42 (l,()) (i:Int)=some ((kE l[i]).1,(kE l[i]).2,()):=by
 refine T.eq ?_
 unfold m42
 have hL:=aR l
 obtain⟨v1,v2,v3⟩:=val_ok h
 have ha:=(v3 _ (aJ hi)).2
 refine T.dh (Xw (l,())) ?_
 dsimp only
 refine T.cf (by rw[fF,fF,gT,bq,gq];omega) ?_
 refine T.grd (by rw[bf];omega) ?_
 rw[xP l i _ hi]
 unfold kE
 have hL2:=aR (l[i]).2.2.1
 refine T.cnd (λc1=>?_) (λc1=>?_)<;>simp only[dD,dG]at c1
 .rcases Ij ha with⟨k,h1,h2,_⟩|⟨k,_⟩|k
  .rw[if_pos c1,eF (by omega) (by omega),hL2];exact T.ret rfl
  .omega
  .omega
 rw[if_neg c1]
 refine T.cnd (λc2=>?_) (λc2=>?_)<;>simp only[dD,dG]at c2
 .rw[if_pos c2];exact T.ret rfl
 .rw[if_neg c2];exact T.ret rfl
def inD(l:List DS0)(f:List Int)(i:Nat):Bool:=decide ((kE (l.getD i zA)).1<=f.getD i 0/\f.getD i 0<=(kE (l.getD i zA)).2)
def CY(l:List DS0)(f:List Int):Bool:=decide (jH l=0)&&decide (f.length=l.length)&&(List.range l.length).all (inD l f)
theorem Kn(a n:Int)(ha:-9223372036854775808<=a/\a<=9223372036854775807)(hn:0<n)(hn2:n<=4611686018427387904):T (m16 a n) (λy=>0<=y.1/\y.1<n):=by
 unfold m16
 refine T.grd (by rw[fZ];omega) (T.grd (by rw[fZ];omega) (T.ret ?_))
 have h1:tZ a n=a.tmod n:=rfl
 have h2:a.tmod n<n:=Int.tmod_lt_of_pos a hn
 have h3:-n<a.tmod n:=by have:=Int.lt_tmod_of_pos a hn;omega
 dsimp only
 rw[h1,aY (by omega) (by omega)]
 have h4:tZ (a.tmod n+n) n=(a.tmod n+n)%n:=a0B (by omega)
 rw[h4]
 exact⟨Int.emod_nonneg _ (by omega),Int.emod_lt_of_pos _ hn⟩
def sch:Nat->List DS0
 |0=>([((bs [112,101,114,105,108]),1,([(bs [102,105,114,101]),(bs [102,108,111,111,100]),(bs [119,105,110,100]),(bs [116,104,101,102,116])]:List ByteArray),0,0,()),((bs [115,116,111,114,101,121,115]),2,([]:List ByteArray),1,9,()),((bs [97,108,97,114,109]),3,([]:List ByteArray),0,0,())]:List DS0)
 |1=>([((bs [110]),2,([]:List ByteArray),(-5),20,())]:List DS0)
 |2=>([((bs [97]),3,([]:List ByteArray),0,0,()),((bs [114,111,108,101]),1,([(bs [99,114,101,119]),(bs [103,117,101,115,116])]:List ByteArray),0,0,()),((bs [98]),3,([]:List ByteArray),0,0,())]:List DS0)
 |3=>([((bs [110]),2,([]:List ByteArray),(-1000000000),1000000000,()),((bs [116]),3,([]:List ByteArray),0,0,())]:List DS0)
 |4=>([((bs [111,110,101]),1,([(bs [111,110,108,121])]:List ByteArray),0,0,()),((bs [112,101,114,105,108]),1,([(bs [102,105,114,101]),(bs [102,108,111,111,100]),(bs [119,105,110,100]),(bs [116,104,101,102,116])]:List ByteArray),0,0,()),((bs [110]),2,([]:List ByteArray),0,6,()),((bs [116]),3,([]:List ByteArray),0,0,())]:List DS0)
 |_=>([((bs [116]),3,([]:List ByteArray),0,0,())]:List DS0)
theorem a5y(k:Int)(hk:-9223372036854775808<=k/\k<=9223372036854775807):∃j:Nat,j<6/\m15 k=some ((sch j,()),()):=by
 obtain⟨⟨v,_⟩,h1,h2,h3⟩:=Kn k 6 hk (by omega) (by omega)
 unfold m15
 rw[h1]
 dsimp only at h2 h3 ⊢
 refine⟨v.toNat,by omega,?_⟩
 have:v=0\/v=1\/v=2\/v=3\/v=4\/v=5:=by omega
 rcases this with rfl|rfl|rfl|rfl|rfl|rfl<;>rfl
theorem a0u:∀j:Nat,j<6->jH (sch j)=0:=by
 intro j hj
 match j,hj with
 |0,_=>exact(by kernel_rfl:jH (sch 0)=0)
 |1,_=>exact(by kernel_rfl:jH (sch 1)=0)
 |2,_=>exact(by kernel_rfl:jH (sch 2)=0)
 |3,_=>exact(by kernel_rfl:jH (sch 3)=0)
 |4,_=>exact(by kernel_rfl:jH (sch 4)=0)
 |5,_=>exact(by kernel_rfl:jH (sch 5)=0)
theorem a1l(l:List DS0)(h:jH l=0){L:List Int}{a0:Int}(hd:mo L a0):T (m24 (l,()) L a0) (λy=>mo y.1 y.2.1/\CY l y.2.2.1=true):=by
 unfold m24
 have hL:=aR l
 obtain⟨v1,v2,v3⟩:=val_ok h
 refine T.loop (λq=>∃(i:Nat) (K:List Int) (a:Int) (f:List Int),i<=l.length/\mo K a/\f.length=i/\(List.range i).all (inD l f)=true/\q=((i:Int),K,a,l,f,())) (λq=>l.length-q.1.toNat) ⟨0,L,a0,[],by omega,hd,rfl,rfl,rfl⟩ ?_
 rintro _ ⟨i,K,a,f,hi,hk,hf,hg,rfl⟩
 dsimp only
 refine T.cnd (λhc=>?_) (λhc=>?_)<;>simp only[bD,bq]at hc
 .have hlt:i<l.length:=by omega
  have hb:=MF (v3 _ (aJ hlt)).2
  refine T.dh (JX l i hlt h) ?_
  dsimp only
  have ed:∀v:Int,(kE l[i]).1<=v->v<=(kE l[i]).2->(List.range (i+1)).all (inD l (f++[v]))=true:=by
   intro v a1 a2
   refine aU.2 λj hj=>?_
   have hj:=bO.1 hj
   rcases aM j i with r|r
   .have:=aU.1 hg j (bO.2 r)
    unfold inD at this ⊢
    rw[aQ (l:=f++[v]),aH (by omega),<- aQ]
    exact this
   .obtain rfl:j=i:=by omega
    unfold inD
    rw[dH,getD_eq l j zA hlt,aQ,aK (by omega),hf,o8]
    exact⟨a1,a2⟩
  have add:∀(K':List Int) (a' v:Int),mo K' a'->(kE l[i]).1<=v->v<=(kE l[i]).2->T (cond (fits (List.length f+List.length ([v]:List Int)) 8) (some (Sum.inl (β:=List Int×Int×List Int×Unit) (bX .i64 (i:Int) 1,K',a',l,f++[v],()))) none) (LQ (λq=>∃(i:Nat) (K:List Int) (a:Int) (f:List Int),i<=l.length/\mo K a/\f.length=i/\(List.range i).all (inD l f)=true/\q=((i:Int),K,a,l,f,())) (λq=>l.length-q.1.toNat) (l.length-(i:Int).toNat) (λy=>mo y.1 y.2.1/\CY l y.2.2.1=true)):=by
   intro K' a' v k1 k2 k3
   refine T.grd (by rw[dN,aF];omega) (T.go ⟨i+1,K',a',f++[v],by omega,k1,by rw[ak,aF,hf],ed v k2 k3,?_⟩ ?_)
   .rw[aY (by omega) (by omega)];rfl
   .dsimp only;rw[aY (by omega) (by omega)];omega
  rw[eF (by omega) (by omega),aY (by omega) (by omega)]
  refine T.call (ru hk (by omega) (by omega)) (λy ⟨n1,n2,n3⟩=>?_)
  refine T.call (ru n1 (by omega) (by omega)) (λz ⟨z1,z2,z3⟩=>?_)
  refine T.cnd (λ_=>?_) (λ_=>?_)
  .exact add _ _ _ z1 (by omega) (by omega)
  refine T.cnd (λ_=>?_) (λ_=>?_)
  .exact add _ _ _ z1 (by omega) (by omega)
  refine T.cnd (λ_=>?_) (λ_=>?_)
  .refine T.call (ru z1 (by omega) (by omega)) (λu ⟨u1,u2,u3⟩=>?_)
   rw[eF (by omega) (by omega)]
   refine add _ _ _ u1 ?_ ?_
   .unfold pW uT;omega
   .unfold pW uT;omega
  .rw[aY (by omega) (by omega)]
   exact add _ _ _ z1 (by omega) (by omega)
 .obtain rfl:i=l.length:=by omega
  refine T.out ⟨hk,?_⟩
  dsimp only
  unfold CY
  rw[gF h,gF hf,hg];rfl
def zS:DS3:=(0,0,())
def doms(l:List DS0):List DS3:=l.map λa=>((kE a).1,(kE a).2,())
theorem qK(l:List DS0):(doms l).length=l.length:=by simp[doms]
theorem zI(l:List DS0)(i:Nat)(h:i<l.length):(doms l).getD i zS=((kE l[i]).1,(kE l[i]).2,()):=by
 rw[getD_eq _ _ _ (by rw[qK];exact h)];simp[doms]
def gX(dm:List DS3):Prop:=1<=dm.length/\dm.length<=6/\∀d∈dm,d.1<=d.2.1/\-1000000000<=d.1/\d.2.1<=1000000000
theorem ql{l:List DS0}(h:jH l=0):gX (doms l):=by
 obtain⟨v1,v2,v3⟩:=val_ok h
 refine⟨by rw[qK];exact v1,by rw[qK];exact v2,λd hd=>?_⟩
 obtain⟨a,ha,rfl⟩:=dW.1 hd
 exact MF (v3 a ha).2
theorem gX.at{dm:List DS3}(h:gX dm){i:Nat}(hi:i<dm.length):(dm.getD i zS).1<=(dm.getD i zS).2.1/\-1000000000<=(dm.getD i zS).1/\(dm.getD i zS).2.1<=1000000000:=by
 rw[getD_eq _ _ _ hi];exact h.2.2 _ (aJ hi)
theorem TT(l:List DS0)(i:Nat)(hi:i<l.length)(h:jH l=0):m39 (l,()) (i:Int)=some ((kE l[i]).1,(kE l[i]).2,()):=by
 have v:=val_ok h
 refine T.eq ?_
 unfold m39
 refine T.dh (Jw _) ?_
 have hL:=aR l
 dsimp only
 refine T.cf (by rw[fF,fF,gT,bq,gq];exact⟨⟨h,by omega⟩,by omega⟩) ?_
 refine T.grd (by rw[bf];omega) ?_
 rw[show atI l (i:Int) (ByteArray.empty,0,[],0,0,())=l[i] from xP l i _ hi]
 exact T.dh (a8a (v.2.2 _ (aJ hi)).2) (T.ret rfl)
theorem ME(l:List DS0)(h:jH l=0):m50 (l,())=some (doms l,()):=by
 refine T.eq ?_
 unfold m50
 have v:=val_ok h
 have hL:=aR l
 refine T.grd (by rw[gM];dsimp only;omega) ?_
 refine T.loop (λq=>∃(i:Nat) (r:List DS3),i<=l.length/\r.length=l.length/\(∀j,j<i->r.getD j zS=(doms l).getD j zS)/\q=((l.length:Int),(i:Int),l,r,())) (λq=>l.length-q.2.1.toNat) ⟨0,List.replicate l.length zS,by omega,by simp,λj hj=>by omega,?_⟩ ?_
 .dsimp only
  rw[hL,aZ,aR,bW]
  rfl
 rintro _ ⟨i,r,hi,hr,hg,rfl⟩
 dsimp only
 refine T.cnd (λhc=>?_) (λhc=>?_)<;>simp only[bD,bq]at hc
 .have hlt:i<l.length:=by omega
  refine T.dh (TT l i hlt h) ?_
  have hr1:=aR r
  have hS:=aR (List.set r (i:Int).toNat ((kE l[i]).1,(List.getD r (i:Int).toNat (0,0,())).2.1,()))
  rw[bK]at hS
  refine T.grd (by rw[bf];omega) (T.grd (by rw[dU];omega) (T.grd (by rw[bf];dsimp only;omega) (T.grd (by rw[dU,bK];omega) ?_)))
  refine T.go ⟨i+1,_,by omega,?_,?_,by rw[aY (by omega) (by omega)];rfl⟩ (by dsimp only;rw[aY (by omega) (by omega)];omega)
  .simp[hr]
  .intro j hj
   rw[aZ]
   have hjl:j<l.length:=by omega
   rw[zI l j hjl]
   by_cases e:j=i
   .subst e
    rw[getD_eq _ _ _ (by simp[hr];omega)]
    simp
    rw[aW (by omega)]
    rfl
   .have hx:=hg j (by omega)
    rw[zI l j hjl]at hx
    rw[aQ,aB (by omega),aB (by omega),<- aQ]
    exact hx
 .obtain rfl:i=l.length:=by omega
  refine T.out ?_
  congr 1
  apply gB (by rw[hr,qK])
  intro j h1 h2
  have:=hg j (by rw[<- hr];exact h1)
  rwa [getD_eq _ _ _ h1,getD_eq _ _ _ h2]at this
theorem xG(a b:List Int)(h:a.length<=9223372036854775807):m23 a b=some (decide (a=b),()):=by
 refine T.eq ?_
 unfold m23
 have hA:=aR a
 have hB:=aR b
 refine T.cnd (λhc=>?_) (λhc=>?_)<;>simp only[fZ,gT]at hc
 .refine T.ret ?_
  rw[jh (λe=>by subst e;exact hc rfl)]
 refine T.loop (λq=>∃i:Nat,i<=a.length/\(∀j,j<i->a.getD j 0=b.getD j 0)/\q=(a,b,(i:Int),())) (λq=>a.length-q.2.2.1.toNat) ⟨0,by omega,λj hj=>by omega,rfl⟩ ?_
 rintro _ ⟨i,hi,hg,rfl⟩
 dsimp only
 refine T.cnd (λhc=>?_) (λhc=>?_)<;>simp only[bD,bq]at hc
 .refine T.grd (by rw[bf];omega) (T.grd (by rw[bf];omega) (T.cnd (λhd=>?_) (λhd=>?_)))<;>simp only[fZ,gT,dF]at hd
  .exact T.out (by rw[jh (λe=>by subst e;exact hd rfl)])
  .refine T.go ⟨i+1,by omega,λj hj=>?_,by rw[aY (by omega) (by omega)];rfl⟩ (by dsimp only;rw[aY (by omega) (by omega)];omega)
   rcases aM j i with r|r
   .exact hg j r
   .obtain rfl:j=i:=by omega
    exact hd
 .refine T.out ?_
  rw[gF]
  apply gB (by omega)
  intro j h1 h2
  have:=hg j (by omega)
  rwa [getD_eq _ _ _ h1,getD_eq _ _ _ h2]at this
def jm(n:Nat)(r:Int):Prop:=-256<=r/\r<(n:Int)
instance (n:Nat) (r:Int):Decidable (jm n r):=inferInstanceAs (Decidable (_/\_))
theorem XB(x:DS2)(r:Int):m59 x r=some (decide (jm x.1.length r),()):=by
 unfold m59
 show some (cond (iLe (fV .i64 (-1) 255) r) (iLt r (ay x.1)) false,())=_
 rw[eF (by omega) (by omega),aR]
 have:cond (iLe (-1-255) r) (iLt r (x.1.length:Int)) false=decide (jm x.1.length r):=by
  rw[wB,dM,fU,bD,dH]
  unfold jm
  constructor<;>intro h<;>omega
 rw[this]
theorem XA(x:DS2)(r:Int):m56 x r=some (decide (jm x.1.length r),()):=by
 refine T.eq ?_
 unfold m56
 refine T.cnd (λhc=>?_) (λhc=>?_)<;>simp only[bD,bq]at hc<;>refine T.ret ?_<;>congr 1<;>rw[wB,dH]<;>unfold jm
 .rw[fU];omega
 .rw[bD,aR];omega
def mX(dm:List DS3)(ns:List DS1)(x:DS1):Prop :=
 0<=x.1/\x.1<(dm.length:Int)/\0<x.2.1.length/\x.2.2.1.length=x.2.1.length+1/\
 (∀k,k<x.2.1.length->(dm.getD x.1.toNat zS).1<x.2.1.getD k 0/\x.2.1.getD k 0<=(dm.getD x.1.toNat zS).2.1/\(0<k->x.2.1.getD (k-1) 0<x.2.1.getD k 0))/\
 (∀k,k<x.2.2.1.length->jm ns.length (x.2.2.1.getD k 0)/\(0<k->x.2.2.1.getD k 0≠x.2.2.1.getD (k-1) 0)/\(0<=x.2.2.1.getD k 0->x.1<(ns.getD (x.2.2.1.getD k 0).toNat zN).1))
theorem KO{cs:List Int}{lo hi:Int}(h:∀k,k<cs.length->lo<cs.getD k 0/\cs.getD k 0<=hi/\(0<k->cs.getD (k-1) 0<cs.getD k 0)):∀k,k<cs.length->lo+k+1<=cs.getD k 0:=by
 intro k
 induction k with
 |zero=>intro hk;have:=(h 0 hk).1;omega
 |succ k ih=>intro hk;have h1:=ih (by omega);have h2:=(h (k+1) hk).2.2 (by omega);rw[jd]at h2;omega
theorem mX.len{dm:List DS3}{ns:List DS1}{x:DS1}(h:mX dm ns x)(hd:gX dm):x.2.1.length<=2000000000/\x.2.2.1.length<=2000000001:=by
 obtain⟨h1,h2,h3,h4,h5,_⟩:=h
 have hb:=hd.at (i:=x.1.toNat) (by omega)
 have:=KO h5 (x.2.1.length-1) (by omega)
 have h6:=(h5 (x.2.1.length-1) (by omega)).2.1
 omega
theorem a0d{dm:List DS3}(hd:gX dm)(ns:List DS1)(root:Int)(x:DS1)(h1:x.2.1.length<=9223372036854775807)(h2:x.2.2.1.length<=9223372036854775807)(hn:ns.length<=9223372036854775807):T (m60 (ns,root,()) x dm) (λy=>y.1=true↔mX dm ns x):=by
 obtain⟨a,cs,nx,⟨⟩⟩:=x
 dsimp only at h1 h2
 unfold m60
 have hC:=aR cs
 have hX:=aR nx
 have hD:=aR dm
 have hd1:=hd.1
 have hd2:=hd.2.1
 dsimp only
 by_cases hmx:cs.length=9223372036854775807
 .refine T.ct ?_ (T.ret ⟨λh=>(by cases h),λh=>?_⟩)
  .have e1:bX .i64 ((9223372036854775807:Nat):Int) 1=-9223372036854775808:=by decide
   rw[fB]
   right
   rw[fZ,hX,hC,hmx,e1];omega
  .have:=h.2.2.2.1
   dsimp only at this
   omega
 rw[hC,hX,hD,aY (by omega) (by omega)]
 refine T.cnd (λhc=>?_) (λhc=>?_)<;>simp only[fB,fF,bD,bq,fU,gq,dD,dG,fZ,gT]at hc
 .refine T.ret ⟨λh=>(by cases h),λh=>?_⟩
  obtain⟨k1,k2,k3,k4,_⟩:=h
  dsimp only at k1 k2 k3 k4
  omega
 obtain⟨⟨⟨c1,c2⟩,c3⟩,c4⟩:=hc
 refine T.grd (by rw[bf];omega) ?_
 refine T.loop (λq=>∃i:Nat,i<=cs.length/\(∀k,k<i->(dm.getD a.toNat zS).1<cs.getD k 0/\cs.getD k 0<=(dm.getD a.toNat zS).2.1/\(0<k->cs.getD (k-1) 0<cs.getD k 0))/\q=(dm,(if i=0 then(dm.getD a.toNat zS).1 else cs.getD (i-1) 0),cs,(cs.length:Int),(i:Int),ns,root,a,cs,nx,())) (λq=>cs.length-q.2.2.2.2.1.toNat) ⟨0,by omega,λk hk=>by omega,rfl⟩ ?_
 rintro _ ⟨i,hi,hg,rfl⟩
 dsimp only
 have eA:atI dm a (0,0,())=dm.getD a.toNat zS:=rfl
 rw[hC,hX,hD,eA,dF]
 refine T.cnd (λhc=>?_) (λhc=>?_)<;>simp only[bD,bq]at hc
 .have hlt:i<cs.length:=by omega
  refine T.grd (by rw[bf];omega) (T.grd (by rw[eY,bf];exact .inl ⟨by omega,by omega⟩) (T.cnd (λhc2=>?_) (λhc2=>?_)))<;>simp only[fB,fF,bD,bq,fU,gq]at hc2
  .refine T.out ⟨λh=>(by cases h),λh=>?_⟩
   have k5:=h.2.2.2.2.1 i hlt
   dsimp only at k5
   by_cases e:i=0
   .rw[if_pos e]at hc2;omega
   .rw[if_neg e]at hc2;have:=k5.2.2 (by omega);omega
  .refine T.go ⟨i+1,by omega,λk hk=>?_,?_⟩ (by dsimp only;rw[aY (by omega) (by omega)];omega)
   .rcases aM k i with r|r
    .exact hg k r
    .obtain rfl:k=i:=by omega
     by_cases e:k=0
     .rw[if_pos e]at hc2;exact⟨by omega,by omega,λq=>by omega⟩
     .rw[if_neg e]at hc2;have:=hg (k-1) (by omega);exact⟨by omega,by omega,λ_=>by omega⟩
   .rw[aY (by omega) (by omega),if_neg (by omega),jd];rfl
 .obtain rfl:i=cs.length:=by omega
  refine T.lT ?_
  refine T.loop (λq=>∃j:Nat,j<=nx.length/\(∀k,k<j->jm ns.length (nx.getD k 0)/\(0<k->nx.getD k 0≠nx.getD (k-1) 0)/\(0<=nx.getD k 0->a<(ns.getD (nx.getD k 0).toNat zN).1))/\q=(nx,(nx.length:Int),(j:Int),ns,root,a,cs,nx,())) (λq=>nx.length-q.2.2.1.toNat) ⟨0,by omega,λk hk=>by omega,rfl⟩ ?_
  rintro _ ⟨j,hj,hgj,rfl⟩
  dsimp only
  have hN:=aR ns
  rw[hX,dF]
  refine T.cnd (λhc=>?_) (λhc=>?_)<;>simp only[bD,bq]at hc
  .have hlt:j<nx.length:=by omega
   refine T.grd (by rw[bf];omega) (T.dh (XB _ _) ?_)
   dsimp only
   refine T.cnd (λhc2=>?_) (λhc2=>?_)<;>simp only[dO,gQ,dH,fJ]at hc2
   .refine T.out ⟨λh=>(by cases h),λh=>?_⟩
    exact absurd (h.2.2.2.2.2 j hlt).1 hc2
   have hj1:0<j->(fV .i64 (j:Int) 1)=((j-1:Nat):Int):=λq=>by rw[eF (by omega) (by omega)];omega
   refine T.grd ?_ (T.cnd (λhc3=>?_) (λhc3=>?_))
   .rw[eY]
    by_cases q:0<j
    .left;rw[hj1 q,bf];omega
    .right;rw[dO,fC,bq];omega
   .rw[dM,bD,dD]at hc3
    rw[hj1 (by omega),dF]at hc3
    refine T.out ⟨λh=>(by cases h),λh=>?_⟩
    exact absurd hc3.2 ((h.2.2.2.2.2 j hlt).2.1 (by omega))
   refine T.grd ?_ (T.cnd (λhc4=>?_) (λhc4=>?_))
   .rw[eY]
    by_cases q:0<=nx.getD j 0
    .left;rw[bf,hN];exact⟨q,hc2.2⟩
    .right;rw[dO,fC,gq];omega
   .rw[dM,fU,fU]at hc4
    refine T.out ⟨λh=>(by cases h),λh=>?_⟩
    have:=(h.2.2.2.2.2 j hlt).2.2 hc4.1
    have h4:(ns.getD (nx.getD j 0).toNat zN).1<=a:=hc4.2
    dsimp only at this
    omega
   .refine T.go ⟨j+1,by omega,λk hk=>?_,by rw[aY (by omega) (by omega)];rfl⟩ (by dsimp only;rw[aY (by omega) (by omega)];omega)
    rcases aM k j with r|r
    .exact hgj k r
    .obtain rfl:k=j:=by omega
     refine⟨hc2,λq e=>?_,λq=>?_⟩
     .rw[dS,bq,dG,hj1 q,dF]at hc3
      rcases hc3 with r|r
      .omega
      .exact r e
     .rw[dS,gq,gq]at hc4
      rcases hc4 with r|r
      .omega
      .exact r
  .obtain rfl:j=nx.length:=by omega
   exact T.out ⟨λ_=>⟨by dsimp only;omega,by dsimp only;omega,by dsimp only;omega,by dsimp only;omega,hg,hgj⟩,λ_=>rfl⟩
theorem a0c{l:List DS0}(hv:jH l=0)(ns:List DS1)(root:Int)(x:DS1)(h1:x.2.1.length<=9223372036854775807)(h2:x.2.2.1.length<=9223372036854775807)(hn:ns.length<=9223372036854775807):T (m57 (l,()) (ns,root,()) x) (λy=>y.1=true↔mX (doms l) ns x):=by
 obtain⟨a,cs,nx,⟨⟩⟩:=x
 dsimp only at h1 h2
 unfold m57
 have hC:=aR cs
 have hX:=aR nx
 have hL:=aR l
 have hd:=ql hv
 have hd1:=hd.1
 have hd2:=hd.2.1
 have hdl:=qK l
 dsimp only
 rw[hC,hX,hL,eF (by omega) (by omega)]
 refine T.cnd (λhc=>?_) (λhc=>?_)<;>simp only[fB,fF,bD,bq,fU,gq,dD,dG,fZ,gT]at hc
 .refine T.ret ⟨λh=>(by cases h),λh=>?_⟩
  obtain⟨k1,k2,k3,k4,_⟩:=h
  dsimp only at k1 k2 k3 k4
  omega
 obtain⟨⟨⟨c1,c2⟩,c3⟩,c4⟩:=hc
 have hal:a.toNat<l.length:=by omega
 have ea:a=(a.toNat:Int):=by omega
 have hdom:=zI l a.toNat hal
 refine T.dh (v:=((kE l[a.toNat]).1,(kE l[a.toNat]).2,())) (by have q:=JX l a.toNat hal hv;rwa [<- ea]at q) ?_
 dsimp only
 have eL:(kE l[a.toNat]).1=((doms l).getD a.toNat zS).1:=by rw[hdom]
 have eH:(kE l[a.toNat]).2=((doms l).getD a.toNat zS).2.1:=by rw[hdom]
 rw[eL,eH]
 generalize doms l=dm at *
 refine T.loop (λq=>∃i:Nat,i<=cs.length/\(∀k,k<i->(dm.getD a.toNat zS).1<cs.getD k 0/\cs.getD k 0<=(dm.getD a.toNat zS).2.1/\(0<k->cs.getD (k-1) 0<cs.getD k 0))/\q=((dm.getD a.toNat zS).1,(dm.getD a.toNat zS).2.1,(i:Int),ns,root,a,cs,nx,())) (λq=>cs.length-q.2.2.1.toNat) ⟨0,by omega,λk hk=>by omega,rfl⟩ ?_
 rintro _ ⟨i,hi,hg,rfl⟩
 dsimp only
 rw[hC,dF]
 refine T.cnd (λhc=>?_) (λhc=>?_)<;>simp only[bD,bq]at hc
 .have hlt:i<cs.length:=by omega
  refine T.grd (by rw[bf];omega) (T.grd (by rw[eY,bf];exact .inl ⟨by omega,by omega⟩) (T.cnd (λhc2=>?_) (λhc2=>?_)))<;>simp only[fB,fF,bD,bq,fU,gq]at hc2
  .refine T.out ⟨λh=>(by cases h),λh=>?_⟩
   have k5:=h.2.2.2.2.1 i hlt
   dsimp only at k5
   omega
  have hj1:0<i->(fV .i64 (i:Int) 1)=((i-1:Nat):Int):=λq=>by rw[eF (by omega) (by omega)];omega
  refine T.grd (by rw[eY,bf];exact .inl ⟨by omega,by omega⟩) (T.grd ?_ (T.cnd (λhc3=>?_) (λhc3=>?_)))
  .rw[eY]
   by_cases q:0<i
   .left;rw[hj1 q,bf];omega
   .right;rw[dO,fC,bq];omega
  .rw[dM,bD,fU]at hc3
   rw[hj1 (by omega),dF]at hc3
   refine T.out ⟨λh=>(by cases h),λh=>?_⟩
   have k5:=(h.2.2.2.2.1 i hlt).2.2 (by omega)
   dsimp only at k5
   omega
  .refine T.go ⟨i+1,by omega,λk hk=>?_,by rw[aY (by omega) (by omega)];rfl⟩ (by dsimp only;rw[aY (by omega) (by omega)];omega)
   rcases aM k i with r|r
   .exact hg k r
   .obtain rfl:k=i:=by omega
    refine⟨by omega,by omega,λq=>?_⟩
    rw[dS,bq,gq,hj1 q,dF]at hc3
    omega
 .obtain rfl:i=cs.length:=by omega
  refine T.lT ?_
  refine T.loop (λq=>∃j:Nat,j<=nx.length/\(∀k,k<j->jm ns.length (nx.getD k 0)/\(0<k->nx.getD k 0≠nx.getD (k-1) 0)/\(0<=nx.getD k 0->a<(ns.getD (nx.getD k 0).toNat zN).1))/\q=((j:Int),ns,root,a,cs,nx,())) (λq=>nx.length-q.1.toNat) ⟨0,by omega,λk hk=>by omega,rfl⟩ ?_
  rintro _ ⟨j,hj,hgj,rfl⟩
  dsimp only
  have hN:=aR ns
  rw[hX,dF]
  refine T.cnd (λhc=>?_) (λhc=>?_)<;>simp only[bD,bq]at hc
  .have hlt:j<nx.length:=by omega
   refine T.grd (by rw[bf];omega) (T.dh (XA _ _) ?_)
   dsimp only
   refine T.cnd (λhc2=>?_) (λhc2=>?_)<;>simp only[dO,gQ,dH,fJ]at hc2
   .refine T.out ⟨λh=>(by cases h),λh=>?_⟩
    exact absurd (h.2.2.2.2.2 j hlt).1 hc2
   have hj1:0<j->(fV .i64 (j:Int) 1)=((j-1:Nat):Int):=λq=>by rw[eF (by omega) (by omega)];omega
   refine T.grd ?_ (T.cnd (λhc3=>?_) (λhc3=>?_))
   .rw[eY]
    by_cases q:0<j
    .left;rw[hj1 q,bf];omega
    .right;rw[dO,fC,bq];omega
   .rw[dM,bD,dD]at hc3
    rw[hj1 (by omega),dF]at hc3
    refine T.out ⟨λh=>(by cases h),λh=>?_⟩
    exact absurd hc3.2 ((h.2.2.2.2.2 j hlt).2.1 (by omega))
   refine T.grd ?_ (T.cnd (λhc4=>?_) (λhc4=>?_))
   .rw[eY]
    by_cases q:0<=nx.getD j 0
    .left;rw[bf,hN];exact⟨q,hc2.2⟩
    .right;rw[dO,fC,gq];omega
   .rw[dM,fU,fU]at hc4
    refine T.out ⟨λh=>(by cases h),λh=>?_⟩
    have:=(h.2.2.2.2.2 j hlt).2.2 hc4.1
    have h4:(ns.getD (nx.getD j 0).toNat zN).1<=a:=hc4.2
    dsimp only at this
    omega
   .refine T.go ⟨j+1,by omega,λk hk=>?_,by rw[aY (by omega) (by omega)];rfl⟩ (by dsimp only;rw[aY (by omega) (by omega)];omega)
    rcases aM k j with r|r
    .exact hgj k r
    .obtain rfl:k=j:=by omega
     refine⟨hc2,λq e=>?_,λq=>?_⟩
     .rw[dS,bq,dG,hj1 q,dF]at hc3
      rcases hc3 with r|r
      .omega
      .exact r e
     .rw[dS,gq,gq]at hc4
      rcases hc4 with r|r
      .omega
      .exact r
  .obtain rfl:j=nx.length:=by omega
   exact T.out ⟨λ_=>⟨by dsimp only;omega,by dsimp only;omega,by dsimp only;omega,by dsimp only;omega,hg,hgj⟩,λ_=>rfl⟩
def rA(ns:List DS1)(rk:Nat->Nat):Prop:=∀r,r<ns.length->(kids ns r).length<=2000000001/\∀c∈kids ns r,c<(ns.length:Int)/\(0<=c->rk c.toNat<rk r)
def rkI(rk:Nat->Nat)(r:Int):Nat:=if r<0 then 0 else rk r.toNat+1
def jQ(n:Nat)(ord:List Nat):Prop:=ord.Nodup/\∀x∈ord,x<n
theorem IX:∀(n:Nat) (l:List Nat),l.Nodup->(∀x∈l,x<n)->l.length<=n:=by
 intro n
 induction n with
 |zero=>intro l _ h;cases l with
  |nil=>simp
  |cons x l=>exact absurd (h x (by simp)) (by omega)
 |succ n ih =>
  intro l hn h
  by_cases hm:n∈l
  ·have h1:=ih (l.erase n) (hn.erase n) (fun x hx=>by
    have:=(hn.mem_erase_iff).1 hx
    have:=h x this.2
    omega)
   rw[List.length_erase_of_mem hm]at h1
   omega
  ·have:=ih l hn (fun x hx=>by
    have:=h x hx
    have:x≠n:=λe=>hm (e▸hx)
    omega)
   omega
theorem jQ.len{n:Nat}{ord:List Nat}(h:jQ n ord):ord.length<=n:=IX n ord h.1 h.2
theorem jQ.snoc{n:Nat}{ord:List Nat}(h:jQ n ord){r:Nat}(hr:r<n)(hm:r∉ord):jQ n (ord++[r]):=by
 refine⟨?_,λx hx=>?_⟩
 .rw[ni]
  exact⟨h.1,by simp,λa ha b hb=>by simp at hb;subst hb;exact λe=>hm (e▸ha)⟩
 .rcases aV.1 hx with q|q
  .exact h.2 x q
  .simp at q;omega
section
variable{ns:List DS1}{rk:Nat->Nat}
theorem lS(f:Nat)(ord:List Nat){r:Int}(h:r<0):cK ns f ord r=ord:=by
 cases f with
 |zero=>rfl
 |succ f=>simp only[cK];rw[if_pos (.inl h)]
theorem rW(f:Nat)(ord:List Nat){r:Int}(h:r.toNat∈ord):cK ns f ord r=ord:=by
 cases f with
 |zero=>rfl
 |succ f=>simp only[cK];rw[if_pos (.inr h)]
theorem Dm{f:Nat}{ord:List Nat}{r:Int}(hr:0<=r)(hm:r.toNat∉ord)(hf:rkI rk r<=f):∃f',f=f'+1/\rk r.toNat<=f'/\cK ns f ord r=(kids ns r.toNat).foldl (cK ns f') (ord++[r.toNat]):=by
 unfold rkI at hf
 rw[if_neg (by omega)]at hf
 obtain⟨f',rfl⟩:∃f',f=f'+1:=⟨f-1,by omega⟩
 refine⟨f',rfl,by omega,?_⟩
 simp only[cK]
 rw[if_neg (by rintro(q|q);omega;exact hm q)]
theorem Mh(hR:rA ns rk)(f:Nat)(hf:∀(c:Int) (ord:List Nat),c<(ns.length:Int)->jQ ns.length ord->jQ ns.length (cK ns f ord c)/\∃t,cK ns f ord c=ord++t):∀(cs:List Int),(∀c∈cs,c<(ns.length:Int))->∀ord,jQ ns.length ord->jQ ns.length (cs.foldl (cK ns f) ord)/\∃t,cs.foldl (cK ns f) ord=ord++t:=by
 intro cs
 induction cs with
 |nil=>intro _ ord h;exact⟨h,[],by simp⟩
 |cons c cs ih =>
  intro hc ord h
  obtain⟨h1,t1,e1⟩:=hf c ord (hc c (by simp)) h
  obtain⟨h2,t2,e2⟩:=ih (λx hx=>hc x (by simp[hx])) _ h1
  rw[d9]
  exact⟨h2,t1++t2,by rw[e2,e1,aX]⟩
theorem pq(hR:rA ns rk):∀(f:Nat) (c:Int) (ord:List Nat),c<(ns.length:Int)->jQ ns.length ord->jQ ns.length (cK ns f ord c)/\∃t,cK ns f ord c=ord++t:=by
 intro f
 induction f with
 |zero=>intro c ord _ h;exact⟨h,[],by simp[cK]⟩
 |succ f ih =>
  intro c ord hc h
  simp only[cK]
  split
  .exact⟨h,[],by simp⟩
  .rename_i q
   have h0:0<=c:=by rcases eZ c 0 with r|r;exact absurd (.inl r) q;exact r
   obtain⟨h1,t,e⟩:=Mh hR f ih (kids ns c.toNat) (λx hx=>((hR c.toNat (by omega)).2 x hx).1) (ord++[c.toNat]) (h.snoc (by omega) (λr=>q (.inr r)))
   exact⟨h1,[c.toNat]++t,by rw[e,aX]⟩
theorem Er(hR:rA ns rk)(f:Nat)(cs:List Int)(hc:∀c∈cs,c<(ns.length:Int))(ord:List Nat)(h:jQ ns.length ord):jQ ns.length (cs.foldl (cK ns f) ord)/\∃t,cs.foldl (cK ns f) ord=ord++t:=Mh hR f (pq hR f) cs hc ord h
end
theorem F6(n M:Nat)(h:M<=n):jQ n (List.range M):=⟨List.nodup_range,λx hx=>by have:=bO.1 hx;omega⟩
def Off(ord:List Nat):Prop:=∃j,j<ord.length/\ord.getD j 0≠j
theorem Off.app{ord:List Nat}(h:Off ord)(t:List Nat):Off (ord++t):=by
 obtain⟨j,h1,h2⟩:=h
 refine⟨j,by rw[ak];omega,?_⟩
 rw[aQ,aH h1,<- aQ]
 exact h2
theorem Off.ne{n:Nat}(h:Off (List.range n)):False:=by
 obtain⟨j,h1,h2⟩:=h
 rw[oK]at h1
 rw[aQ,wE h1]at h2
 exact h2 rfl
theorem a05(x:DS2×Int×Int×Unit):Mo λs=>Hy s x.1 x.2.1 x.2.2.1:=by
 unfold Hy;(repeat' (first|exact Mo.const _|exact Mo.self _|apply Mo.bind|apply Mo.cond|apply Mo.map|apply Mo.join|apply Mo.loop|(intro _)))
theorem a5B {ns:List DS1} {rk:Nat->Nat} (hR:rA ns rk) (hn:ns.length<=1000000) (root:Int) (r:Int) (met:Nat) (hr:r < (ns.length:Int)) (hmet:met<=ns.length) :
  T (m62 (ns,root,()) r (met:Int)) (λy=>∃M:Nat,y.1=(M:Int)/\(y.2.1=true->M<=ns.length/\∀f,rkI rk r<=f->cK ns f (List.range met) r=List.range M)/\(y.2.1=false->∀f,rkI rk r<=f->Off (cK ns f (List.range met) r))):=by
 unfold m62
 refine Cu (ι:=Int×Nat) a05 (λg=>((ns,root,()),g.1,(g.2:Int),())) (λg=>g.1<(ns.length:Int)/\g.2<=ns.length)
  (λg y=>∃M:Nat,y.1=(M:Int)/\(y.2.1=true->M<=ns.length/\∀f,rkI rk g.1<=f->cK ns f (List.range g.2) g.1=List.range M)/\(y.2.1=false->∀f,rkI rk g.1<=f->Off (cK ns f (List.range g.2) g.1)))
  (λg=>rkI rk g.1) ?_ (r,met) ⟨hr,hmet⟩
 rintro⟨r,met⟩ ⟨hr,hmet⟩ s ih
 dsimp only at hr hmet ih ⊢
 unfold Hy
 have hN:=aR ns
 refine T.cnd (λhc=>?_) (λhc=>?_)<;>simp only[bD,bq]at hc
 .refine T.ret ⟨met,rfl,λ_=>⟨hmet,λf _=>?_⟩,λh=>(by cases h)⟩
  rcases eZ r 0 with q|q
  .exact lS f _ q
  .exact rW f _ (bO.2 (by omega))
 refine T.cnd (λhc2=>?_) (λhc2=>?_)<;>simp only[bD,bq]at hc2
 .refine T.ret ⟨met,rfl,λh=>(by cases h),λ_ f hf=>?_⟩
  obtain⟨f',_,_,e⟩:=Dm (ns:=ns) (ord:=List.range met) (by omega) (λq=>by have:=bO.1 q;omega) hf
  rw[e]
  have hk:=(hR r.toNat (by omega)).2
  obtain⟨_,t,e2⟩:=Er hR f' (kids ns r.toNat) (λc hc=>(hk c hc).1) (List.range met++[r.toNat]) ((F6 _ _ hmet).snoc (by omega) (λq=>by have:=bO.1 q;omega))
  rw[e2]
  refine Off.app ⟨met,by simp,?_⟩ t
  rw[aQ,aK (by simp),oK,o8]
  simp
  omega
 obtain rfl:r=(met:Int):=by omega
 have hlt:met<ns.length:=by omega
 obtain⟨hkl,hk⟩:=hR met hlt
 have ek:(atI ns (met:Int) (0,[],[],())).2.2.1=kids ns met:=by rw[dF];rfl
 have hK:=aR (kids ns met)
 refine T.grd (by rw[bf];dsimp only;omega) ?_
 dsimp only
 rw[ek,hK,aY (by omega) (by omega)]
 have hro:jQ ns.length (List.range met):=F6 _ _ hmet
 have en:met∉List.range met:=λq=>by have:=bO.1 q;omega
 have unf:∀f,rkI rk (met:Int)<=f->∃f',rk met<=f'/\cK ns f (List.range met) (met:Int)=(kids ns met).foldl (cK ns f') (List.range (met+1)):=λf hf=>by
  obtain⟨f',_,h2,h3⟩:=Dm (ns:=ns) (rk:=rk) (ord:=List.range met) (r:=(met:Int)) (by omega) (by rw[aZ];exact en) hf
  rw[aZ]at h2 h3
  exact⟨f',h2,by rw[h3,qA]⟩
 refine T.loop (λq=>∃(i M:Nat),i<=(kids ns met).length/\M<=ns.length/\(∀f',rk met<=f'->((kids ns met).take i).foldl (cK ns f') (List.range (met+1))=List.range M)/\q=((M:Int),kids ns met,((kids ns met).length:Int),(i:Int),ns,root,())) (λq=>(kids ns met).length-q.2.2.2.1.toNat) ⟨0,met+1,by omega,by omega,λf' _=>by simp,rfl⟩ ?_
 rintro _ ⟨i,M,hi,hM,oQ,rfl⟩
 dsimp only
 rw[hK,dF]
 refine T.cnd (λhc3=>?_) (λhc3=>?_)<;>simp only[bD,bq]at hc3
 .have hil:i<(kids ns met).length:=by omega
  have ec:=getD_eq (kids ns met) i 0 hil
  rw[ec]
  have hcm:=aJ hil
  obtain⟨k1,k2⟩:=hk _ hcm
  have hrk:rkI rk (kids ns met)[i]<=rk met:=by
   unfold rkI
   split
   .omega
   .rename_i q;exact k2 (by omega)
  have hlt2:rkI rk (kids ns met)[i]<rkI rk (met:Int):=by
   have:rkI rk (met:Int)=rk met+1:=by unfold rkI;rw[if_neg (by omega),aZ]
   omega
  have etk:∀f',((kids ns met).take (i+1)).foldl (cK ns f') (List.range (met+1))=cK ns f' (((kids ns met).take i).foldl (cK ns f') (List.range (met+1))) (kids ns met)[i]:=λf'=>by
   rw[bU hil,jr];rfl
  refine T.grd (by rw[bf];omega) (T.call (ih ((kids ns met)[i],M) ⟨k1,hM⟩ hlt2) ?_)
  rintro⟨y1,y2,⟨⟩⟩ ⟨M',rfl,y3,y4⟩
  dsimp only at y3 y4 ⊢
  refine T.cnd (λhc4=>?_) (λhc4=>?_)<;>simp only[dO,gQ]at hc4
  .refine T.out ⟨M',rfl,λh=>(by cases h),λ_ f hf=>?_⟩
   obtain⟨f',h1,h2⟩:=unf f hf
   rw[h2,<- ou (i+1) (kids ns met),jr,etk,oQ f' h1]
   have ho:=(pq hR f' _ (List.range M) k1 (F6 _ _ hM)).1
   obtain⟨_,t,e⟩:=Er hR f' ((kids ns met).drop (i+1)) (λc hc=>(hk c (l6 hc)).1) _ ho
   rw[e]
   exact(y4 hc4 f' (by omega)).app t
  .obtain⟨y5,y6⟩:=y3 hc4
   refine T.go ⟨i+1,M',by omega,y5,λf' h1=>?_,by rw[aY (by omega) (by omega)];rfl⟩ (by dsimp only;rw[aY (by omega) (by omega)];omega)
   rw[etk,oQ f' h1]
   exact y6 f' (by omega)
 .obtain rfl:i=(kids ns met).length:=by omega
  refine T.out ⟨M,rfl,λ_=>⟨hM,λf hf=>?_⟩,λh=>(by cases h)⟩
  obtain⟨f',h1,h2⟩:=unf f hf
  rw[h2]
  have:=oQ f' h1
  rwa [dV]at this
def eP(n:Nat)(ord:List Nat):List Int:=(List.range n).map λr=>if r∈ord then(ord.idxOf r:Int) else -1
def mW(ns:List DS1)(ord:List Nat):List DS1:=ord.map λi=>ns.getD i zN
theorem iw(n:Nat)(ord:List Nat):(eP n ord).length=n:=by simp[eP]
theorem wP(ns:List DS1)(ord:List Nat):(mW ns ord).length=ord.length:=by simp[mW]
theorem Ad(ns:List DS1)(ord:List Nat)(r:Nat):mW ns (ord++[r])=mW ns ord++[ns.getD r zN]:=by simp[mW]
theorem oN{n:Nat}{ord:List Nat}{r:Nat}(h:r<n):(eP n ord).getD r 0=if r∈ord then(ord.idxOf r:Int) else -1:=by
 rw[getD_eq _ _ _ (by rw[iw];exact h)];simp[eP]
theorem xw{n:Nat}{ord:List Nat}{r:Nat}(hr:r<n)(hm:r∉ord):(eP n ord).set r (ord.length:Int)=eP n (ord++[r]):=by
 apply gB (by simp[eP])
 intro j h1 h2
 have hj:j<n:=by rw[iw]at h2;exact h2
 by_cases e:r=j
 .subst e
  rw[List.getElem_set_self]
  simp[eP,ug,hm]
 .rw[List.getElem_set_ne e]
  simp only[eP,jY,tC,aV,bG]
  by_cases q:j∈ord
  .rw[if_pos q,if_pos (.inl q),ug,if_pos q]
  .rw[if_neg q,if_neg (by rintro(q'|q');exact q q';exact e q'.symm)]
theorem C9(n:Nat):eP n []=List.replicate n (-1):=by
 apply gB (by simp[eP])
 intro j h1 h2
 simp[eP]
section
variable{ns:List DS1}{rk:Nat->Nat}
theorem AL(hR:rA ns rk):∀(m f f':Nat) (c:Int) (ord:List Nat),rkI rk c<=m->m<=f->m<=f'->c<(ns.length:Int)->cK ns f ord c=cK ns f' ord c:=by
 intro m
 induction m with
 |zero =>
  intro f f' c ord h _ _ _
  have:c<0:=by unfold rkI at h;split at h;assumption;omega
  rw[lS f ord this,lS f' ord this]
 |succ m ih =>
  intro f f' c ord h h1 h2 hc
  rcases eZ c 0 with q|q
  .rw[lS f ord q,lS f' ord q]
  by_cases hm:c.toNat∈ord
  .rw[rW f ord hm,rW f' ord hm]
  have hk:=(hR c.toNat (by omega)).2
  unfold rkI at h
  rw[if_neg (by omega)]at h
  obtain⟨g,rfl⟩:∃g,f=g+1:=⟨f-1,by omega⟩
  obtain⟨g',rfl⟩:∃g',f'=g'+1:=⟨f'-1,by omega⟩
  simp only[cK]
  have hq:¬(c<0\/c.toNat∈ord):=by rintro(r|r);omega;exact hm r
  rw[if_neg hq,if_neg hq]
  have key:∀(cs:List Int),(∀x∈cs,x∈kids ns c.toNat)->∀o,cs.foldl (cK ns g) o=cs.foldl (cK ns g') o:=by
   intro cs
   induction cs with
   |nil=>intro _ o;rfl
   |cons x cs ih2 =>
    intro hx o
    obtain⟨k1,k2⟩:=hk x (hx x (by simp))
    rw[d9,d9,ih g g' x o (by unfold rkI;split;omega;rename_i q;have:=k2 (by omega);omega) (by omega) (by omega) k1]
    exact ih2 (λy hy=>hx y (by simp[hy])) _
  exact key _ (λ_ q=>q) _
theorem xA(hR:rA ns rk){F:Nat}(hF:∀r,r<ns.length->rk r+1<=F){r:Int}{ord:List Nat}(h0:0<=r)(hr:r<(ns.length:Int))(hm:r.toNat∉ord):cK ns F ord r=(kids ns r.toNat).foldl (cK ns F) (ord++[r.toNat]):=by
 have hf:=hF r.toNat (by omega)
 obtain⟨f',rfl,h2,e⟩:=Dm (ns:=ns) (rk:=rk) (f:=F) h0 hm (by unfold rkI;rw[if_neg (by omega)];exact hf)
 rw[e]
 have hk:=(hR r.toNat (by omega)).2
 have key:∀(cs:List Int),(∀x∈cs,x∈kids ns r.toNat)->∀o,cs.foldl (cK ns f') o=cs.foldl (cK ns (f'+1)) o:=by
  intro cs
  induction cs with
  |nil=>intro _ o;rfl
  |cons x cs ih2 =>
   intro hx o
   obtain⟨k1,k2⟩:=hk x (hx x (by simp))
   rw[d9,d9,AL hR f' f' (f'+1) x o (by unfold rkI;split;omega;rename_i q;have:=k2 (by omega);omega) (by omega) (by omega) k1]
   exact ih2 (λy hy=>hx y (by simp[hy])) _
 exact key _ (λ_ q=>q) _
end
theorem SX(x:Int×(List DS1)×(List DS1)×(List Int)×Unit):Mo λs=>Bp s x.1 x.2.1 x.2.2.1 x.2.2.2.1:=by
 unfold Bp;(repeat' (first|exact Mo.const _|exact Mo.self _|apply Mo.bind|apply Mo.cond|apply Mo.map|apply Mo.join|apply Mo.loop|(intro _)))
theorem a3B {ns:List DS1} {rk:Nat->Nat} (hR:rA ns rk) (hn:ns.length<=1000000) {F:Nat} (hF:∀ r,r < ns.length->rk r + 1<=F) (r:Int) (ord:List Nat) (hr:r < (ns.length:Int)) (ho:jQ ns.length ord) :
  T (JJ r ns (mW ns ord) (eP ns.length ord)) (λy=>y=(ns,mW ns (cK ns F ord r),eP ns.length (cK ns F ord r),())):=by
 unfold JJ
 refine Cu (ι:=Int×List Nat) SX (λg=>(g.1,ns,mW ns g.2,eP ns.length g.2,())) (λg=>g.1<(ns.length:Int)/\jQ ns.length g.2)
  (λg y=>y=(ns,mW ns (cK ns F g.2 g.1),eP ns.length (cK ns F g.2 g.1),())) (λg=>rkI rk g.1) ?_ (r,ord) ⟨hr,ho⟩
 rintro⟨r,ord⟩ ⟨hr,ho⟩ s ih
 dsimp only at hr ho ih ⊢
 unfold Bp
 have hN:=aR ns
 have hP:=aR (eP ns.length ord)
 have hPl:=iw ns.length ord
 have hO:=ho.len
 rcases eZ r 0 with h0|h0
 .refine T.grd (by rw[eY,dO,iM,bD];exact .inr h0) (T.grd (by rw[eY,dO,iM,bD];exact .inr h0) (T.ct (by rw[fB,bD];exact .inl h0) (T.ret ?_)))
  rw[lS F ord h0]
 have hrt:r.toNat<ns.length:=by omega
 refine T.grd (by rw[eY,bf];left;omega) (T.grd (by rw[eY,dU];left;omega) (T.cnd (λhc=>?_) (λhc=>?_)))
 .rw[fB,bD,fU,oN hrt]at hc
  have hin:r.toNat∈ord:=by
   rcases hc with q|q
   .omega
   .split at q
    .assumption
    .omega
  refine T.ret ?_
  rw[rW F ord hin]
 rw[fF,bq,gq,oN hrt]at hc
 have hni:r.toNat∉ord:=λq=>by
  rw[if_pos q]at hc
  omega
 obtain⟨hkl,hk⟩:=hR r.toNat hrt
 have hun:=xA hR hF h0 hr hni
 have hso:=ho.snoc hrt hni
 have hOl:=wP ns ord
 have hlO:=aR (mW ns ord)
 have hrI:bnd r (ay ns)=true:=by rw[bf];omega
 refine T.grd (by rw[bf];omega) (T.grd (by rw[dU];omega) (T.grd hrI (T.grd (by rw[dN,aF];omega) ?_)))
 have eN:atI ns r (0,[],[],())=ns.getD r.toNat zN:=rfl
 have eK:(ns.getD r.toNat zN).2.2.1=kids ns r.toNat:=rfl
 have e1:List.set (eP ns.length ord) r.toNat (ay (mW ns ord))=eP ns.length (ord++[r.toNat]):=by rw[hlO,hOl,xw hrt hni]
 rw[eN,<- Ad,e1]
 have hK:=aR (kids ns r.toNat)
 refine T.loop (λq=>∃(i:Nat) (o:List Nat),i<=(kids ns r.toNat).length/\jQ ns.length o/\((kids ns r.toNat).take i).foldl (cK ns F) (ord++[r.toNat])=o/\q=(r,(i:Int),ns,mW ns o,eP ns.length o,())) (λq=>(kids ns r.toNat).length-q.2.1.toNat) ⟨0,_,by omega,hso,rfl,rfl⟩ ?_
 rintro _ ⟨i,o,hi,hoo,oQ,rfl⟩
 dsimp only
 rw[eN,eK,hK,dF]
 refine T.grd hrI (T.cnd (λhc3=>?_) (λhc3=>?_))<;>simp only[bD,bq]at hc3
 .have hil:i<(kids ns r.toNat).length:=by omega
  have ec:=getD_eq (kids ns r.toNat) i 0 hil
  rw[ec]
  obtain⟨k1,k2⟩:=hk _ (aJ hil)
  have hlt2:rkI rk (kids ns r.toNat)[i]<rkI rk r:=by
   unfold rkI
   rw[if_neg (show ¬r<0 by omega)]
   split
   .omega
   .rename_i q;have:=k2 (by omega);omega
  refine T.grd hrI (T.grd (by rw[bf];omega) (T.call (ih ((kids ns r.toNat)[i],o) ⟨k1,hoo⟩ hlt2) ?_))
  rintro _ rfl
  dsimp only
  refine T.grd (by rw[iB];exact⟨by rw[iw,iw];exact iX _,rfl⟩) (T.go ⟨i+1,_,by omega,(pq hR F _ o k1 hoo).1,?_,by rw[aY (by omega) (by omega)];rfl⟩ (by dsimp only;rw[aY (by omega) (by omega)];omega))
  rw[bU hil,jr,oQ];rfl
 .obtain rfl:i=(kids ns r.toNat).length:=by omega
  refine T.out ?_
  rw[dV]at oQ
  rw[hun,oQ]
theorem a3A {ns:List DS1} {rk:Nat->Nat} (hR:rA ns rk) (hn:ns.length<=1000000) {F:Nat} (hF:∀ r,r < ns.length->rk r + 1<=F) (r:Int) (hr:r < (ns.length:Int)) :
  T (Gc r ns (eP ns.length [])) (λy=>y=(ns,eP ns.length (cK ns F [] r),mW ns (cK ns F [] r),())):=by
 have ho:jQ ns.length []:=⟨kC,λx hx=>by cases hx⟩
 unfold Gc
 have hN:=aR ns
 have hP:=aR (eP ns.length [])
 have hPl:=iw ns.length []
 rcases eZ r 0 with h0|h0
 .refine T.grd (by rw[eY,dO,iM,bD];exact .inr h0) (T.grd (by rw[eY,dO,iM,bD];exact .inr h0) (T.ct (by rw[fB,bD];exact .inl h0) (T.ret ?_)))
  rw[lS F [] h0];rfl
 have hrt:r.toNat<ns.length:=by omega
 refine T.grd (by rw[eY,bf];left;omega) (T.grd (by rw[eY,dU];left;omega) (T.cf ?_ ?_))
 .rw[fF,bq,gq,oN hrt]
  exact⟨h0,by simp⟩
 have hni:r.toNat∉([]:List Nat):=λq=>by cases q
 obtain⟨hkl,hk⟩:=hR r.toNat hrt
 have hun:=xA hR hF h0 hr hni
 have hso:=ho.snoc hrt hni
 have hrI:bnd r (ay ns)=true:=by rw[bf];omega
 refine T.grd (by rw[bf];omega) (T.grd (by rw[dU];omega) (T.grd hrI (T.grd (by rw[dN,aF];omega) ?_)))
 have eN:atI ns r (0,[],[],())=ns.getD r.toNat zN:=rfl
 have eK:(ns.getD r.toNat zN).2.2.1=kids ns r.toNat:=rfl
 have e1:List.set (eP ns.length []) r.toNat 0=eP ns.length ([]++[r.toNat]):=by rw[<- xw hrt hni];rfl
 have e2:([ns.getD r.toNat zN]:List DS1)=mW ns ([]++[r.toNat]):=by rw[Ad];rfl
 rw[eN,e2,e1]
 have hK:=aR (kids ns r.toNat)
 refine T.loop (λq=>∃(i:Nat) (o:List Nat),i<=(kids ns r.toNat).length/\jQ ns.length o/\((kids ns r.toNat).take i).foldl (cK ns F) ([]++[r.toNat])=o/\q=(r,(i:Int),ns,eP ns.length o,mW ns o,())) (λq=>(kids ns r.toNat).length-q.2.1.toNat) ⟨0,_,by omega,hso,rfl,rfl⟩ ?_
 rintro _ ⟨i,o,hi,hoo,oQ,rfl⟩
 dsimp only
 rw[eN,eK,hK,dF]
 refine T.grd hrI (T.cnd (λhc3=>?_) (λhc3=>?_))<;>simp only[bD,bq]at hc3
 .have hil:i<(kids ns r.toNat).length:=by omega
  have ec:=getD_eq (kids ns r.toNat) i 0 hil
  rw[ec]
  obtain⟨k1,k2⟩:=hk _ (aJ hil)
  refine T.grd hrI (T.grd (by rw[bf];omega) (T.call (a3B hR hn hF (kids ns r.toNat)[i] o k1 hoo) ?_))
  rintro _ rfl
  dsimp only
  refine T.grd (by rw[iB];exact⟨by rw[iw,iw];exact iX _,rfl⟩) (T.go ⟨i+1,_,by omega,(pq hR F _ o k1 hoo).1,?_,by rw[aY (by omega) (by omega)];rfl⟩ (by dsimp only;rw[aY (by omega) (by omega)];omega))
  rw[bU hil,jr,oQ];rfl
 .obtain rfl:i=(kids ns r.toNat).length:=by omega
  refine T.out ?_
  rw[dV]at oQ
  rw[hun,oQ]
def vDg(l:List UInt8):Nat:=l.foldl (λa c=>a*10+(c.toNat-48)) 0
theorem V9(l:List UInt8)(c:UInt8):vDg (l++[c])=vDg l*10+(c.toNat-48):=by unfold vDg;rw[jr];rfl
theorem dg8{k:Nat}(h:k<10):(UInt8.ofNat (48+k)).toNat=48+k:=by rw[UInt8.toNat_ofNat'];omega
theorem DZ(u:Nat):vDg (Lib.decDigits u)=u:=by
 induction u using Nat.strongRecOn with
 |_ u ih =>
  rw[Lib.decDigits]
  split
  .rename_i h
   show 0*10+((UInt8.ofNat (48+u)).toNat-48)=u
   rw[dg8 h];omega
  .rename_i h
   rw[V9,ih (u/10) (by omega),dg8 (by omega)];omega
theorem Fz(u:Nat):∀b∈Lib.decDigits u,48<=b.toNat/\b.toNat<=57:=by
 induction u using Nat.strongRecOn with
 |_ u ih =>
  rw[Lib.decDigits]
  split
  .rename_i h
   intro b hb
   obtain rfl:=bG.1 hb
   rw[dg8 h];omega
  .rename_i h
   intro b hb
   rcases aV.1 hb with q|q
   .exact ih (u/10) (by omega) b q
   .obtain rfl:=bG.1 q
    rw[dg8 (by omega)];omega
theorem Ag(n:Int):∀b∈Lib.itoa n,b≠44/\b≠59:=by
 have key:∀b:UInt8,(48<=b.toNat/\b.toNat<=57)->b≠44/\b≠59:=λb h=>⟨λe=>by subst e;simp at h,λe=>by subst e;simp at h⟩
 intro b hb
 unfold Lib.itoa at hb
 split at hb
 .rcases bT.1 hb with rfl|q
  .decide
  .exact key b (Fz _ b q)
 .exact key b (Fz _ b hb)
theorem LZ{a b:Int}(h:Lib.itoa a=Lib.itoa b):a=b:=by
 have ne:∀u,Lib.decDigits u≠[]:=λu e=>by
  have:(Lib.decDigits u).length=0:=by rw[e];rfl
  rw[Lib.decDigits]at this
  split at this<;>simp at this
 have hd:∀(u:Nat) (t:List UInt8),Lib.decDigits u≠45::t:=λu t e=>by
  have:=(Fz u 45 (by rw[e];simp)).1
  simp at this
 unfold Lib.itoa at h
 split at h<;>split at h
 .have h2:=(lQ h).2
  have:=jW vDg h2
  rw[DZ,DZ]at this
  omega
 .exact absurd h.symm (hd _ _)
 .exact absurd h (hd _ _)
 .have:=jW vDg h
  rw[DZ,DZ]at this
  omega
def Sep(y:List UInt8):Prop:=y=[]\/∃t,y=44::t\/y=59::t
theorem IC:∀(x x' y y':List UInt8),(∀b∈x,b≠44/\b≠59)->(∀b∈x',b≠44/\b≠59)->Sep y->Sep y'->x++y=x'++y'->x=x'/\y=y':=by
 intro x
 induction x with
 |nil =>
  intro x' y y' _ h' hy hy' e
  cases x' with
  |nil=>exact⟨rfl,e⟩
  |cons b x' =>
   obtain⟨h1,h2⟩:=h' b (by simp)
   have e:y=b::(x'++y'):=e
   rcases hy with rfl|⟨t,rfl|rfl⟩
   .cases e
   .exact absurd (lQ e).1.symm h1
   .exact absurd (lQ e).1.symm h2
 |cons a x ih =>
  intro x' y y' h h' hy hy' e
  cases x' with
  |nil =>
   obtain⟨h1,h2⟩:=h a (by simp)
   have e:a::(x++y)=y':=e
   rcases hy' with rfl|⟨t,rfl|rfl⟩
   .cases e
   .exact absurd (lQ e).1 h1
   .exact absurd (lQ e).1 h2
  |cons b x' =>
   have e:a::(x++y)=b::(x'++y'):=e
   obtain⟨e1,e2⟩:=lQ e
   obtain⟨r1,r2⟩:=ih x' y y' (λc hc=>h c (by simp[hc])) (λc hc=>h' c (by simp[hc])) hy hy' e2
   exact⟨by rw[e1,r1],r2⟩
def pL(cs:List Int):List UInt8:=cs.flatMap λc=>44::Lib.itoa c
theorem Eb(c:Int)(cs:List Int):pL (c::cs)=44::(Lib.itoa c++pL cs):=by simp[pL]
def Rw(t:List UInt8):Prop:=t=[]\/∃u,t=59::u
theorem G7(cs:List Int){t:List UInt8}(h:Rw t):Sep (pL cs++t):=by
 cases cs with
 |nil=>rcases h with rfl|⟨u,rfl⟩;exact .inl rfl;exact .inr ⟨u,.inr rfl⟩
 |cons c cs=>rw[Eb];exact .inr ⟨_,.inl rfl⟩
theorem Sr:∀(cs cs':List Int) (t t':List UInt8),Rw t->Rw t'->pL cs++t=pL cs'++t'->cs=cs'/\t=t':=by
 have bad:∀{c:Int} {cs:List Int} {t t':List UInt8},Rw t'->pL (c::cs)++t=t'->False:=by
  intro c cs t t' h e
  rw[Eb]at e
  rcases h with rfl|⟨u,rfl⟩
  .cases e
  .have:=(lQ e).1;revert this;decide
 intro cs
 induction cs with
 |nil =>
  intro cs' t t' h h' e
  cases cs' with
  |nil=>exact⟨rfl,e⟩
  |cons c cs'=>exact(bad h e.symm).elim
 |cons c cs ih =>
  intro cs' t t' h h' e
  cases cs' with
  |nil=>exact(bad h' e).elim
  |cons c' cs' =>
   rw[Eb,Eb]at e
   have e:(Lib.itoa c++pL cs)++t=(Lib.itoa c'++pL cs')++t':=(lQ e).2
   rw[aX,aX]at e
   obtain⟨e1,e2⟩:=IC _ _ _ _ (Ag c) (Ag c') (G7 cs h) (G7 cs' h') e
   obtain⟨r1,r2⟩:=ih cs' t t' h h' e2
   exact⟨by rw[LZ e1,r1],r2⟩
theorem Oi(a:Int)(cs ns:List Int):wS a cs ns=Lib.itoa a++(pL cs++59::(pL ns++[])):=by unfold wS pL;rw[bL,aX]
theorem Wv{a a':Int}{cs cs' ns ns':List Int}(h:wS a cs ns=wS a' cs' ns'):a=a'/\cs=cs'/\ns=ns':=by
 rw[Oi,Oi]at h
 obtain⟨e1,e2⟩:=IC _ _ _ _ (Ag a) (Ag a') (G7 cs (.inr ⟨_,rfl⟩)) (G7 cs' (.inr ⟨_,rfl⟩)) h
 obtain⟨e3,e4⟩:=Sr _ _ _ _ (.inr ⟨_,rfl⟩) (.inr ⟨_,rfl⟩) e2
 obtain⟨e5,_⟩:=Sr _ _ _ _ (.inl rfl) (.inl rfl) (lQ e4).2
 exact⟨LZ e1,e3,e5⟩
def uS(x:DS1):ByteArray:=⟨(wS x.1 x.2.1 x.2.2.1).toArray⟩
theorem Fp{x y:DS1}(h:uS x=uS y):x=y:=by
 obtain⟨a,cs,ns,⟨⟩⟩:=x
 obtain⟨a',cs',ns',⟨⟩⟩:=y
 have h1:=ByteArray.mk.inj h
 have h2:(wS a cs ns).toArray.toList=(wS a' cs' ns').toArray.toList:=jW Array.toList h1
 have h2:wS a cs ns=wS a' cs' ns':=h2
 obtain⟨rfl,rfl,rfl⟩:=Wv h2
 rfl
def VD(dm:List DS3)(ns:List DS1)(root:Int):Prop :=
 ns.length<=1000/\jm ns.length root/\(∀i,i<ns.length->mX dm ns (ns.getD i zN))/\(∀i,i<ns.length->∀k,k<i->ns.getD k zN≠ns.getD i zN)/\cK ns 8 [] root=List.range ns.length
def SzN(ns:List DS1):Prop:=ns.length<=9223372036854775807/\∀x∈ns,x.2.1.length<=9223372036854775807/\x.2.2.1.length<=9223372036854775807
theorem SzN.at{ns:List DS1}(h:SzN ns){i:Nat}(hi:i<ns.length):(ns.getD i zN).2.1.length<=9223372036854775807/\(ns.getD i zN).2.2.1.length<=9223372036854775807:=by
 rw[getD_eq _ _ _ hi];exact h.2 _ (aJ hi)
theorem Yg{dm:List DS3}{ns:List DS1}{x:DS1}(hd:gX dm)(hn:ns.length<=1000)(h:mX dm ns x):Fe x.1 x.2.1 x.2.2.1=some (uS x,()):=by
 obtain⟨l1,l2⟩:=h.len hd
 obtain⟨h1,h2,h3,h4,h5,h6⟩:=h
 have d2:=hd.2.1
 have hb:=hd.at (i:=x.1.toNat) (by omega)
 unfold Fe
 rw[if_pos]
 .rfl
 .refine⟨?_,?_,?_,by omega⟩
  .unfold AU;rw[dH];omega
  .refine aU.2 λc hc=>?_
   obtain⟨k,hk,rfl⟩:=fD hc
   have:=h5 k hk
   rw[getD_eq _ _ _ hk]at this
   unfold AU;rw[dH];omega
  .refine aU.2 λc hc=>?_
   obtain⟨k,hk,rfl⟩:=fD hc
   have:=(h6 k hk).1
   rw[getD_eq _ _ _ hk]at this
   unfold jm at this
   unfold AU;rw[dH];omega
def rkA(ns:List DS1)(r:Nat):Nat:=(6-(ns.getD r zN).1).toNat
theorem lY{dm:List DS3}{ns:List DS1}(hd:gX dm)(h:∀i,i<ns.length->mX dm ns (ns.getD i zN)):rA ns (rkA ns)/\∀r,r<ns.length->rkA ns r+1<=8:=by
 have d2:=hd.2.1
 refine⟨λr hr=>⟨((h r hr).len hd).2,λc hc=>?_⟩,λr hr=>?_⟩
 .obtain⟨k,hk,rfl⟩:=fD hc
  have h6:=(h r hr).2.2.2.2.2 k hk
  have e:(ns.getD r zN).2.2.1.getD k 0=(kids ns r)[k]:=getD_eq (kids ns r) k 0 hk
  rw[e]at h6
  refine⟨h6.1.2,λh0=>?_⟩
  have hc':(kids ns r)[k].toNat<ns.length:=by have:=h6.1.2;omega
  have h7:=h6.2.2 h0
  have h8:=(h _ hc').2.1
  unfold rkA
  omega
 .have:=(h r hr).1
  unfold rkA;omega
theorem Ti(g:Nat->ByteArray)(k:ByteArray):∀(L:List Nat),(nA sEq k (L.map λx=>(g x,true,()))=some true/\∃x∈L,k=g x)\/(nA sEq k (L.map λx=>(g x,true,()))=none/\∀x∈L,k≠g x):=by
 intro L
 induction L with
 |nil=>exact .inr ⟨rfl,λx hx=>by cases hx⟩
 |cons x L ih =>
  simp only[dn,nA]
  cases q:sEq k (g x) with
  |true=>exact .inl ⟨rfl,x,by simp,by rwa [FZ]at q⟩
  |false =>
   rw[G5]at q
   rcases ih with⟨h1,y,h2,h3⟩|⟨h1,h2⟩
   .exact .inl ⟨h1,y,by simp[h2],h3⟩
   .exact .inr ⟨h1,λy hy=>by rcases bT.1 hy with rfl|hy;exact q;exact h2 y hy⟩
theorem LA{α β:Type}{eq:α->α->Bool}(k:α)(v:β):∀(es:List (α×β×Unit)),(∀e∈es,eq k e.1=false)->pV eq k v es=es++[(k,v,())]:=by
 intro es
 induction es with
 |nil=>intro _;rfl
 |cons e es ih=>intro h;simp only[pV];rw[h e (by simp),ih (λx hx=>h x (by simp[hx]))];rfl
theorem Gw(l:List DS0)(ns:List DS1)(root:Int)(hz:SzN ns):T (m31 (l,()) (ns,root,())) (λy=>y.1=true↔jH l=0/\VD (doms l) ns root):=by
 unfold m31
 refine T.dh (Jw _) ?_
 dsimp only
 have hN:=aR ns
 rw[hN]
 refine T.cnd (λhc=>?_) (λhc=>?_)<;>simp only[fB,fF,fZ,gT,bD,bq]at hc
 .refine T.ret ⟨λh=>(by cases h),λh=>?_⟩
  have h1:=h.1
  have h2:=h.2.1
  omega
 obtain⟨hv,hn⟩:=hc
 have hd:=ql hv
 refine T.dh (XB _ _) ?_
 dsimp only
 refine T.cnd (λhc=>?_) (λhc=>?_)<;>simp only[dO,gQ,dH,fJ]at hc
 .exact T.ret ⟨λh=>(by cases h),λh=>absurd h.2.2.1 hc⟩
 refine T.dh (ME l hv) ?_
 dsimp only
 generalize doms l=dm at hd ⊢
 refine T.loop (λq=>∃i:Nat,i<=ns.length/\(∀k,k<i->mX dm ns (ns.getD k zN))/\(∀k,k<i->∀j,j<k->ns.getD j zN≠ns.getD k zN)/\q=(dm,ns,(ns.length:Int),(i:Int),ns,root,(List.range i).map (λk=>(uS (ns.getD k zN),true,())),())) (λq=>ns.length-q.2.2.2.1.toNat) ⟨0,by omega,λk hk=>by omega,λk hk=>by omega,rfl⟩ ?_
 rintro _ ⟨i,hi,hs,hne,rfl⟩
 dsimp only
 have eN:atI ns (i:Int) (0,[],[],())=ns.getD i zN:=by rw[dF];rfl
 rw[eN,hN]
 refine T.cnd (λhc2=>?_) (λhc2=>?_)<;>simp only[bD,bq]at hc2
 .have hlt:i<ns.length:=by omega
  obtain⟨z1,z2⟩:=hz.at hlt
  refine T.grd (by rw[bf];omega) (T.call (a0d hd ns root (ns.getD i zN) z1 z2 hz.1) ?_)
  rintro⟨y,⟨⟩⟩ hy
  dsimp only at hy ⊢
  refine T.cnd (λhc3=>?_) (λhc3=>?_)<;>simp only[dO,gQ]at hc3
  .refine T.out ⟨λh=>(by cases h),λh=>?_⟩
   rw[hy.2 (h.2.2.2.1 i hlt)]at hc3
   cases hc3
  have hsi:=hy.1 hc3
  refine T.dh (Yg hd (by omega) hsi) ?_
  dsimp only
  unfold oO
  rcases Ti (λk=>uS (ns.getD k zN)) (uS (ns.getD i zN)) (List.range i) with⟨h1,x,h2,h3⟩|⟨h1,h2⟩
  .rw[h1]
   refine T.ct rfl (T.out ⟨λh=>(by cases h),λh=>?_⟩)
   exact absurd (Fp h3).symm (h.2.2.2.2.1 i hlt x (bO.1 h2))
  .rw[h1]
   refine T.cf rfl (T.go ⟨i+1,by omega,λk hk=>?_,λk hk j hj=>?_,?_⟩ (by dsimp only;rw[aY (by omega) (by omega)];omega))
   .rcases aM k i with r|r
    .exact hs k r
    .obtain rfl:k=i:=by omega
     exact hsi
   .rcases aM k i with r|r
    .exact hne k r j hj
    .obtain rfl:k=i:=by omega
     intro e
     exact h2 j (bO.2 hj) (jW uS e.symm)
   .rw[aY (by omega) (by omega),LA _ _ _ (λe he=>?_),qA,dP]
    .rfl
    .obtain⟨k,hk,rfl⟩:=dW.1 he
     rw[G5];exact h2 k hk
 .obtain rfl:i=ns.length:=by omega
  refine T.lT ?_
  obtain⟨hR,hF⟩:=lY hd hs
  refine T.call (a5B hR (by omega) root root 0 hc.2 (by omega)) ?_
  rintro⟨y1,y2,⟨⟩⟩ ⟨M,e1,h1,h2⟩
  dsimp only at e1 h1 h2 ⊢
  subst e1
  have hf8:rkI (rkA ns) root<=8:=by
   unfold rkI
   split
   .omega
   .exact hF _ (by have:=hc.2;omega)
  refine T.ret ?_
  dsimp only
  rw[dM,dD]
  refine⟨fun⟨q1,q2⟩=>⟨hv,by omega,hc,hs,hne,?_⟩,λh=>?_⟩
  .have:=(h1 q1).2 8 hf8
   rw[show List.range 0=([]:List Nat) from rfl]at this
   rw[this,show M=ns.length by omega]
  .have h5:=h.2.2.2.2.2
   cases q:y2 with
   |false =>
    have:=h2 q 8 hf8
    rw[show List.range 0=([]:List Nat) from rfl,h5]at this
    exact this.ne.elim
   |true =>
    have:=(h1 q).2 8 hf8
    rw[show List.range 0=([]:List Nat) from rfl,h5]at this
    have:=jW List.length this
    rw[oK,oK]at this
    exact⟨rfl,by omega⟩
theorem Sq{n:Nat}{ord:List Nat}(h:jQ n ord):(∀i,i<n->(eP n ord).getD i 0=(i:Int))↔ord=List.range n:=by
 constructor
 .intro hp
  have key:∀i,i<n->i∈ord/\ord.idxOf i=i:=λi hi=>by
   have:=hp i hi
   rw[oN hi]at this
   split at this
   .rename_i q;exact⟨q,by omega⟩
   .omega
  have hl:ord.length=n:=by
   have h1:=h.len
   rcases eO n with q|q
   .omega
   .obtain⟨k1,k2⟩:=key (n-1) (by omega)
    have:=iP k1
    omega
  apply gB (by rw[hl,oK])
  intro j h1 h2
  rw[tC]
  obtain⟨k1,k2⟩:=key j (by omega)
  have:=og (iP k1)
  simp only[k2]at this
  exact this
 .rintro rfl i hi
  rw[oN hi,if_pos (bO.2 hi)]
  have hl:=iP (bO.2 hi:i∈List.range n)
  have:=og hl
  rw[tC]at this
  omega
theorem TU(l:List DS0)(ns:List DS1)(root:Int)(hz:SzN ns):T (m30 (l,()) (ns,root,())) (λy=>y.1=true↔jH l=0/\VD (doms l) ns root):=by
 unfold m30
 refine T.dh (Xw _) ?_
 dsimp only
 have hN:=aR ns
 rw[hN]
 refine T.cnd (λhc=>?_) (λhc=>?_)<;>simp only[fB,fF,fZ,gT,bD,bq]at hc
 .refine T.ret ⟨λh=>(by cases h),λh=>?_⟩
  have h1:=h.1
  have h2:=h.2.1
  omega
 obtain⟨hv,hn⟩:=hc
 have hd:=ql hv
 refine T.dh (XA _ _) ?_
 dsimp only
 refine T.cnd (λhc=>?_) (λhc=>?_)<;>simp only[dO,gQ,dH,fJ]at hc
 .exact T.ret ⟨λh=>(by cases h),λh=>absurd h.2.2.1 hc⟩
 refine T.loop (λq=>∃i:Nat,i<=ns.length/\(∀k,k<i->mX (doms l) ns (ns.getD k zN))/\(∀k,k<i->∀j,j<k->ns.getD j zN≠ns.getD k zN)/\q=((i:Int),l,ns,root,())) (λq=>ns.length-q.1.toNat) ⟨0,by omega,λk hk=>by omega,λk hk=>by omega,rfl⟩ ?_
 rintro _ ⟨i,hi,hs,hne,rfl⟩
 dsimp only
 have eN:∀i:Nat,atI ns (i:Int) (0,[],[],())=ns.getD i zN:=λi=>by rw[dF];rfl
 rw[eN,hN]
 refine T.cnd (λhc2=>?_) (λhc2=>?_)<;>simp only[bD,bq]at hc2
 .have hlt:i<ns.length:=by omega
  obtain⟨z1,z2⟩:=hz.at hlt
  refine T.grd (by rw[bf];omega) (T.call (a0c hv ns root (ns.getD i zN) z1 z2 hz.1) ?_)
  rintro⟨y,⟨⟩⟩ hy
  dsimp only at hy ⊢
  refine T.cnd (λhc3=>?_) (λhc3=>?_)<;>simp only[dO,gQ]at hc3
  .refine T.out ⟨λh=>(by cases h),λh=>?_⟩
   rw[hy.2 (h.2.2.2.1 i hlt)]at hc3
   cases hc3
  have hsi:=hy.1 hc3
  refine T.loop (λq=>∃k:Nat,k<=i/\(∀j,j<k->ns.getD j zN≠ns.getD i zN)/\q=((i:Int),(k:Int),l,ns,root,(ns.getD i zN).1,(ns.getD i zN).2.1,(ns.getD i zN).2.2.1,())) (λq=>i-q.2.1.toNat) ⟨0,by omega,λj hj=>by omega,rfl⟩ ?_
  rintro _ ⟨k,hk,hnk,rfl⟩
  dsimp only
  rw[eN,hN]
  refine T.cnd (λhc4=>?_) (λhc4=>?_)<;>simp only[bD,bq]at hc4
  .have hkl:k<ns.length:=by omega
   obtain⟨w1,w2⟩:=hz.at hkl
   have next:ns.getD k zN ≠ ns.getD i zN->T (some (Sum.inl (β:=(Int × (List DS0) × (List DS1) × Int × Unit) ⊕ (Bool × Unit)) ((i:Int),bX .i64 (k:Int) 1,l,ns,root,(ns.getD i zN).1,(ns.getD i zN).2.1,(ns.getD i zN).2.2.1,()))) (LQ (fun q=>∃ k:Nat,k<=i/\(∀ j,j < k->ns.getD j zN ≠ ns.getD i zN)/\q=((i:Int),(k:Int),l,ns,root,(ns.getD i zN).1,(ns.getD i zN).2.1,(ns.getD i zN).2.2.1,())) (fun q=>i - q.2.1.toNat) (i - (k:Int).toNat)
     (LQ (λq=>∃i:Nat,i<=ns.length/\(∀k,k<i->mX (doms l) ns (ns.getD k zN))/\(∀k,k<i->∀j,j<k->ns.getD j zN≠ns.getD k zN)/\q=((i:Int),l,ns,root,())) (λq=>ns.length-q.1.toNat) (ns.length-(i:Int).toNat) (λy=>y.1=true↔jH l=0/\VD (doms l) ns root))):=by
    intro hx
    refine T.go ⟨k+1,by omega,λj hj=>?_,by rw[aY (by omega) (by omega)];rfl⟩ (by dsimp only;rw[aY (by omega) (by omega)];omega)
    rcases aM j k with r|r
    .exact hnk j r
    .obtain rfl:j=k:=by omega
     exact hx
   refine T.grd (by rw[bf];omega) (T.cnd (λhc5=>?_) (λhc5=>?_))<;>simp only[dD,dG]at hc5
   .refine T.dh (xG _ _ w1) ?_
    dsimp only
    refine T.cnd (λhc6=>?_) (λhc6=>?_)<;>simp only[dH,fJ]at hc6
    .refine T.dh (xG _ _ w2) ?_
     dsimp only
     refine T.cnd (λhc7=>?_) (λhc7=>?_)<;>simp only[dH,fJ]at hc7
     .refine T.out (show LQ _ _ _ _ (Sum.inr (false,())) from⟨λh=>(by cases h),λh=>?_⟩)
      refine absurd ?_ (h.2.2.2.2.1 i hlt k (by omega))
      exact lV hc5 (lV hc6 (lV hc7 rfl))
     .exact next λe=>hc7 (by rw[e])
    .exact next λe=>hc6 (by rw[e])
   .exact next λe=>hc5 (by rw[e])
  .obtain rfl:k=i:=by omega
   refine T.out (show LQ _ _ _ _ (Sum.inl _) from⟨⟨k+1,by omega,λj hj=>?_,λj hj t ht=>?_,by rw[aY (by omega) (by omega)];rfl⟩,by dsimp only;rw[aY (by omega) (by omega)];omega⟩)
   .rcases aM j k with r|r
    .exact hs j r
    .obtain rfl:j=k:=by omega
     exact hsi
   .rcases aM j k with r|r
    .exact hne j r t ht
    .obtain rfl:j=k:=by omega
     exact hnk t ht
 .obtain rfl:i=ns.length:=by omega
  refine T.lT ?_
  obtain⟨hR,hF⟩:=lY hd hs
  refine T.grd (by rw[gM];omega) ?_
  rw[aZ]
  refine T.loop (λq=>∃(i:Nat) (p:List Int),i<=ns.length/\p.length=ns.length/\(∀j,j<i->p.getD j 0=-1)/\q=((i:Int),ns,root,ns,p,())) (λq=>ns.length-q.1.toNat) ⟨0,_,by omega,by simp,λj hj=>by omega,rfl⟩ ?_
  rintro _ ⟨i,p,hi,hp,hpg,rfl⟩
  dsimp only
  have hpI:=aR p
  refine T.cnd (λhc2=>?_) (λhc2=>?_)<;>simp only[bD,bq]at hc2
  .refine T.grd (by rw[bf];omega) (T.grd (by rw[dU];omega) (T.go ⟨i+1,p.set i (-1),by omega,by rw[bK];exact hp,λj hj=>?_,by rw[aY (by omega) (by omega)];rfl⟩ (by dsimp only;rw[aY (by omega) (by omega)];omega)))
   rw[aQ]
   by_cases e:i=j
   .subst e
    rw[aW (by omega)];rfl
   .rw[aB e,<- aQ]
    exact hpg j (by omega)
  .obtain rfl:i=ns.length:=by omega
   obtain rfl:p=eP ns.length []:=by
    rw[C9]
    apply gB (by simp[hp])
    intro j h1 h2
    have:=hpg j (by omega)
    rw[getD_eq _ _ _ h1]at this
    rw[this];simp
   refine T.lT ?_
   refine T.call (a3A hR (by omega) hF root hc.2) ?_
   rintro _ rfl
   dsimp only
   have ho:=(pq hR 8 root [] hc.2 ⟨kC,λx hx=>by cases hx⟩).1
   generalize ho':cK ns 8 [] root=ord at ho
   have hpl:=iw ns.length ord
   have hpi:=aR (eP ns.length ord)
   refine T.grd (by rw[iB];exact⟨by rw[iw,iw];exact iX _,rfl⟩) ?_
   have fin:(∀i,i<ns.length->(eP ns.length ord).getD i 0=(i:Int))↔(jH l=0/\VD (doms l) ns root):=by
    rw[Sq ho]
    exact⟨λe=>⟨hv,by omega,hc,hs,hne,by rw[ho',e]⟩,λh=>by rw[<- ho'];exact h.2.2.2.2.2⟩
   refine T.loop (λq=>∃i:Nat,i<=ns.length/\(∀j,j<i->(eP ns.length ord).getD j 0=(j:Int))/\q=((i:Int),eP ns.length ord,())) (λq=>ns.length-q.1.toNat) ⟨0,by omega,λj hj=>by omega,rfl⟩ ?_
   rintro _ ⟨i,hi,hg,rfl⟩
   dsimp only
   rw[aZ]
   refine T.cnd (λhc2=>?_) (λhc2=>?_)<;>simp only[bD,bq]at hc2
   .refine T.grd (by rw[bf];omega) (T.grd (by rw[dU];omega) (T.cnd (λhc3=>?_) (λhc3=>?_)))<;>simp only[fZ,gT]at hc3
    .exact T.out ⟨λh=>(by cases h),λh=>absurd (fin.2 h i (by omega)) hc3⟩
    .refine T.go ⟨i+1,by omega,λj hj=>?_,by rw[aY (by omega) (by omega)];rfl⟩ (by dsimp only;rw[aY (by omega) (by omega)];omega)
     rcases aM j i with r|r
     .exact hg j r
     .obtain rfl:j=i:=by omega
      exact hc3
   .obtain rfl:i=ns.length:=by omega
    exact T.out ⟨λ_=>fin.1 hg,λ_=>rfl⟩
theorem a2N(x y:DS2)(hx:SzN x.1):m14 x y=some (decide (x.1=y.1/\x.2.1=y.2.1),()):=by
 obtain⟨a,ra,⟨⟩⟩:=x
 obtain⟨b,rb,⟨⟩⟩:=y
 refine T.eq ?_
 unfold m14
 have hA:=aR a
 have hB:=aR b
 dsimp only at hx ⊢
 refine T.cnd (λhc=>?_) (λhc=>?_)<;>simp only[fB,fF,fZ,gT]at hc
 .refine T.ret ?_
  rw[jh (λe=>?_)]
  obtain⟨rfl,rfl⟩:=e
  exact hc.elim (λq=>q rfl) (λq=>q rfl)
 obtain⟨rfl,hl⟩:=hc
 have hlen:b.length=a.length:=by omega
 refine T.loop (λq=>∃i:Nat,i<=a.length/\(∀j,j<i->a.getD j zN=b.getD j zN)/\q=((i:Int),a,ra,b,ra,())) (λq=>a.length-q.1.toNat) ⟨0,by omega,λj hj=>by omega,rfl⟩ ?_
 rintro _ ⟨i,hi,hg,rfl⟩
 dsimp only
 have hsz:=hx.1
 have eA:atI a (i:Int) (0,[],[],())=a.getD i zN:=by rw[dF];rfl
 have eB:atI b (i:Int) (0,[],[],())=b.getD i zN:=by rw[dF];rfl
 rw[eA,eB,hA,hB]
 refine T.cnd (λhc=>?_) (λhc=>?_)<;>simp only[bD,bq]at hc
 .have hlt:i<a.length:=by omega
  obtain⟨z1,z2⟩:=hx.at hlt
  have bad:a.getD i zN≠b.getD i zN->decide (a=b/\ra=ra)=false:=λh=>jh λe=>h (by rw[e.1])
  have b1:bnd (i:Int) (a.length:Int)=true:=by rw[bf];omega
  have b2:bnd (i:Int) (b.length:Int)=true:=by rw[bf];omega
  refine T.grd b1 (T.grd b2 (T.grd (by rw[eY];exact .inl b1) (T.grd (by rw[eY];exact .inl b2) (T.cnd (λhd=>?_) (λhd=>?_)))))<;>simp only[fZ,gT]at hd
  .refine T.grd (by rw[eY];exact .inl b1) (T.grd (by rw[eY];exact .inl b2) (T.out ?_))
   rw[bad (λe=>hd (by rw[e]))]
  refine T.dh (xG _ _ z1) ?_
  refine T.grd (by rw[eY];exact .inl b1) (T.grd (by rw[eY];exact .inl b2) (T.cnd (λhe=>?_) (λhe=>?_)))<;>simp only[dO,gQ,dH,fJ]at he
  .refine T.out ?_
   rw[bad (λe=>he (by rw[e]))]
  refine T.dh (xG _ _ z2) ?_
  dsimp only
  refine T.cnd (λhf=>?_) (λhf=>?_)<;>simp only[dO,gQ,dH,fJ]at hf
  .refine T.out ?_
   rw[bad (λe=>hf (by rw[e]))]
  refine T.go ⟨i+1,by omega,λj hj=>?_,by rw[aY (by omega) (by omega)];rfl⟩ (by dsimp only;rw[aY (by omega) (by omega)];omega)
  rcases aM j i with r|r
  .exact hg j r
  .obtain rfl:j=i:=by omega
   exact lV hd (lV he (lV hf rfl))
 .refine T.out ?_
  rw[gF]
  refine⟨?_,rfl⟩
  apply gB (by omega)
  intro j h1 h2
  have:=hg j (by omega)
  rwa [getD_eq _ _ _ h1,getD_eq _ _ _ h2]at this
def sat(n:Int):Int:=min n 17592186044416
theorem NK{x w:Int}(hx:0<=x)(hw:0<=w):sat (sat x*w)=sat (x*w):=by
 unfold sat
 rcases Int.le_total x 17592186044416 with h|h
 .rw[Ap h]
 .rw[uZ h]
  rcases eZ 0 w with q|q
  .have h1:17592186044416*1<=17592186044416*w:=Int.mul_le_mul_of_nonneg_left (by omega) (by omega)
   have h2:17592186044416*w<=x*w:=Int.mul_le_mul_of_nonneg_right h hw
   rw[uZ (by omega),uZ (by omega)]
  .obtain rfl:w=0:=by omega
   simp
theorem a0v{x y:Int}(hx:0<=x)(hy:0<=y):sat (sat x+sat y)=sat (x+y):=by unfold sat;omega
theorem FX{x:Int}(hx:0<=x):0<=sat x/\sat x<=17592186044416:=by unfold sat;omega
theorem KG{x:Int}:sat x=0↔x=0:=by unfold sat;omega
theorem NC{a b:Int}(ha:0<=a/\a<=17592186044416)(hb:0<=b/\b<=4611686018427387904):m82 a b=some (sat (a*b),()):=by
 refine T.eq ?_
 unfold m82
 refine T.grd ?_ (T.cnd (λhc=>?_) (λhc=>?_))
 .rw[eY,fZ,dO,fC,bq];omega
 .rw[dM,bD,bD]at hc
  have hq:rM .i64 17592186044416 a=17592186044416/a:=by
   unfold rM
   rw[jy (by omega),wrap64]
   .have:=Int.ediv_nonneg (show(0:Int)<=17592186044416 by omega) ha.1;omega
   .have:=Int.ediv_le_self a (show(0:Int)<=17592186044416 by omega);omega
  rw[hq]at hc
  refine T.ret ?_
  have h1:17592186044416<a*b:=by
   have:=(Int.ediv_lt_iff_lt_mul hc.1).1 hc.2
   rw[zW]at this;exact this
  unfold sat
  rw[uZ (by omega)]
 .rw[dS,bq,bq]at hc
  have h1:a*b<=17592186044416:=by
   rcases eZ 0 a with q|q
   ·have hq:rM .i64 17592186044416 a=17592186044416 / a:=by
     unfold rM
     rw[jy (by omega),wrap64]
     .have:=Int.ediv_nonneg (show(0:Int)<=17592186044416 by omega) ha.1;omega
     .have:=Int.ediv_le_self a (show(0:Int)<=17592186044416 by omega);omega
    rw[hq]at hc
    rcases hc with r|r
    .omega
    .have:=(Int.le_ediv_iff_mul_le q).1 r
     rw[zW]at this;exact this
   .obtain rfl:a=0:=by omega
    simp
  have h0:0<=a*b:=pz ha.1 hb.1
  refine T.ret ?_
  rw[jC (by omega) (by omega)]
  unfold sat
  rw[Ap h1]
def wid(d:DS3):Int:=d.2.1-d.1+1
def yJ(dm:List DS3)(a b:Nat):Int:=((dm.take b).drop a).foldl (λp d=>p*wid d) 1
theorem Mi(l:List DS3):∀p:Int,l.foldl (λp d=>p*wid d) p=p*l.foldl (λp d=>p*wid d) 1:=by
 induction l with
 |nil=>intro p;simp
 |cons d l ih=>intro p;rw[d9,d9,ih,ih (1*wid d),Bb,Int.mul_assoc]
theorem Ko{dm:List DS3}(hd:gX dm){d:DS3}(h:d∈dm):1<=wid d/\wid d<=2000000001:=by
 have:=hd.2.2 d h;unfold wid;omega
theorem IL{dm:List DS3}(hd:gX dm)(a b:Nat):1<=yJ dm a b:=by
 have key:∀l:List DS3,(∀d∈l,d∈dm)->1<=l.foldl (λp d=>p*wid d) 1:=by
  intro l
  induction l with
  |nil=>intro _;simp
  |cons d l ih =>
   intro h
   rw[d9,Mi,Bb]
   have h1:=(Ko hd (h d (by simp))).1
   have h2:=ih (λx hx=>h x (by simp[hx]))
   have:1*1<=wid d*l.foldl (λp d=>p*wid d) 1:=Int.mul_le_mul h1 h2 (by omega) (by omega)
   omega
 exact key _ λd h=>mY (l6 h)
theorem Mg {dm:List DS3} (hd:gX dm) {n:Int} (hn:0<=n) (a b:Nat) (hab:a<=b) (hb:b<=dm.length) (ns:List DS1) (leaf:Int) (me:List DS3) :
  m81 (sat n) (a:Int) (b:Int) ns dm leaf me=some (sat (n*yJ dm a b),ns,dm,leaf,me,()):=by
 refine T.eq ?_
 unfold m81
 refine T.grd (by rw[iJ];omega) ?_
 have eC:uU (a:Int) (b:Int) dm=(dm.take b).drop a:=by unfold uU;rw[aZ,aZ]
 rw[eC]
 generalize hl:(dm.take b).drop a=l
 have hll:l.length<=6:=by
  have:=hd.2.1
  rw[<- hl,cu,bH];omega
 have hmem:∀d∈l,d∈dm:=λd h=>by rw[<- hl]at h;exact mY (l6 h)
 have hL:=aR l
 rw[hL]
 have fin:yJ dm a b=l.foldl (λp d=>p*wid d) 1:=by unfold yJ;rw[hl]
 have pos:∀k,0<=(l.take k).foldl (λp d=>p*wid d) 1:=by
  intro k
  have key:∀l':List DS3,(∀d∈l',d∈dm)->0<=l'.foldl (λp d=>p*wid d) 1:=by
   intro l'
   induction l' with
   |nil=>intro _;simp
   |cons d l' ih =>
    intro h
    rw[d9,Mi,Bb]
    exact pz (by have:=(Ko hd (h d (by simp))).1;omega) (ih (λx hx=>h x (by simp[hx])))
  exact key _ λd h=>hmem d (mY h)
 refine T.loop (λq=>∃k:Nat,k<=l.length/\q=(sat (n*(l.take k).foldl (λp d=>p*wid d) 1),l,(l.length:Int),(k:Int),ns,dm,leaf,me,())) (λq=>l.length-q.2.2.2.1.toNat) ⟨0,by omega,by simp⟩ ?_
 rintro _ ⟨k,hk,rfl⟩
 dsimp only
 rw[hL]
 have eA:atI l (k:Int) (0,0,())=l.getD k zS:=by rw[dF];rfl
 rw[eA]
 refine T.cnd (λhc=>?_) (λhc=>?_)<;>simp only[bD,bq]at hc
 .have hkl:k<l.length:=by omega
  have hw:=Ko hd (hmem _ (aJ hkl))
  have hb3:=hd.2.2 _ (hmem _ (aJ hkl))
  rw[getD_eq _ _ _ hkl]
  refine T.grd (by rw[bf];omega) ?_
  rw[eF (by omega) (by omega),aY (by omega) (by omega)]
  have h0:=pz hn (pos k)
  refine T.dh (NC (FX h0) ⟨by unfold wid at hw;omega,by unfold wid at hw;omega⟩) ?_
  dsimp only
  refine T.go ⟨k+1,by omega,?_⟩ (by dsimp only;rw[aY (by omega) (by omega)];omega)
  rw[aY (by omega) (by omega),bU hkl,jr]
  have:l[k].2.1-l[k].1+1=wid l[k]:=rfl
  rw[this,NK h0 (by omega),Int.mul_assoc]
  rfl
 .obtain rfl:k=l.length:=by omega
  refine T.out ?_
  rw[dV,fin]
def hiK(dm:List DS3)(x:DS1)(k:Nat):Int:=if k<x.2.1.length then x.2.1.getD k 0 else(dm.getD x.1.toNat zS).2.1+1
def loK(dm:List DS3)(x:DS1)(k:Nat):Int:=if k=0 then(dm.getD x.1.toNat zS).1 else hiK dm x (k-1)
def qX(g:Nat->Int):Nat->Int
 |0=>0
 |k+1=>qX g k+g k
def kg(dm:List DS3)(ns:List DS1)(leaf:Int):Nat->Int->Nat->Int
 |0,_,_=>0
 | f + 1,r,a=>if r < 0 then (if -1 - r=leaf then yJ dm a dm.length else 0) else
   qX (λk=>kg dm ns leaf f ((kids ns r.toNat).getD k 0) ((ns.getD r.toNat zN).1.toNat+1)*(hiK dm (ns.getD r.toNat zN) k-loK dm (ns.getD r.toNat zN) k)) (kids ns r.toNat).length*yJ dm a (ns.getD r.toNat zN).1.toNat
def zi(dm:List DS3)(ns:List DS1)(leaf:Int)(f:Nat)(r:Nat):Int :=
 qX (λk=>kg dm ns leaf f ((kids ns r).getD k 0) ((ns.getD r zN).1.toNat+1)*(hiK dm (ns.getD r zN) k-loK dm (ns.getD r zN) k)) (kids ns r).length
theorem xM(dm:List DS3)(ns:List DS1)(leaf:Int)(f:Nat){r:Int}(h:0<=r)(a:Nat):kg dm ns leaf (f+1) r a=zi dm ns leaf f r.toNat*yJ dm a (ns.getD r.toNat zN).1.toNat:=by
 simp only[kg,zi];rw[if_neg (by omega)]
theorem vF(dm:List DS3)(ns:List DS1)(leaf:Int)(f:Nat){r:Int}(h:r<0)(a:Nat):kg dm ns leaf (f+1) r a=if -1-r=leaf then yJ dm a dm.length else 0:=by
 simp only[kg];rw[if_pos h]
theorem PG{g g':Nat->Int}:∀n,(∀k,k<n->g k=g' k)->qX g n=qX g' n:=by
 intro n
 induction n with
 |zero=>intro _;rfl
 |succ n ih=>intro h;simp only[qX];rw[ih (λk hk=>h k (by omega)),h n (by omega)]
theorem NI{g:Nat->Int}:∀n,(∀k,k<n->0<=g k)->0<=qX g n:=by
 intro n
 induction n with
 |zero=>intro _;simp[qX]
 |succ n ih=>intro h;simp only[qX];have:=ih (λk hk=>h k (by omega));have:=h n (by omega);omega
def iC(dm:List DS3)(ns:List DS1):Prop:=∀i,i<ns.length->mX dm ns (ns.getD i zN)
section
variable{dm:List DS3}{ns:List DS1}{leaf:Int}
theorem iC.wid(hs:iC dm ns){r:Nat}(hr:r<ns.length){k:Nat}(hk:k<(kids ns r).length)(hd:gX dm):1<=hiK dm (ns.getD r zN) k-loK dm (ns.getD r zN) k/\-1000000000<=loK dm (ns.getD r zN) k/\hiK dm (ns.getD r zN) k<=1000000001:=by
 obtain⟨h1,h2,h3,h4,h5,h6⟩:=hs r hr
 have hb:=hd.at (i:=(ns.getD r zN).1.toNat) (by omega)
 have hk':k<(ns.getD r zN).2.1.length+1:=by rw[<- h4];exact hk
 have e1:¬k=0->hiK dm (ns.getD r zN) (k-1)=(ns.getD r zN).2.1.getD (k-1) 0:=λq=>by unfold hiK;rw[if_pos (by omega)]
 unfold loK
 split
 .unfold hiK
  split
  .have:=h5 k (by omega);omega
  .omega
 .rename_i q
  rw[e1 q]
  unfold hiK
  split
  .have:=h5 k (by omega);have:=h5 (k-1) (by omega);have:=(h5 k (by omega)).2.2 (by omega);omega
  .have:=h5 (k-1) (by omega);omega
theorem OH(hd:gX dm)(hs:iC dm ns):∀(f:Nat) (r:Int) (a:Nat),r<(ns.length:Int)->0<=kg dm ns leaf f r a:=by
 intro f
 induction f with
 |zero=>intro r a _;simp[kg]
 |succ f ih =>
  intro r a hr
  rcases eZ r 0 with h|h
  .rw[vF _ _ _ _ h]
   split
   .have:=IL hd a dm.length;omega
   .omega
  .rw[xM _ _ _ _ h]
   refine pz ?_ (by have:=IL hd a (ns.getD r.toNat zN).1.toNat;omega)
   refine NI _ λk hk=>pz (ih _ _ ?_) (by have:=hs.wid (show r.toNat<ns.length by omega) hk hd;omega)
   rw[getD_eq _ _ _ hk]
   exact((lY hd hs).1 r.toNat (by omega)).2 _ (aJ hk) |>.1
theorem NA(hd:gX dm)(hs:iC dm ns)(f:Nat){r:Nat}(hr:r<ns.length)(n:Nat)(hn:n<=(kids ns r).length):0<=qX (λk=>kg dm ns leaf f ((kids ns r).getD k 0) ((ns.getD r zN).1.toNat+1)*(hiK dm (ns.getD r zN) k-loK dm (ns.getD r zN) k)) n:=by
 refine NI _ λk hk=>pz (OH hd hs _ _ _ ?_) (by have:=hs.wid hr (show k<(kids ns r).length by omega) hd;omega)
 rw[getD_eq _ _ _ (by omega)]
 exact((lY hd hs).1 r hr).2 _ (aJ (by omega)) |>.1
theorem Nq(hd:gX dm)(hs:iC dm ns):∀(m f f':Nat) (r:Int) (a:Nat),rkI (rkA ns) r<=m->m+1<=f->m+1<=f'->r<(ns.length:Int)->kg dm ns leaf f r a=kg dm ns leaf f' r a:=by
 intro m
 induction m with
 |zero =>
  intro f f' r a h h1 h2 hr
  have hneg:r<0:=by unfold rkI at h;split at h;assumption;omega
  obtain⟨g,rfl⟩:∃g,f=g+1:=⟨f-1,by omega⟩
  obtain⟨g',rfl⟩:∃g',f'=g'+1:=⟨f'-1,by omega⟩
  rw[vF _ _ _ _ hneg,vF _ _ _ _ hneg]
 |succ m ih =>
  intro f f' r a h h1 h2 hr
  obtain⟨g,rfl⟩:∃g,f=g+1:=⟨f-1,by omega⟩
  obtain⟨g',rfl⟩:∃g',f'=g'+1:=⟨f'-1,by omega⟩
  rcases eZ r 0 with q|q
  .rw[vF _ _ _ _ q,vF _ _ _ _ q]
  .rw[xM _ _ _ _ q,xM _ _ _ _ q]
   congr 1
   refine PG _ λk hk=>?_
   have hk2:=((lY hd hs).1 r.toNat (by omega)).2 _ (aJ hk)
   rw[getD_eq _ _ _ hk]
   rw[ih g g' _ _ ?_ (by omega) (by omega) hk2.1]
   unfold rkI at h ⊢
   rw[if_neg (by omega)]at h
   split
   .omega
   .rename_i q2;have:=hk2.2 (by omega);omega
theorem MJ(hd:gX dm)(hs:iC dm ns){r:Nat}(hr:r<ns.length){k:Nat}(hk:k<(kids ns r).length)(a:Nat):kg dm ns leaf 8 ((kids ns r).getD k 0) a=kg dm ns leaf 9 ((kids ns r).getD k 0) a:=by
 have hk2:=((lY hd hs).1 r hr).2 _ (aJ hk)
 rw[getD_eq _ _ _ hk]
 refine Nq hd hs 7 8 9 _ _ ?_ (by omega) (by omega) hk2.1
 unfold rkI
 split
 .omega
 .rename_i q2
  have:=hk2.2 (by omega)
  have:=(lY hd hs).2 r hr
  omega
end
def uE(dm:List DS3)(ns:List DS1)(leaf:Int)(me:List DS3):Prop:=∀r t,nA iEq r me=some t->t=sat (zi dm ns leaf 8 r.toNat)
theorem Wo{β:Type}(k k':Int)(v:β):∀es:List (Int×β×Unit),nA iEq k (pV iEq k' v es)=if k=k' then some v else nA iEq k es:=by
 intro es
 induction es with
 |nil =>
  simp only[pV,nA]
  by_cases h:k=k'
  .rw[JR h,if_pos h];rfl
  .rw[Gn h,if_neg h];rfl
 |cons e es ih =>
  simp only[pV]
  by_cases h1:k'=e.1
  .rw[JR h1]
   simp only[Ai,nA]
   by_cases h:k=k'
   .rw[JR h,if_pos h];rfl
   .rw[Gn h,if_neg h,Gn (λq=>h (q.trans h1.symm))]
    rfl
  .rw[Gn h1]
   simp only[cond_false,nA,ih]
   by_cases h:k=e.1
   .have hne:¬k=k':=λq=>h1 (q.symm.trans h)
    rw[JR h,if_neg hne,if_neg hne]
   .rw[Gn h];rfl
theorem a07(x:Int×Int×(List DS1)×(List DS3)×Int×(List DS3)×Unit):Mo λs=>HV s x.1 x.2.1 x.2.2.1 x.2.2.2.1 x.2.2.2.2.1 x.2.2.2.2.2.1:=by
 unfold HV;(repeat' (first|exact Mo.const _|exact Mo.self _|apply Mo.bind|apply Mo.cond|apply Mo.map|apply Mo.join|apply Mo.loop|(intro _)))
section
variable{dm:List DS3}{ns:List DS1}{leaf:Int}
def lvl(dm:List DS3)(ns:List DS1)(r:Int):Nat:=if r<0 then dm.length else(ns.getD r.toNat zN).1.toNat
theorem LK(hd:gX dm)(hs:iC dm ns){r:Int}(hr:r<(ns.length:Int)):lvl dm ns r<=dm.length:=by
 unfold lvl
 split
 .omega
 .have:=(hs r.toNat (by omega)).2.1;omega
theorem qj(hd:gX dm)(hs:iC dm ns){r:Nat}(hr:r<ns.length){k:Nat}(hk:k<(kids ns r).length):(ns.getD r zN).1.toNat+1<=lvl dm ns ((kids ns r).getD k 0):=by
 obtain⟨h1,h2,_,_,_,h6⟩:=hs r hr
 have h7:=h6 k hk
 unfold lvl
 split
 .omega
 .rename_i q
  have:=h7.2.2 (by show 0<=(kids ns r).getD k 0;omega)
  have e:(ns.getD r zN).2.2.1.getD k 0=(kids ns r).getD k 0:=rfl
  rw[e]at this
  omega
theorem Ih (hd:gX dm) (hs:iC dm ns) (hn:ns.length<=1000) (r:Int) (a:Nat) (me:List DS3) (hr:jm ns.length r) (ha:a<=lvl dm ns r) (hm:uE dm ns leaf me) :
  T (m51 r (a:Int) ns dm leaf me) (λy=>∃me',y=(sat (kg dm ns leaf 9 r a),ns,dm,leaf,me',())/\uE dm ns leaf me'):=by
 unfold m51
 refine Cu (ι:=Int×Nat×List DS3) a07 (λg=>(g.1,(g.2.1:Int),ns,dm,leaf,g.2.2,())) (λg=>jm ns.length g.1/\g.2.1<=lvl dm ns g.1/\uE dm ns leaf g.2.2)
  (λg y=>∃me',y=(sat (kg dm ns leaf 9 g.1 g.2.1),ns,dm,leaf,me',())/\uE dm ns leaf me') (λg=>rkI (rkA ns) g.1) ?_ (r,a,me) ⟨hr,ha,hm⟩
 rintro⟨r,a,me⟩ ⟨hr,ha,hm⟩ s ih
 dsimp only at hr ha hm ih ⊢
 unfold HV
 have hD:=aR dm
 have hN:=aR ns
 have hd2:=hd.2.1
 have hll:=LK hd hs hr.2
 refine T.cnd (λhc=>?_) (λhc=>?_)<;>simp only[bD,bq]at hc
 .have hr1:=hr.1
  refine T.dh (v:=(-1-r,())) (by show some (fV .i64 (-1) r,())=_;rw[eF (by omega) (by omega)]) ?_
  dsimp only
  rw[vF _ _ _ _ hc]
  refine T.cnd (λhc2=>?_) (λhc2=>?_)<;>simp only[fZ,gT]at hc2
  .rw[if_neg hc2]
   exact T.ret ⟨me,rfl,hm⟩
  .rw[if_pos hc2,hD]
   have h1:=Mg (n:=1) hd (by omega) a dm.length (by omega) (by omega) ns leaf me
   rw[show sat 1=1 by decide,Bb]at h1
   refine T.dh h1 (T.ret ⟨me,rfl,hm⟩)
 have hrt:r.toNat<ns.length:=by have:=hr.2;omega
 have hsr:=hs r.toNat hrt
 have eN:atI ns r (0,[],[],())=ns.getD r.toNat zN:=rfl
 have hlv:lvl dm ns r=(ns.getD r.toNat zN).1.toNat:=by unfold lvl;rw[if_neg (by omega)]
 rw[hlv]at ha
 have h1:=hsr.1
 have h2:=hsr.2.1
 have h3:=hsr.2.2.1
 have h4:=hsr.2.2.2.1
 have h5:=hsr.2.2.2.2.1
 have eA:(ns.getD r.toNat zN).1=(((ns.getD r.toNat zN).1.toNat:Nat):Int):=by omega
 have hlen:=hsr.len hd
 have hkl:(kids ns r.toNat).length<=2000000001:=hlen.2
 have eK:(ns.getD r.toNat zN).2.2.1=kids ns r.toNat:=rfl
 have e48:zi dm ns leaf 8 r.toNat=qX (λk=>kg dm ns leaf 8 ((kids ns r.toNat).getD k 0) ((ns.getD r.toNat zN).1.toNat+1)*(hiK dm (ns.getD r.toNat zN) k-loK dm (ns.getD r.toNat zN) k)) (kids ns r.toNat).length:=rfl
 have ht0:0<=zi dm ns leaf 8 r.toNat:=NA hd hs 8 hrt _ (bF _)
 rw[eN,xM _ _ _ _ hc]
 refine T.grd (by rw[bf];have:=hr.2;omega) (T.cnd (λhc2=>?_) (λhc2=>?_))
 ·have hno:oO iEq r me 0=0:=by
   unfold yh at hc2
   unfold oO
   cases q:nA iEq r me with
   |none=>rfl
   |some t=>rw[q]at hc2;cases hc2
  rw[hno]
  refine T.grd (by rw[bf,hD];omega) ?_
  rw[eK]
  have hK:=aR (kids ns r.toNat)
  have hC:=aR (ns.getD r.toNat zN).2.1
  rw[hK]
  have eD:atI dm (ns.getD r.toNat zN).1 (0,0,())=dm.getD (ns.getD r.toNat zN).1.toNat zS:=rfl
  refine T.loop (λq=>∃(k:Nat) (me':List DS3),k<=(kids ns r.toNat).length/\uE dm ns leaf me'/\q=(r,(a:Int),sat (qX (λk=>kg dm ns leaf 8 ((kids ns r.toNat).getD k 0) ((ns.getD r.toNat zN).1.toNat+1)*(hiK dm (ns.getD r.toNat zN) k-loK dm (ns.getD r.toNat zN) k)) k),loK dm (ns.getD r.toNat zN) k,kids ns r.toNat,((kids ns r.toNat).length:Int),(k:Int),ns,dm,leaf,me',(ns.getD r.toNat zN).1,(ns.getD r.toNat zN).2.1,kids ns r.toNat,())) (λq=>(kids ns r.toNat).length-q.2.2.2.2.2.2.1.toNat) ⟨0,me,by omega,hm,?_⟩ ?_
  .rw[eD];unfold loK;rw[if_pos rfl];rfl
  rintro _ ⟨k,me',hk,hm',rfl⟩
  dsimp only
  rw[hC,hD,eD,dF,dF]
  refine T.cnd (λhc3=>?_) (λhc3=>?_)<;>simp only[bD,bq]at hc3
  .have hkk:k<(kids ns r.toNat).length:=by omega
   have hw:=hs.wid hrt hkk hd
   have hb:=hd.at (i:=(ns.getD r.toNat zN).1.toNat) (by omega)
   have WC:=hsr.2.2.2.2.2 k hkk
   have Cn:jm ns.length ((kids ns r.toNat).getD k 0):=WC.1
   have a4f:=qj hd hs hrt hkk
   have hrk:rkI (rkA ns) ((kids ns r.toNat).getD k 0)<rkI (rkA ns) r:=by
    have hk2:=((lY hd hs).1 r.toNat hrt).2 _ (aJ hkk)
    rw[getD_eq _ _ _ hkk]
    unfold rkI
    rw[if_neg (show ¬r<0 by omega)]
    split
    .omega
    .have:=hk2.2 (by omega);omega
   have hcn:0<=kg dm ns leaf 8 ((kids ns r.toNat).getD k 0) ((ns.getD r.toNat zN).1.toNat+1):=OH hd hs _ _ _ Cn.2
   have eqc:=MJ (leaf:=leaf) hd hs hrt hkk ((ns.getD r.toNat zN).1.toNat+1)
   have hps:0<=qX (λk=>kg dm ns leaf 8 ((kids ns r.toNat).getD k 0) ((ns.getD r.toNat zN).1.toNat+1)*(hiK dm (ns.getD r.toNat zN) k-loK dm (ns.getD r.toNat zN) k)) k:=NA hd hs 8 hrt k (by omega)
   have ei:bX .i64 (ns.getD r.toNat zN).1 1=(((ns.getD r.toNat zN).1.toNat+1:Nat):Int):=by rw[aY (by omega) (by omega)];omega
   have nxt:∀ me2,uE dm ns leaf me2->∀ hi:Int,hi=hiK dm (ns.getD r.toNat zN) k->T ((m82 (sat (kg dm ns leaf 9 ((kids ns r.toNat).getD k 0) ((ns.getD r.toNat zN).1.toNat + 1))) (fV .i64 hi (loK dm (ns.getD r.toNat zN) k))).bind fun UC =>
     some (Sum.inl (β:=Int×(List DS1)×(List DS3)×Int×(List DS3)×Unit) (r,(a:Int),pW (bX .i64 (sat (qX (λk=>kg dm ns leaf 8 ((kids ns r.toNat).getD k 0) ((ns.getD r.toNat zN).1.toNat+1)*(hiK dm (ns.getD r.toNat zN) k-loK dm (ns.getD r.toNat zN) k)) k)) UC.1) 17592186044416,hi,kids ns r.toNat,((kids ns r.toNat).length:Int),bX .i64 (k:Int) 1,ns,dm,leaf,me2,(ns.getD r.toNat zN).1,(ns.getD r.toNat zN).2.1,kids ns r.toNat,())))
     (LQ (λq=>∃(k:Nat) (me':List DS3),k<=(kids ns r.toNat).length/\uE dm ns leaf me'/\q=(r,(a:Int),sat (qX (λk=>kg dm ns leaf 8 ((kids ns r.toNat).getD k 0) ((ns.getD r.toNat zN).1.toNat+1)*(hiK dm (ns.getD r.toNat zN) k-loK dm (ns.getD r.toNat zN) k)) k),loK dm (ns.getD r.toNat zN) k,kids ns r.toNat,((kids ns r.toNat).length:Int),(k:Int),ns,dm,leaf,me',(ns.getD r.toNat zN).1,(ns.getD r.toNat zN).2.1,kids ns r.toNat,())) (λq=>(kids ns r.toNat).length-q.2.2.2.2.2.2.1.toNat) ((kids ns r.toNat).length-(k:Int).toNat) (λy=>∃me',y=(sat (zi dm ns leaf 8 r.toNat*yJ dm a (ns.getD r.toNat zN).1.toNat),ns,dm,leaf,me',())/\uE dm ns leaf me')):=by
    rintro me2 hm2 _ rfl
    rw[eF (by omega) (by omega),<- eqc]
    refine T.dh (NC (FX hcn) ⟨by omega,by omega⟩) ?_
    dsimp only
    have hpr:=pz hcn (show 0<=hiK dm (ns.getD r.toNat zN) k-loK dm (ns.getD r.toNat zN) k by omega)
    refine T.go ⟨k+1,me2,by omega,hm2,?_⟩ (by dsimp only;rw[aY (by omega) (by omega)];omega)
    have b1:=FX hps
    have b2:=FX hpr
    rw[NK hcn (by omega),aY (by omega) (by omega),aY (by omega) (by omega)]
    have:pW (sat (qX (λk=>kg dm ns leaf 8 ((kids ns r.toNat).getD k 0) ((ns.getD r.toNat zN).1.toNat+1)*(hiK dm (ns.getD r.toNat zN) k-loK dm (ns.getD r.toNat zN) k)) k)+sat (kg dm ns leaf 8 ((kids ns r.toNat).getD k 0) ((ns.getD r.toNat zN).1.toNat+1)*(hiK dm (ns.getD r.toNat zN) k-loK dm (ns.getD r.toNat zN) k))) 17592186044416=sat (qX (λk=>kg dm ns leaf 8 ((kids ns r.toNat).getD k 0) ((ns.getD r.toNat zN).1.toNat+1)*(hiK dm (ns.getD r.toNat zN) k-loK dm (ns.getD r.toNat zN) k)) (k+1)):=by
     simp only[qX]
     rw[<- a0v hps hpr]
     unfold pW sat;omega
    rw[this]
    have el:loK dm (ns.getD r.toNat zN) (k+1)=hiK dm (ns.getD r.toNat zN) k:=by
     unfold loK
     rw[if_neg (by omega),jd]
    rw[el]
    rfl
   refine T.grd (by rw[bf];omega) (T.grd (by rw[bf];omega) (T.cnd (λhc4=>?_) (λhc4=>?_)))<;>simp only[bD,bq]at hc4
   .refine T.grd (by rw[bf];omega) ?_
    rw[ei]
    refine T.call (ih ((kids ns r.toNat).getD k 0,(ns.getD r.toNat zN).1.toNat+1,me') ⟨Cn,a4f,hm'⟩ hrk) ?_
    rintro _ ⟨me2,rfl,hm2⟩
    exact nxt me2 hm2 _ (by unfold hiK;rw[if_pos (by omega)])
   .rw[ei,aY (by omega) (by omega)]
    refine T.call (ih ((kids ns r.toNat).getD k 0,(ns.getD r.toNat zN).1.toNat+1,me') ⟨Cn,a4f,hm'⟩ hrk) ?_
    rintro _ ⟨me2,rfl,hm2⟩
    exact nxt me2 hm2 _ (by unfold hiK;rw[if_neg (by omega)])
  .obtain rfl:k=(kids ns r.toNat).length:=by omega
   rw[<- e48]
   refine T.lT ?_
   have hf:=Mg (n:=zi dm ns leaf 8 r.toNat) hd ht0 a (ns.getD r.toNat zN).1.toNat (by omega) (by omega) ns leaf (pV iEq r (sat (zi dm ns leaf 8 r.toNat)) me')
   rw[<- eA]at hf
   refine T.dh hf (T.ret ⟨_,rfl,λr' t h=>?_⟩)
   rw[Wo]at h
   split at h
   .rename_i q;subst q;cases h;rfl
   .exact hm' r' t h
 ·obtain ⟨t,ht⟩:∃ t,nA iEq r me=some t:=by
   unfold yh at hc2
   cases q:nA iEq r me with
   |none=>rw[q]at hc2;cases hc2
   |some t=>exact⟨t,rfl⟩
  have hg:oO iEq r me 0=sat (zi dm ns leaf 8 r.toNat):=by unfold oO;rw[ht];exact hm r t ht
  rw[hg]
  have hf:=Mg (n:=zi dm ns leaf 8 r.toNat) hd ht0 a (ns.getD r.toNat zN).1.toNat (by omega) (by omega) ns leaf me
  rw[<- eA]at hf
  exact T.dh hf (T.ret ⟨me,rfl,hm⟩)
end
theorem IZ(r:Int):nA iEq r ([]:List DS3)=none:=rfl
theorem VD.yB{dm:List DS3}{ns:List DS1}{root:Int}(h:VD dm ns root):iC dm ns:=h.2.2.1
theorem a1B(l:List DS0)(ns:List DS1)(root:Int)(leaf:Int)(hz:SzN ns):T (m26 (l,()) (ns,root,()) leaf) (λy=>(0<=leaf/\leaf<=255/\jH l=0/\VD (doms l) ns root->y.1=sat (kg (doms l) ns leaf 9 root 0))/\(¬(0<=leaf/\leaf<=255/\jH l=0/\VD (doms l) ns root)->y.1=0)):=by
 unfold m26
 refine T.cnd (λhc=>?_) (λhc=>?_)<;>simp only[fB,fF,bD,bq]at hc
 .exact T.ret ⟨λh=>by omega,λ_=>rfl⟩
 refine T.call (Gw l ns root hz) ?_
 rintro⟨y,⟨⟩⟩ hy
 dsimp only at hy ⊢
 refine T.cnd (λhc2=>?_) (λhc2=>?_)<;>simp only[dO,gQ]at hc2
 .refine T.ret ⟨λh=>?_,λ_=>rfl⟩
  rw[hy.2 ⟨h.2.2.1,h.2.2.2⟩]at hc2
  cases hc2
 obtain⟨hv,hV⟩:=hy.1 hc2
 have hd:=ql hv
 refine T.dh (ME l hv) ?_
 dsimp only
 refine T.call (Ih hd hV.yB hV.1 root 0 [] hV.2.1 (by omega) (λr t h=>by rw[IZ]at h;cases h)) ?_
 rintro _ ⟨me',rfl,_⟩
 exact T.ret ⟨λ_=>rfl,λh=>absurd ⟨by omega,by omega,hv,hV⟩ h⟩
def Gs(p:Nat->Bool):Nat->Nat->Nat
 |0,i=>i
 |n+1,i=>if p i=true then i else Gs p n (i+1)
theorem TJ{p:Nat->Bool}:∀(n i k:Nat),i<=k->k<i+n->(∀j,i<=j->j<k->p j=false)->p k=true->Gs p n i=k:=by
 intro n
 induction n with
 |zero=>intro i k h1 h2 _ _;omega
 |succ n ih =>
  intro i k h1 h2 h3 h4
  simp only[Gs]
  by_cases e:i=k
  .subst e;rw[if_pos h4]
  .rw[if_neg (by rw[h3 i (by omega) (by omega)];decide)]
   exact ih (i+1) k (by omega) (by omega) (λj a b=>h3 j (by omega) b) h4
section
variable{dm:List DS3}{ns:List DS1}{leaf:Int}
def Bt(dm:List DS3)(ns:List DS1)(leaf:Int)(r:Nat):Nat:=Gs (λk=>decide (kg dm ns leaf 9 ((kids ns r).getD k 0) ((ns.getD r zN).1.toNat+1)≠0)) (kids ns r).length 0
def rz(dm:List DS3)(ns:List DS1)(leaf:Int):Nat->Int->List Int->List Int
 |0,_,fs=>fs
 | f + 1,r,fs=>if r < 0 then fs else
   rz dm ns leaf f ((kids ns r.toNat).getD (Bt dm ns leaf r.toNat) 0) (if 0<Bt dm ns leaf r.toNat then fs.set (ns.getD r.toNat zN).1.toNat ((ns.getD r.toNat zN).2.1.getD (Bt dm ns leaf r.toNat-1) 0) else fs)
theorem Ng(f:Nat){r:Int}(h:r<0)(fs:List Int):rz dm ns leaf f r fs=fs:=by
 cases f with
 |zero=>rfl
 |succ f=>simp only[rz];rw[if_pos h]
theorem a0b{g:Nat->Int}:∀n,qX g n≠0->∃k,k<n/\g k≠0:=by
 intro n
 induction n with
 |zero=>intro h;exact absurd rfl h
 |succ n ih =>
  intro h
  simp only[qX]at h
  by_cases q:g n=0
  .obtain⟨k,h1,h2⟩:=ih (by omega);exact⟨k,by omega,h2⟩
  .exact⟨n,by omega,q⟩
theorem a3K(hd:gX dm)(hs:iC dm ns){r:Int}{a:Nat}(h0:0<=r)(hr:r<(ns.length:Int))(h:kg dm ns leaf 9 r a≠0):∃k,k<(kids ns r.toNat).length/\kg dm ns leaf 9 ((kids ns r.toNat).getD k 0) ((ns.getD r.toNat zN).1.toNat+1)≠0:=by
 rw[xM _ _ _ _ h0]at h
 have h1:zi dm ns leaf 8 r.toNat≠0:=λe=>h (by rw[e,Int.zero_mul])
 obtain⟨k,k1,k2⟩:=a0b _ h1
 refine⟨k,k1,λe=>k2 ?_⟩
 rw[MJ hd hs (by omega) k1,e,Int.zero_mul]
theorem Tz{r:Nat}{k:Nat}(hk:k<(kids ns r).length)(h1:∀j,j<k->kg dm ns leaf 9 ((kids ns r).getD j 0) ((ns.getD r zN).1.toNat+1)=0)(h2:kg dm ns leaf 9 ((kids ns r).getD k 0) ((ns.getD r zN).1.toNat+1)≠0):Bt dm ns leaf r=k:=by
 unfold Bt
 exact TJ _ 0 k (by omega) (by omega) (λj _ hj=>by simpa using h1 j hj) (by simpa using h2)
end
theorem a1c(l:List DS0)(ns:List DS1)(root:Int)(leaf:Int)(hz:SzN ns):T (m21 (l,()) (ns,root,()) leaf) (λy=>(0<=leaf/\leaf<=255/\jH l=0/\VD (doms l) ns root/\kg (doms l) ns leaf 9 root 0≠0->y=(rz (doms l) ns leaf 9 root ((doms l).map λd=>d.1),true,()))/\(¬(0<=leaf/\leaf<=255/\jH l=0/\VD (doms l) ns root/\kg (doms l) ns leaf 9 root 0≠0)->y=([],false,()))):=by
 unfold m21
 refine T.cnd (λhc=>?_) (λhc=>?_)<;>simp only[fB,fF,bD,bq]at hc
 .exact T.ret ⟨λh=>by omega,λ_=>rfl⟩
 refine T.call (Gw l ns root hz) ?_
 rintro⟨y,⟨⟩⟩ hy
 dsimp only at hy ⊢
 refine T.cnd (λhc2=>?_) (λhc2=>?_)<;>simp only[dO,gQ]at hc2
 .refine T.ret ⟨λh=>?_,λ_=>rfl⟩
  rw[hy.2 ⟨h.2.2.1,h.2.2.2.1⟩]at hc2
  cases hc2
 obtain⟨hv,hV⟩:=hy.1 hc2
 have hd:=ql hv
 refine T.dh (ME l hv) ?_
 dsimp only
 generalize hdm:doms l=dm at hd hV
 have hs:=hV.yB
 have hn:=hV.1
 refine T.call (Ih hd hs hn root 0 [] hV.2.1 (by omega) (λr t h=>by rw[IZ]at h;cases h)) ?_
 rintro _ ⟨me',rfl,hme⟩
 dsimp only
 refine T.cnd (λhc3=>?_) (λhc3=>?_)<;>simp only[dD,dG,KG]at hc3
 .exact T.ret ⟨λh=>absurd hc3 h.2.2.2.2,λ_=>rfl⟩
 have hD:=aR dm
 have hd2:=hd.2.1
 rw[hD]
 refine T.grd (by rw[gM];omega) ?_
 rw[aZ]
 have good:∀y:List Int×Bool×Unit,y=(rz dm ns leaf 9 root (dm.map λd=>d.1),true,())->((0<=leaf/\leaf<=255/\jH l=0/\VD dm ns root/\kg dm ns leaf 9 root 0≠0->y=(rz dm ns leaf 9 root (dm.map λd=>d.1),true,()))/\(¬(0<=leaf/\leaf<=255/\jH l=0/\VD dm ns root/\kg dm ns leaf 9 root 0≠0)->y=([],false,()))):=λy e=>⟨λ_=>e,λh=>absurd ⟨by omega,by omega,hv,hV,hc3⟩ h⟩
 refine T.mono (Q:=λy=>y=(rz dm ns leaf 9 root (dm.map λd=>d.1),true,())) ?_ good
 refine T.loop (λq=>∃(i:Nat) (fs:List Int),i<=dm.length/\fs.length=dm.length/\(∀j,j<i->fs.getD j 0=(dm.getD j zS).1)/\q=(dm,(dm.length:Int),(i:Int),ns,root,ns,dm,leaf,fs,me',())) (λq=>dm.length-q.2.2.1.toNat) ⟨0,_,by omega,by simp,λj hj=>by omega,rfl⟩ ?_
 rintro _ ⟨i,fs,hi,hfs,hg,rfl⟩
 dsimp only
 have hF:=aR fs
 have eD:atI dm (i:Int) (0,0,())=dm.getD i zS:=by rw[dF];rfl
 rw[hD,eD]
 refine T.cnd (λhc4=>?_) (λhc4=>?_)<;>simp only[bD,bq]at hc4
 .refine T.grd (by rw[bf];omega) (T.grd (by rw[bf];omega) (T.grd (by rw[dU];omega) (T.go ⟨i+1,fs.set i (dm.getD i zS).1,by omega,by rw[bK];exact hfs,λj hj=>?_,by rw[aY (by omega) (by omega)];rfl⟩ (by dsimp only;rw[aY (by omega) (by omega)];omega))))
  rw[aQ]
  by_cases e:i=j
  .subst e
   rw[aW (by omega)];rfl
  .rw[aB e,<- aQ]
   exact hg j (by omega)
 obtain rfl:i=dm.length:=by omega
 obtain rfl:fs=dm.map λd=>d.1:=by
  apply gB (by rw[hfs,bR])
  intro j h1 h2
  have:=hg j (by omega)
  rw[getD_eq _ _ _ h1,getD_eq _ _ _ (by omega)]at this
  rw[this,jY]
 refine T.lT ?_
 have hN:=aR ns
 refine T.loop (λq=>∃(f:Nat) (r:Int) (a:Nat) (fs:List Int) (me:List DS3),jm ns.length r/\rkI (rkA ns) r<=f/\kg dm ns leaf 9 r a≠0/\fs.length=dm.length/\uE dm ns leaf me/\rz dm ns leaf 9 root (dm.map λd=>d.1)=rz dm ns leaf f r fs/\q=(r,ns,root,ns,dm,leaf,fs,me,())) (λq=>rkI (rkA ns) q.1) ⟨9,root,0,_,me',hV.2.1,?_,hc3,by simp,hme,rfl,rfl⟩ ?_
 .unfold rkI
  split
  .omega
  .have:=(lY hd hs).2 root.toNat (by have:=hV.2.1.2;omega);omega
 rintro _ ⟨f,r,a,fs,me,hr,hf,hcn,hfs,hm,hfin,rfl⟩
 dsimp only
 refine T.cnd (λhc5=>?_) (λhc5=>?_)<;>simp only[fU,gq]at hc5
 .have hrt:r.toNat<ns.length:=by have:=hr.2;omega
  have hsr:=hs r.toNat hrt
  have h1:=hsr.1
  have h2:=hsr.2.1
  have h4:=hsr.2.2.2.1
  have eN:atI ns r (0,[],[],())=ns.getD r.toNat zN:=rfl
  have eK:(ns.getD r.toNat zN).2.2.1=kids ns r.toNat:=rfl
  have hK:=aR (kids ns r.toNat)
  have hC:=aR (ns.getD r.toNat zN).2.1
  have hlen:=hsr.len hd
  have hkl:(kids ns r.toNat).length<=2000000001:=hlen.2
  rw[eN,eK,hK]
  refine T.grd (by rw[bf];have:=hr.2;omega) ?_
  obtain⟨k0,k01,k02⟩:=a3K hd hs hc5 hr.2 hcn
  obtain⟨f',rfl⟩:∃f',f=f'+1:=⟨f-1,by unfold rkI at hf;rw[if_neg (by omega)]at hf;omega⟩
  refine T.loop (λq=>∃(i:Nat) (me:List DS3),i<=k0/\uE dm ns leaf me/\(∀j,j<i->kg dm ns leaf 9 ((kids ns r.toNat).getD j 0) ((ns.getD r.toNat zN).1.toNat+1)=0)/\q=(r,kids ns r.toNat,((kids ns r.toNat).length:Int),(i:Int),ns,root,ns,dm,leaf,fs,(ns.getD r.toNat zN).1,(ns.getD r.toNat zN).2.1,kids ns r.toNat,me,())) (λq=>(kids ns r.toNat).length-q.2.2.2.1.toNat) ⟨0,me,by omega,hm,λj hj=>by omega,rfl⟩ ?_
  rintro _ ⟨i,me1,hi,hm1,hz0,rfl⟩
  dsimp only
  have hil:i<(kids ns r.toNat).length:=by omega
  have hFs:=aR fs
  have ei:bX .i64 (ns.getD r.toNat zN).1 1=(((ns.getD r.toNat zN).1.toNat+1:Nat):Int):=by rw[aY (by omega) (by omega)];omega
  have WC:=hsr.2.2.2.2.2 i hil
  have Cn:jm ns.length ((kids ns r.toNat).getD i 0):=WC.1
  have hrk:rkI (rkA ns) ((kids ns r.toNat).getD i 0)<rkI (rkA ns) r:=by
   have hk2:=((lY hd hs).1 r.toNat hrt).2 _ (aJ hil)
   rw[getD_eq _ _ _ hil]
   unfold rkI
   rw[if_neg (show ¬r<0 by omega)]
   split
   .omega
   .have:=hk2.2 (by omega);omega
  rw[hK,hC,hFs,ei,dF]
  refine T.ct (by rw[bD];omega) (T.grd (by rw[bf];omega) (T.call (Ih hd hs hn _ _ me1 Cn (qj hd hs hrt hil) hm1) ?_))
  rintro _ ⟨me2,rfl,hm2⟩
  dsimp only
  refine T.cnd (λhc6=>?_) (λhc6=>?_)<;>simp only[dD,dG,KG]at hc6
  .refine T.go ⟨i+1,me2,?_,hm2,λj hj=>?_,by rw[aY (by omega) (by omega)];rfl⟩ (by dsimp only;rw[aY (by omega) (by omega)];omega)
   .rcases aM i k0 with q|q
    .omega
    .obtain rfl:i=k0:=by omega
     exact absurd hc6 k02
   .rcases aM j i with q|q
    .exact hz0 j q
    .obtain rfl:j=i:=by omega
     exact hc6
  have hkL:Bt dm ns leaf r.toNat=i:=Tz hil hz0 hc6
  have JU:rz dm ns leaf 9 root (dm.map λd=>d.1)=rz dm ns leaf f' ((kids ns r.toNat).getD i 0) (if 0<i then fs.set (ns.getD r.toNat zN).1.toNat ((ns.getD r.toNat zN).2.1.getD (i-1) 0) else fs):=by
   rw[hfin]
   simp only[rz]
   rw[if_neg (by omega),hkL]
  refine T.cnd (λhc7=>?_) (λhc7=>?_)<;>simp only[bD,bq]at hc7
  .have ej:fV .i64 (i:Int) 1=((i-1:Nat):Int):=by rw[eF (by omega) (by omega)];omega
   rw[ej,dF]
   have hik:i<(ns.getD r.toNat zN).2.1.length+1:=by rw[<- h4];exact hil
   refine T.grd (by rw[bf];omega) (T.grd (by rw[bf];omega) (T.grd (by rw[dU];omega) ?_))
   refine T.out (show LQ _ _ _ _ (Sum.inl _) from⟨⟨f',_,_,_,me2,Cn,by omega,hc6,by rw[bK];exact hfs,hm2,?_,rfl⟩,by exact hrk⟩)
   rw[JU,if_pos (by omega)]
  .refine T.out (show LQ _ _ _ _ (Sum.inl _) from⟨⟨f',_,_,_,me2,Cn,by omega,hc6,hfs,hm2,?_,rfl⟩,by exact hrk⟩)
   rw[JU,if_neg (by omega)]
 .refine T.out ?_
  rw[hfin,Ng f hc5]
def I64(n:Int):Prop:=-9223372036854775808<=n/\n<=9223372036854775807
def Jy(l:List DS0)(i lo hi:Int):DS2×Int×Unit :=
 if jH l≠0 then(([],0,()),jH l,()) else if i<0\/(l.length:Int)<=i then(([],0,()),7,()) else
 if hi<lo\/(kE (l.getD i.toNat zA)).2<lo\/hi<(kE (l.getD i.toNat zA)).1 then(([],-1,()),0,())
 else if lo<=(kE (l.getD i.toNat zA)).1/\(kE (l.getD i.toNat zA)).2<=hi then(([],-2,()),0,())
 else if lo<=(kE (l.getD i.toNat zA)).1 then(([(i,[hi+1],[-2,-1],())],0,()),0,())
 else if(kE (l.getD i.toNat zA)).2<=hi then(([(i,[lo],[-1,-2],())],0,()),0,())
 else(([(i,[lo,hi+1],[-1,-2,-1],())],0,()),0,())
theorem Tq(v:Int):m17 v=some (([],-1-max 0 (min v 255),()),()):=by
 show some ((([]:List DS1),fV .i64 (-1) (uT 0 (pW v 255)),()),())=_
 unfold uT pW
 rw[eF (by omega) (by omega)]
theorem Qt(v:Int)(h:0<=v/\v<=255):m40 v=some (-1-v,()):=by
 show some (fV .i64 (-1) v,())=_
 rw[eF (by omega) (by omega)]
theorem a2C(l:List DS0)(i lo hi:Int):m12 (l,()) i lo hi=some (Jy l i lo hi):=by
 refine T.eq ?_
 unfold m12 Jy
 refine T.dh (Jw _) ?_
 dsimp only
 have hL:=aR l
 refine T.cnd (λhc=>?_) (λhc=>?_)<;>simp only[fZ,gT]at hc
 .rw[if_pos hc];exact T.ret rfl
 rw[if_neg (by omega)]
 have v:=val_ok hc
 refine T.cnd (λhc2=>?_) (λhc2=>?_)<;>simp only[fB,fF,bD,bq,fU,gq,hL]at hc2
 .rw[if_pos hc2];exact T.ret rfl
 rw[if_neg (by omega)]
 have hil:i.toNat<l.length:=by omega
 have ei:i=(i.toNat:Int):=by omega
 have hb:=MF (v.2.2 _ (aJ hil)).2
 refine T.dh (v:=((kE l[i.toNat]).1,(kE l[i.toNat]).2,())) (by have q:=TT l i.toNat hil hc;rwa [<- ei]at q) ?_
 dsimp only
 rw[getD_eq l i.toNat zA hil]
 generalize kE l[i.toNat]=d at hb ⊢
 obtain⟨d1,d2⟩:=d
 dsimp only at hb ⊢
 unfold pW uT
 refine T.cnd (λhc3=>?_) (λhc3=>?_)<;>simp only[bD,bq]at hc3
 .rw[if_pos (by omega)]
  refine T.dh (Tq 0) (T.ret rfl)
 rw[if_neg (by omega)]
 refine T.dh (Qt 1 (by omega)) ?_
 dsimp only
 refine T.join (λj=>j=(i,min hi d2,d2,0,(if d1<lo then[lo] else[]),(if d1<lo then[-1,-2] else[-2]),())) ?_ ?_
 .refine T.cnd (λhc4=>?_) (λhc4=>?_)<;>simp only[bD,bq]at hc4
  .refine T.grd (by rw[dN];exact⟨by simp,by simp⟩) (T.dh (Qt 0 (by omega)) (T.dh (Qt 1 (by omega)) (T.jgo ?_)))
   rw[if_pos (by omega),if_pos (by omega),show max lo d1=lo by omega]
   rfl
  .refine T.jgo ?_
   rw[if_neg (by omega),if_neg (by omega)]
   rfl
 rintro _ rfl
 dsimp only
 refine T.cnd (λhc5=>?_) (λhc5=>?_)<;>simp only[bD,bq]at hc5
 .rw[aY (by omega) (by omega),show min hi d2=hi by omega,if_neg (show ¬(lo<=d1/\d2<=hi) by omega)]
  refine T.grd (by rw[dN];split<;>exact⟨by simp,by simp⟩) (T.dh (Qt 0 (by omega)) (T.grd (by rw[dN];split<;>exact⟨by simp,by simp⟩) (T.cf ?_ ?_)))
  .rw[dG,aR];split<;>simp
  .refine T.ret ?_
   by_cases q:d1<lo
   .rw[if_pos q,if_pos q,if_neg (show ¬lo<=d1 by omega),if_neg (show ¬d2<=hi by omega)];rfl
   .rw[if_neg q,if_neg q,if_pos (show lo<=d1 by omega)];rfl
 .refine T.cnd (λhc6=>?_) (λhc6=>?_)<;>simp only[dD,dG,aR]at hc6
  .have q:¬d1<lo:=λq=>by rw[if_pos q]at hc6;simp at hc6
   refine T.dh (Tq 1) (T.ret ?_)
   rw[if_pos (show lo<=d1/\d2<=hi by omega)];rfl
  ·have q:d1 < lo:=by
    rcases eZ d1 lo with q|q
    .exact q
    .rw[if_neg (by omega)]at hc6;simp at hc6
   refine T.ret ?_
   rw[if_neg (show ¬(lo<=d1/\d2<=hi) by omega),if_neg (show ¬lo<=d1 by omega),if_pos (show d2<=hi by omega),if_pos q,if_pos q]
def l0:List DS0:=[((bs [120]),2,[],1,9,())]
def n0:List DS1:=[(0,[3],[-1,-2],())]
theorem V8:jH l0=0:=by kernel_rfl
theorem X6:doms l0=[(1,9,())]:=rfl
theorem a5v:Jy l0 0 3 20=((n0,0,()),0,()):=by
 unfold Jy
 rw[if_neg (by rw[V8];omega)]
 rfl
theorem a2H:mX [(1,9,())] n0 (0,[3],[-1,-2],()):=by
 refine⟨by decide,by decide,by decide,by decide,λk hk=>?_,λk hk=>?_⟩
 .have:k=0:=by have:k<1:=hk;omega
  subst this
  exact⟨by decide,by decide,λq=>by omega⟩
 .have:k=0\/k=1:=by have:k<2:=hk;omega
  rcases this with rfl|rfl
  .exact⟨⟨by decide,by decide⟩,λq=>by omega,λq=>by revert q;decide⟩
  .exact⟨⟨by decide,by decide⟩,λ_=>by decide,λq=>by revert q;decide⟩
theorem vd0:VD (doms l0) n0 0:=by
 rw[X6]
 refine⟨by decide,⟨by decide,by decide⟩,λi hi=>?_,λi hi k hk=>?_,by rfl⟩
 .have:i=0:=by have:i<1:=hi;omega
  subst this
  exact a2H
 .have:i<1:=hi
  omega
theorem a4N:kg (doms l0) n0 1 9 0 0=7:=by rw[X6];kernel_rfl
theorem a3J:rz (doms l0) n0 1 9 0 ((doms l0).map λd=>d.1)=[3]:=by rw[X6];kernel_rfl
theorem sz0:SzN n0:=⟨by decide,λx hx=>by obtain rfl:=bG.1 hx;exact⟨by simp,by simp⟩⟩
theorem a1Z:m11=some (true,()):=by
 refine T.eq ?_
 unfold m11
 refine T.dh (show m12 (l0,()) 0 3 20=some ((n0,0,()),0,()) by rw[a2C,a5v]) ?_
 dsimp only
 refine T.call (a1c l0 n0 0 1 sz0) ?_
 intro y hy
 obtain rfl:=hy.1 ⟨by omega,by omega,V8,vd0,by rw[a4N];omega⟩
 rw[a3J]
 refine T.grd (by rfl) (T.ct (by rfl) (T.call (a1B l0 n0 0 1 sz0) ?_))
 rintro⟨y,⟨⟩⟩ hy
 have e:=hy.1 ⟨by omega,by omega,V8,vd0⟩
 rw[a4N]at e
 dsimp only at e
 subst e
 exact T.ret rfl
theorem Ii{Q:Bool×Unit->Prop}(h:Q (true,())):T ((m11).bind λy=>some (y.1,())) Q:=T.dh a1Z (T.ret h)
def tL(lo hi:Int)(r:List Int):Prop:=r.head?=some lo/\r.Pairwise (·<·)/\∀x∈r,x<=hi
def GOk(dm:List DS3)(g:List (List Int)):Prop:=g.length=dm.length/\∀i,i<dm.length->tL (dm.getD i zS).1 (dm.getD i zS).2.1 (g.getD i [])
def bS:List (List Int)->Nat
 |[]=>1
 |r::g=>r.length*bS g
def excess:List (List Int)->Nat
 |[]=>0
 |r::g=>(r.length-1)+excess g
def mK:List Int->Int->List Int
 |[],n=>[n]
 |x::xs,n=>if n<x then n::x::xs else if n=x then x::xs else x::mK xs n
theorem MW:∀(l:List Int) (n:Int),l.length<=(mK l n).length/\(mK l n).length<=l.length+1:=by
 intro l
 induction l with
 |nil=>intro n;simp[mK]
 |cons x xs ih =>
  intro n
  simp only[mK]
  split
  .simp
  .split
   .simp
   .have:=ih n;simp;omega
theorem MU:∀(l:List Int) (n:Int),∀y∈mK l n,y=n\/y∈l:=by
 intro l
 induction l with
 |nil=>intro n y hy;simp[mK]at hy;exact .inl hy
 |cons x xs ih =>
  intro n y hy
  simp only[mK]at hy
  split at hy
  .rcases bT.1 hy with q|q;exact .inl q;exact .inr q
  .split at hy
   .exact .inr hy
   .rcases bT.1 hy with q|q
    .exact .inr (by simp[q])
    .rcases ih n y q with r|r;exact .inl r;exact .inr (by simp[r])
theorem Jl:∀(l:List Int) (n:Int),n∈mK l n/\∀y∈l,y∈mK l n:=by
 intro l
 induction l with
 |nil=>intro n;simp[mK]
 |cons x xs ih =>
  intro n
  simp only[mK]
  split
  .exact⟨by simp,λy hy=>by simp[bT.1 hy]⟩
  .split
   .rename_i h;exact⟨by simp[h],λy hy=>hy⟩
   .obtain⟨h1,h2⟩:=ih n
    exact⟨by simp[h1],λy hy=>by rcases bT.1 hy with q|q;simp[q];simp[h2 y q]⟩
theorem Nt:∀(l:List Int) (n:Int),l.Pairwise (·<·)->(mK l n).Pairwise (·<·):=by
 intro l
 induction l with
 |nil=>intro n _;simp[mK]
 |cons x xs ih =>
  intro n h
  obtain⟨h1,h2⟩:=iN.1 h
  simp only[mK]
  split
  .rename_i q
   refine iN.2 ⟨λy hy=>?_,h⟩
   rcases bT.1 hy with r|r
   .omega
   .have:=h1 y r;omega
  .split
   .exact h
   .refine iN.2 ⟨λy hy=>?_,ih n h2⟩
    rcases MU xs n y hy with r|r
    .omega
    .exact h1 y r
theorem Xm{lo hi n:Int}{r:List Int}(h:tL lo hi r)(h1:lo<n)(h2:n<=hi):tL lo hi (mK r n):=by
 obtain⟨a,b,c⟩:=h
 refine⟨?_,Nt _ _ b,λx hx=>?_⟩
 .cases r with
  |nil=>cases a
  |cons x xs =>
   obtain rfl:=aI a
   simp only[mK]
   rw[if_neg (by omega),if_neg (by omega)];rfl
 .rcases MU _ _ _ hx with q|q
  .omega
  .exact c x q
theorem a8j(l:List Int)(n:Int)(hl:l.length<=3000000000):m79 l n=some (mK l n,()):=by
 refine T.eq ?_
 unfold m79
 refine T.dh (v:=(mK l n,())) ?_ (T.ret rfl)
 refine T.eq ?_
 unfold m96
 have hL:=aR l
 refine T.loop (λq=>∃(d:Bool) (i:Nat) (o:List Int),i<=l.length/\o.length<=i+d.toNat/\(if d=true then o++l.drop i else o++mK (l.drop i) n)=mK l n/\q=(l,n,d,(i:Int),o,())) (λq=>l.length-q.2.2.2.1.toNat) ⟨false,0,[],by omega,by simp,by simp,rfl⟩ ?_
 rintro _ ⟨d,i,o,hi,ho,hg,rfl⟩
 dsimp only
 have hdt:d.toNat<=1:=by cases d<;>decide
 rw[hL,dF]
 refine T.cnd (λhc=>?_) (λhc=>?_)<;>simp only[bD,bq]at hc
 .have hil:i<l.length:=by omega
  have b1:bnd (i:Int) (l.length:Int)=true:=by rw[bf];omega
  have hdr:l.drop i=l[i]::l.drop (i+1):=jc hil
  rw[getD_eq _ _ _ hil]
  have next:∀(d':Bool) (o':List Int),o'.length<=i+1+d'.toNat->(if d'=true then o'++l.drop (i+1) else o'++mK (l.drop (i+1)) n)=mK l n->T (some (Sum.inl (β:=(List Int)×Unit) (l,n,d',bX .i64 (i:Int) 1,o',()))) (LQ (λq=>∃(d:Bool) (i:Nat) (o:List Int),i<=l.length/\o.length<=i+d.toNat/\(if d=true then o++l.drop i else o++mK (l.drop i) n)=mK l n/\q=(l,n,d,(i:Int),o,())) (λq=>l.length-q.2.2.2.1.toNat) (l.length-(i:Int).toNat) (λx=>x=(mK l n,()))):=λd' o' h1 h2 =>
   T.go ⟨d',i+1,o',by omega,by omega,h2,by rw[aY (by omega) (by omega)];rfl⟩ (by dsimp only;rw[aY (by omega) (by omega)];omega)
  refine T.grd (by rw[eY];exact .inl b1) (T.cnd (λhc2=>?_) (λhc2=>?_))
  .rw[dM,dO,fU]at hc2
   obtain⟨rfl,hle⟩:=hc2
   rw[if_neg (by decide),hdr]at hg
   refine T.grd b1 (T.cnd (λhc3=>?_) (λhc3=>?_))<;>simp only[bD,bq]at hc3
   .refine T.grd (by rw[dN,aF];omega) (T.grd b1 (T.grd (by rw[dN,ak,aF,aF];omega) (next true _ (by rw[ak,ak,aF,aF];simp only[Bool.toNat_false,Bool.toNat_true]at ho ⊢;omega) ?_)))
    rw[if_pos rfl,<- hg]
    simp only[mK]
    rw[if_pos hc3]
    simp
   .refine T.grd b1 (T.grd (by rw[dN,aF];omega) (next true _ (by rw[ak,aF];simp only[Bool.toNat_false,Bool.toNat_true]at ho ⊢;omega) ?_))
    rw[if_pos rfl,<- hg]
    simp only[mK]
    rw[if_neg (by omega),if_pos (by omega)]
    simp
  .refine T.grd b1 (T.grd (by rw[dN,aF];omega) (next d _ (by rw[ak,aF];omega) ?_))
   rw[dS,gQ,gq]at hc2
   cases d with
   |true=>rw[if_pos rfl,hdr]at hg;rw[if_pos rfl,<- hg];simp
   |false =>
    rw[if_neg (by decide),hdr]at hg
    rw[if_neg (by decide),<- hg]
    have hlt:l[i]<n:=by rcases hc2 with q|q;cases q;exact q
    simp only[mK]
    rw[if_neg (by omega),if_neg (by omega)]
    simp
 .obtain rfl:i=l.length:=by omega
  rw[nR]at hg
  refine T.lT (T.cnd (λhc2=>?_) (λhc2=>?_))<;>simp only[dO,gQ]at hc2<;>subst hc2
  .rw[if_neg (by decide)]at hg
   refine T.grd (by rw[dN,aF];omega) (T.ret ?_)
   rw[<- hg];rfl
  .rw[if_pos rfl,bL]at hg
   exact T.ret (by rw[<- hg])
theorem EU(l:List DS0)(hv:jH l=0):m44 (l,())=some ((doms l).map λd=>[d.1],()):=by
 refine T.eq ?_
 unfold m44
 have hL:=aR l
 have v:=val_ok hv
 refine T.loop (λq=>∃i:Nat,i<=l.length/\q=((i:Int),l,((doms l).take i).map (λd=>[d.1]),())) (λq=>l.length-q.1.toNat) ⟨0,by omega,rfl⟩ ?_
 rintro _ ⟨i,hi,rfl⟩
 dsimp only
 rw[hL]
 refine T.cnd (λhc=>?_) (λhc=>?_)<;>simp only[bD,bq]at hc
 .have hil:i<l.length:=by omega
  refine T.dh (JX l i hil hv) (T.grd ?_ (T.go ⟨i+1,by omega,?_⟩ (by dsimp only;rw[aY (by omega) (by omega)];omega)))
  .rw[dN,bR,bH,aF];omega
  .rw[aY (by omega) (by omega),bU (by rw[qK];exact hil),dP]
   have:=zI l i hil
   rw[getD_eq _ _ _ (by rw[qK];exact hil)]at this
   simp only[dn,List.map_nil,this]
   rfl
 .obtain rfl:i=l.length:=by omega
  refine T.out ?_
  rw[<- qK l,dV]
theorem IB{dm:List DS3}(hd:gX dm):GOk dm (dm.map λd=>[d.1])/\excess (dm.map λd=>[d.1])=0:=by
 refine⟨⟨by simp,λi hi=>?_⟩,?_⟩
 .have:=hd.at hi
  have e1:(dm.map λd=>[d.1]).getD i []=[dm[i].1]:=by rw[getD_eq _ _ _ (by simpa using hi),jY]
  rw[getD_eq _ _ _ hi]at this
  rw[e1,getD_eq _ _ _ hi]
  exact⟨rfl,by simp,λx hx=>by obtain rfl:=bG.1 hx;exact this.1⟩
 .generalize dm=l
  induction l with
  |nil=>rfl
  |cons d l ih=>simp only[dn,excess,ih];rfl
def Ct(dm:List DS3)(g:List (List Int))(i:Nat)(v:Int):List (List Int):=if v<=(dm.getD i zS).1\/(dm.getD i zS).2.1<v then g else g.set i (mK (g.getD i []) v)
theorem Yw(l:List DS0)(hv:jH l=0)(g:List (List Int))(hg:g.length=l.length)(hgl:∀r∈g,r.length<=3000000000)(i:Nat)(hi:i<l.length)(v:Int):m46 (l,()) g (i:Int) v=some (Ct (doms l) g i v,()):=by
 refine T.eq ?_
 unfold m46 Ct
 have vo:=val_ok hv
 rw[zI l i hi]
 refine T.dh (JX l i hi hv) ?_
 dsimp only
 have hG:=aR g
 refine T.cnd (λhc=>?_) (λhc=>?_)<;>simp only[fB,fF,fU,gq,bD,bq]at hc
 .rw[if_pos hc];exact T.ret rfl
 .rw[if_neg (by omega)]
  have e:atI g (i:Int) []=g.getD i []:=by rw[dF]
  have hgi:i<g.length:=by omega
  rw[e,fq,hG,aZ]
  refine T.grd (by rw[dN,bV];omega) (T.grd (by rw[bf];omega) (T.dh (a8j _ _ (by rw[getD_eq _ _ _ hgi];exact hgl _ (aJ hgi))) (T.grd (by rw[bf];omega) (T.grd (by rw[dU];omega) (T.ret rfl)))))
theorem QX:∀(g:List (List Int)) (i:Nat) (r:List Int),i<g.length->r.length<=(g.getD i []).length+1->excess (g.set i r)<=excess g+1:=by
 intro g
 induction g with
 |nil=>intro i r h;cases h
 |cons x g ih =>
  intro i r h hr
  cases i with
  |zero=>simp only[xS,excess];simp at hr;omega
  |succ i=>simp only[List.set_cons_succ,excess];have:=ih i r (by simpa using h) (by simpa using hr);omega
theorem nN{α:Type}(g:List α)(i j:Nat)(r z:α)(h:i<g.length):(g.set i r).getD j z=if i=j then r else g.getD j z:=by
 rw[aQ]
 by_cases e:i=j
 .subst e;rw[aW h,if_pos rfl];rfl
 .rw[aB e,if_neg e,<- aQ]
theorem TW{dm:List DS3}{g:List (List Int)}(hg:GOk dm g){i:Nat}(hi:i<dm.length)(v:Int):GOk dm (Ct dm g i v)/\excess (Ct dm g i v)<=excess g+1:=by
 unfold Ct
 split
 .exact⟨hg,by omega⟩
 .rename_i q
  have hgi:i<g.length:=by rw[hg.1];exact hi
  refine⟨⟨by rw[bK];exact hg.1,λj hj=>?_⟩,QX g i _ hgi (MW _ _).2⟩
  rw[nN g i j _ _ hgi]
  split
  .rename_i e;subst e
   exact Xm (hg.2 i hj) (by omega) (by omega)
  .exact hg.2 j hj
theorem a0D:∀g:List (List Int),bS g<=2^excess g:=by
 intro g
 induction g with
 |nil=>simp[bS,excess]
 |cons r g ih =>
  simp only[bS,excess]
  rw[Nat.pow_add]
  refine gH ?_ ih
  have:∀n:Nat,n<=2^(n-1):=by
   intro n
   induction n with
   |zero=>simp
   |succ n ihn =>
    cases n with
    |zero=>simp
    |succ n =>
     simp only[jd]at ihn ⊢
     rw[Nat.pow_succ];omega
  exact this _
theorem GOk.row{dm:List DS3}{g:List (List Int)}(hg:GOk dm g){i:Nat}(hi:i<g.length):tL (dm.getD i zS).1 (dm.getD i zS).2.1 g[i]:=by
 have:=hg.2 i (by rw[<- hg.1];exact hi)
 rwa [getD_eq _ _ _ hi]at this
theorem tL.pos{lo hi:Int}{r:List Int}(h:tL lo hi r):1<=r.length:=by
 cases r with
 |nil=>cases h.1
 |cons x xs=>simp
theorem Q8:∀(g:List (List Int)),∀r∈g,r.length<=excess g+1:=by
 intro g
 induction g with
 |nil=>intro r h;cases h
 |cons x g ih =>
  intro r h
  simp only[excess]
  rcases bT.1 h with rfl|q
  .omega
  .have:=ih r q;omega
theorem sS(g:List (List Int))(i:Nat)(h:i<g.length):bS (g.drop i)=g[i].length*bS (g.drop (i+1)):=by
 rw[jc h];rfl
theorem OW(g:List (List Int))(hl:g.length<=6)(hp:∀r∈g,1<=r.length)(hc:bS g<=8192):m47 g=some ((bS g:Int),()):=by
 refine T.eq ?_
 unfold m47
 have hG:=aR g
 have pd:∀g':List (List Int),(∀r∈g',1<=r.length)->1<=bS g':=by
  intro g'
  induction g' with
  |nil=>intro _;simp[bS]
  |cons r g' ih=>intro h;simp only[bS];exact gH (h r (by simp)) (ih λx hx=>h x (by simp[hx]))
 refine T.loop (λq=>∃(i n:Nat),i<=g.length/\n*bS (g.drop i)=bS g/\q=(g,(n:Int),(i:Int),())) (λq=>g.length-q.2.2.1.toNat) ⟨0,1,by omega,by simp,rfl⟩ ?_
 rintro _ ⟨i,n,hi,hn,rfl⟩
 dsimp only
 rw[hG,dF]
 refine T.cnd (λhc2=>?_) (λhc2=>?_)<;>simp only[bD,bq]at hc2
 .have hil:i<g.length:=by omega
  rw[getD_eq _ _ _ hil,aR]
  rw[sS g i hil,<- yC]at hn
  have h1:1<=bS (g.drop (i+1)):=pd _ λr hr=>hp r (l6 hr)
  have h2:n*g[i].length<=8192:=by
   have:n*g[i].length*1<=n*g[i].length*bS (g.drop (i+1)):=gH (bF _) h1
   omega
  have e:((n:Int)*(g[i].length:Int))=((n*g[i].length:Nat):Int):=by push_cast;rfl
  refine T.grd (by rw[bf];omega) (T.go ⟨i+1,n*g[i].length,by omega,hn,?_⟩ (by dsimp only;rw[aY (by omega) (by omega)];omega))
  rw[aY (by omega) (by omega),jC (by omega) (by omega),e]
  unfold pW
  rw[Ap (by omega)]
  rfl
 .obtain rfl:i=g.length:=by omega
  refine T.out ?_
  rw[nR]at hn
  simp only[bS,lJ]at hn
  rw[hn]
def kM(dm:List DS3)(lo:Int)(ns:List DS1):Prop:=iC dm ns/\(∀i,i<ns.length->∀k,k<i->ns.getD k zN≠ns.getD i zN)/\∀x∈ns,∀c∈x.2.2.1,lo<=c
def Rf(ns:List DS1)(lo:Int)(i:Nat)(r:Int):Prop:=lo<=r/\r<(ns.length:Int)/\(0<=r->(i:Int)<=(ns.getD r.toNat zN).1)
theorem iK{α:Type}(a b:List α)(z:α){i:Nat}(h:i<a.length):(a++b).getD i z=a.getD i z:=by
 rw[aQ,aH h,<- aQ]
theorem Rf.app{ns:List DS1}{lo:Int}{i:Nat}{r:Int}(h:Rf ns lo i r)(t:List DS1):Rf (ns++t) lo i r:=by
 obtain⟨h1,h2,h3⟩:=h
 refine⟨h1,by rw[ak];omega,λq=>?_⟩
 rw[iK _ _ _ (by omega)];exact h3 q
theorem Rf.weak{ns:List DS1}{lo:Int}{i j:Nat}{r:Int}(h:Rf ns lo i r)(hj:j<=i):Rf ns lo j r:=⟨h.1,h.2.1,λq=>by have:=h.2.2 q;omega⟩
theorem mX.app{dm:List DS3}{ns:List DS1}{x:DS1}(h:mX dm ns x)(t:List DS1):mX dm (ns++t) x:=by
 obtain⟨h1,h2,h3,h4,h5,h6⟩:=h
 refine⟨h1,h2,h3,h4,h5,λk hk=>?_⟩
 obtain⟨a,b,c⟩:=h6 k hk
 refine⟨⟨a.1,by rw[ak];have:=a.2;omega⟩,b,λq=>?_⟩
 rw[iK _ _ _ (by have:=a.2;omega)];exact c q
theorem kM.nil(dm:List DS3)(lo:Int):kM dm lo []:=⟨λi hi=>(by cases hi),λi hi=>(by cases hi),λx hx=>(by cases hx)⟩
theorem kM.snoc{dm:List DS3}{lo:Int}{ns:List DS1}(h:kM dm lo ns){x:DS1}(hs:mX dm (ns++[x]) x)(hx:∀c∈x.2.2.1,lo<=c)(hn:∀k,k<ns.length->ns.getD k zN≠x):kM dm lo (ns++[x]):=by
 obtain⟨h1,h2,h3⟩:=h
 have el:(ns++[x]).getD ns.length zN=x:=by rw[aQ,aK (bF _)];simp
 refine⟨λi hi=>?_,λi hi k hk=>?_,λy hy=>?_⟩
 .rw[ak,aF]at hi
  rcases aM i ns.length with q|q
  .rw[iK _ _ _ q];exact(h1 i q).app _
  .obtain rfl:i=ns.length:=by omega
   rw[el];exact hs
 .rw[ak,aF]at hi
  rcases aM i ns.length with q|q
  .rw[iK _ _ _ q,iK _ _ _ (by omega)];exact h2 i q k hk
  .obtain rfl:i=ns.length:=by omega
   rw[el,iK _ _ _ hk];exact hn k hk
 .rcases aV.1 hy with q|q
  .exact h3 y q
  .obtain rfl:=bG.1 q;exact hx
theorem Df{lo hi:Int}{r:List Int}(h:tL lo hi r):∀k,0<k->k<r.length->lo<r.getD k 0/\r.getD k 0<=hi/\r.getD (k-1) 0<r.getD k 0:=by
 intro k h0 hk
 obtain⟨a,b,c⟩:=h
 have hp:=j5.1 b
 rw[getD_eq _ _ _ hk,getD_eq _ _ _ (by omega)]
 have e0:r[0]'(by omega)=lo:=by
  cases r with
  |nil=>cases a
  |cons x xs=>exact aI a
 refine⟨?_,c _ (aJ hk),hp (k-1) k (by omega) hk (by omega)⟩
 have:=hp 0 k (by omega) hk h0
 omega
theorem KM{lo hi:Int}{r:List Int}(h:tL lo hi r):r.getD 0 0=lo/\∀k,k<r.length->lo<=r.getD k 0:=by
 have e0:r.getD 0 0=lo:=by
  cases r with
  |nil=>cases h.1
  |cons x xs=>exact aI h.1
 refine⟨e0,λk hk=>?_⟩
 rcases eO k with rfl|q
 .omega
 .have:=(Df h k q hk).1;omega
theorem mg{α:Type}(a:List α)(x z:α):(a++[x]).getD a.length z=x:=by rw[aQ,aK (bF _)];simp
theorem SN {dm:List DS3} {lo:Int} (hd:gX dm) (hlo:-256<=lo) (hlo0:lo<=0) {i:Nat} (hi:i < dm.length) {cuts next:List Int} {ns:List DS1} (hr:tL (dm.getD i zS).1 (dm.getD i zS).2.1 cuts) (hl:next.length=cuts.length) (hcl:cuts.length<=1000000)
  (hnx:∀c∈next,Rf ns lo (i+1) c) (hN:kM dm lo ns) (hn:ns.length<=1000000) (gg:List (List Int)) (vv:List Int) :
  T (yL (i:Int) cuts gg vv next ns) (λy=>∃t,y=(y.1,gg,vv,next,ns++t,())/\kM dm lo (ns++t)/\Rf (ns++t) lo i y.1/\t.length<=1/\(next.length=1->t=[])):=by
 have hp:=hr.pos
 unfold yL
 have hX:=aR next
 refine T.grd (by rw[bf];omega) (T.grd (by rw[dU];simp;omega) ?_)
 have e0:next.getD (Int.toNat 0) 0=next[0]'(by omega):=getD_eq next 0 0 (by omega)
 rw[e0]
 refine T.loop (λq=>∃(k:Nat) (c n:List Int),1<=k/\k<=next.length/\n.length=c.length+1/\c.length+1<=k/\(∀j,j<c.length->(dm.getD i zS).1<c.getD j 0/\c.getD j 0<=(dm.getD i zS).2.1/\(0<j->c.getD (j-1) 0<c.getD j 0))/\(∀x∈c,x<=cuts.getD (k-1) 0)/\
  (∀x∈n,Rf ns lo (i+1) x)/\(∀j,j<n.length->0<j->n.getD j 0≠n.getD (j-1) 0)/\q=((i:Int),cuts,(k:Int),gg,vv,next,ns,c,n,())) (λq=>next.length-q.2.2.1.toNat)
  ⟨1,[],[next[0]'(by omega)],by omega,by omega,rfl,by simp,λj hj=>(by cases hj),λx hx=>(by cases hx),λx hx=>(by obtain rfl:=bG.1 hx;exact hnx _ (aJ _)),λj hj q=>(by simp at hj;omega),rfl⟩ ?_
 rintro _ ⟨k,c,n,hk1,hk,hnl,hck,hc,hcx,hnr,hna,rfl⟩
 dsimp only
 have hCl:=aR n
 have hCu:=aR cuts
 rw[hX,hCl,hCu]
 refine T.cnd (λhc1=>?_) (λhc1=>?_)<;>simp only[bD,bq]at hc1
 .have hkl:k<next.length:=by omega
  have en1:fV .i64 (n.length:Int) 1=((n.length-1:Nat):Int):=by rw[eF (by omega) (by omega)];omega
  rw[en1,aZ,aZ,dF]
  refine T.grd (by rw[bf];omega) (T.grd (by rw[dU];omega) (T.grd (by rw[bf];omega) (T.grd (by rw[dU];omega) (T.cnd (λhc2=>?_) (λhc2=>?_)))))<;>simp only[fZ,gT]at hc2
  .refine T.grd (by rw[bf];omega) (T.grd (by rw[dN,aF];omega) (T.grd (by rw[bf];omega) (T.grd (by rw[dU];omega) (T.grd (by rw[dN,aF];omega) ?_))))
   have hrk:=Df hr k (by omega) (by omega)
   refine T.go ⟨k+1,c++[cuts.getD k 0],n++[next.getD k 0],by omega,by omega,by rw[ak,ak,aF,aF];omega,by rw[ak,aF];omega,λj hj=>?_,λx hx=>?_,λx hx=>?_,λj hj hj0=>?_,by rw[aY (by omega) (by omega)];rfl⟩ (by dsimp only;rw[aY (by omega) (by omega)];omega)
   .rw[ak,aF]at hj
    rcases aM j c.length with q|q
    .rw[iK _ _ _ q]
     have:=hc j q
     refine⟨this.1,this.2.1,λq0=>?_⟩
     rw[iK _ _ _ (by omega)];exact this.2.2 q0
    .obtain rfl:j=c.length:=by omega
     rw[mg]
     refine⟨hrk.1,hrk.2.1,λq0=>?_⟩
     rw[iK _ _ _ (by omega),getD_eq c _ _ (by omega)]
     have:=hcx _ (aJ (show c.length-1<c.length by omega))
     omega
   .rw[jd]
    rcases aV.1 hx with q|q
    .have:=hcx x q;omega
    .obtain rfl:=bG.1 q;omega
   .rcases aV.1 hx with q|q
    .exact hnr x q
    .obtain rfl:=bG.1 q
     rw[getD_eq _ _ _ hkl];exact hnx _ (aJ hkl)
   .rw[ak,aF]at hj
    rcases aM j n.length with q|q
    .rw[iK _ _ _ q,iK _ _ _ (by omega)];exact hna j q hj0
    .obtain rfl:j=n.length:=by omega
     rw[mg,iK _ _ _ (by omega)];exact hc2
  .have hrk:=Df hr k (by omega) (by omega)
   refine T.go ⟨k+1,c,n,by omega,by omega,hnl,by omega,hc,λx hx=>?_,hnr,hna,by rw[aY (by omega) (by omega)];rfl⟩ (by dsimp only;rw[aY (by omega) (by omega)];omega)
   rw[jd]
   have:=hcx x hx;omega
 .obtain rfl:k=next.length:=by omega
  refine T.lT (T.cnd (λhc2=>?_) (λhc2=>?_))<;>simp only[dD,dG]at hc2
  .refine T.grd (by rw[bf];omega) (T.grd (by rw[dU];simp;omega) (T.ret ⟨[],by rw[bL],by rw[bL];exact hN,?_,by simp,λ_=>rfl⟩))
   have en:n.getD (Int.toNat 0) 0=n[0]'(by omega):=getD_eq n 0 0 (by omega)
   rw[bL]
   show Rf ns lo i (n.getD (Int.toNat 0) 0)
   rw[en]
   exact(hnr _ (aJ _)).weak (by omega)
  have hNs:=aR ns
  refine T.loop (λq=>∃j:Nat,j<=ns.length/\(∀j',j'<j->ns.getD j' zN≠((i:Int),c,n,()))/\q=((i:Int),(j:Int),gg,vv,next,ns,c,n,())) (λq=>ns.length-q.2.1.toNat) ⟨0,by omega,λj hj=>by omega,rfl⟩ ?_
  rintro _ ⟨j,hj,hjn,rfl⟩
  dsimp only
  rw[hNs,aZ]
  refine T.cnd (λhc3=>?_) (λhc3=>?_)<;>simp only[bD,bq]at hc3
  .have hjl:j<ns.length:=by omega
   have hsj:=(hN.1 j hjl).len hd
   have Ce:ns.getD j zN ≠ ((i:Int),c,n,())->T (some (Sum.inl (β:=Int × (List (List Int)) × (List Int) × (List Int) × (List DS1) × Unit) ((i:Int),bX .i64 (j:Int) 1,gg,vv,next,ns,c,n,()))) (LQ (fun q=>∃ j:Nat,j<=ns.length/\(∀ j',j' < j->ns.getD j' zN ≠ ((i:Int),c,n,()))/\q=((i:Int),(j:Int),gg,vv,next,ns,c,n,())) (fun q=>ns.length - q.2.1.toNat) (ns.length - (j:Int).toNat)
     (λy=>∃t,y=(y.1,gg,vv,next,ns++t,())/\kM dm lo (ns++t)/\Rf (ns++t) lo i y.1/\t.length<=1/\(next.length=1->t=[]))):=λhx=>by
    refine T.go ⟨j+1,by omega,λj' hj'=>?_,by rw[aY (by omega) (by omega)];rfl⟩ (by dsimp only;rw[aY (by omega) (by omega)];omega)
    rcases aM j' j with q|q
    .exact hjn j' q
    .obtain rfl:j'=j:=by omega
     exact hx
   have ez:ns.getD j (0,[],[],())=ns.getD j zN:=rfl
   rw[ez]
   refine T.grd (by rw[bf];omega) (T.grd (by rw[dU];omega) (T.cnd (λhc4=>?_) (λhc4=>?_)))<;>simp only[dD,dG]at hc4
   .refine T.dh (xG _ _ (by omega)) ?_
    dsimp only
    refine T.cnd (λhc5=>?_) (λhc5=>?_)<;>simp only[dH,fJ]at hc5
    .refine T.dh (xG _ _ (by omega)) ?_
     dsimp only
     refine T.cnd (λhc6=>?_) (λhc6=>?_)<;>simp only[dH,fJ]at hc6
     .refine T.out ⟨[],by rw[bL],by rw[bL];exact hN,?_,by simp,λ_=>rfl⟩
      rw[bL]
      exact⟨by show lo<=(j:Int);omega,by show(j:Int)<_;omega,λ_=>by show(i:Int)<=(ns.getD (j:Int).toNat zN).1;rw[aZ,hc4];omega⟩
     .exact Ce λe=>hc6 (by rw[e])
    .exact Ce λe=>hc5 (by rw[e])
   .exact Ce λe=>hc4 (by rw[e])
  .obtain rfl:j=ns.length:=by omega
   refine T.lT (T.grd (by rw[dN,aF];omega) (T.ret ⟨[((i:Int),c,n,())],?_,hN.snoc ?_ ?_ hjn,?_,by simp,λq=>?_⟩))
   .have e1:fV .i64 (ay (ns++[((i:Int),c,n,())])) 1=(ns.length:Int):=by rw[aR,ak,aF,eF (by omega) (by omega)];omega
    rw[e1]
   .refine⟨by show(0:Int)<=i;omega,by show(i:Int)<_;omega,by show 0<c.length;omega,hnl,λk hk=>?_,λk hk=>?_⟩
    .have:=hc k hk
     show(dm.getD (i:Int).toNat zS).1<_/\_<=(dm.getD (i:Int).toNat zS).2.1/\_
     rw[aZ];exact this
    .have hk':k<n.length:=hk
     have hm:=hnr (n.getD k 0) (by rw[getD_eq _ _ _ hk'];exact aJ hk')
     refine⟨⟨by show -256<=n.getD k 0;have:=hm.1;omega,(hm.app _).2.1⟩,λq=>hna k hk' q,λq=>?_⟩
     have:=(hm.app [((i:Int),c,n,())]).2.2 q
     show(i:Int)<((ns++[((i:Int),c,n,())]).getD (n.getD k 0).toNat zN).1
     omega
   .intro x hx
    exact(hnr x hx).1
   .have e1:fV .i64 (ay (ns++[((i:Int),c,n,())])) 1=(ns.length:Int):=by rw[aR,ak,aF,eF (by omega) (by omega)];omega
    show Rf _ lo i (fV .i64 (ay (ns++[((i:Int),c,n,())])) 1)
    rw[e1]
    refine⟨by omega,by rw[ak,aF];omega,λ_=>?_⟩
    rw[aZ,mg]
    exact nV _
   .omega
theorem Od(x:Int×Int×Int×(List (List Int))×(List Int)×(List DS1)×Unit):Mo λs=>Fb s x.1 x.2.1 x.2.2.1 x.2.2.2.1 x.2.2.2.2.1 x.2.2.2.2.2.1:=by
 unfold Fb;(repeat' (first|exact Mo.const _|exact Mo.self _|apply Mo.bind|apply Mo.cond|apply Mo.map|apply Mo.join|apply Mo.loop|(intro _)))
theorem a1L {dm:List DS3} {lo:Int} (hd:gX dm) (hlo:-256<=lo) (hlo0:lo<=0) {g:List (List Int)} (hg:GOk dm g) (hgl:∀ r ∈ g,r.length<=1000000) (hP:bS g<=1000000) {v:List Int} (hv:∀ x ∈ v,0<=x/\lo<=-1 - x) (hvl:v.length<=1000000) (i at_:Nat) (ns:List DS1) (hi:i<=g.length) (hat:at_ + bS (g.drop i)<=v.length) (hN:kM dm lo ns) (hns:ns.length + bS (g.drop i)<=1000000) :
  T (m80 (i:Int) (at_:Int) (bS (g.drop i):Int) g v ns) (λy=>∃t,y=(y.1,g,v,ns++t,())/\kM dm lo (ns++t)/\Rf (ns++t) lo i y.1/\t.length+1<=bS (g.drop i)):=by
 unfold m80
 refine Cu (ι:=Nat×Nat×List DS1) Od (λq=>((q.1:Int),(q.2.1:Int),(bS (g.drop q.1):Int),g,v,q.2.2,())) (λq=>q.1<=g.length/\q.2.1+bS (g.drop q.1)<=v.length/\kM dm lo q.2.2/\q.2.2.length+bS (g.drop q.1)<=1000000)
  (λq y=>∃t,y=(y.1,g,v,q.2.2++t,())/\kM dm lo (q.2.2++t)/\Rf (q.2.2++t) lo q.1 y.1/\t.length+1<=bS (g.drop q.1)) (λq=>g.length-q.1) ?_ (i,at_,ns) ⟨hi,hat,hN,hns⟩
 rintro⟨i,at_,ns⟩ ⟨hi,hat,hN,hns⟩ s ih
 dsimp only at hi hat hN hns ih ⊢
 unfold Fb
 have hG:=aR g
 have hV:=aR v
 have hd2:=hd.2.1
 have hgd:=hg.1
 rw[hG,hV]
 refine T.cnd (λhc=>?_) (λhc=>?_)<;>simp only[dD,dG]at hc
 .obtain rfl:i=g.length:=by omega
  rw[nR]at hat ⊢
  simp only[bS]at hat ⊢
  have hal:at_<v.length:=by omega
  rw[dF,getD_eq _ _ _ hal]
  have hx:=hv _ (aJ hal)
  refine T.grd (by rw[bf];omega) (T.ret ⟨[],by rw[bL],by rw[bL];exact hN,?_,by simp⟩)
  rw[bL,eF (by omega) (by omega)]
  exact⟨hx.2,by show -1-v[at_]<_;omega,λq=>absurd q (by show ¬0<=-1-v[at_];omega)⟩
 have hil:i<g.length:=by omega
 have hrow:=hg.row hil
 have hrp:=hrow.pos
 have hpd:=sS g i hil
 have Cw:rM .i64 (bS (g.drop i):Int) (g[i].length:Int)=(bS (g.drop (i+1)):Int):=by
  unfold rM
  rw[hpd,jy (by omega)]
  have:((g[i].length*bS (g.drop (i+1)):Nat):Int)/(g[i].length:Int)=(bS (g.drop (i+1)):Int):=by
   rw[<- rQ,qd _ (by omega)]
  rw[this]
  have h1:bS (g.drop (i+1))<=bS (g.drop i):=by
   rw[hpd]
   have:1*bS (g.drop (i+1))<=g[i].length*bS (g.drop (i+1)):=gH hrp (bF _)
   omega
  rw[wrap64]<;>omega
 have hgi:=hgl _ (aJ hil)
 have hR:=aR g[i]
 rw[dF,getD_eq _ _ _ hil,hR,Cw]
 generalize hpt:bS (g.drop (i+1))=part at hpd
 refine T.grd (by rw[bf];omega) (T.grd (by rw[fZ];omega) ?_)
 refine T.loop (λq=>∃(k:Nat) (t:List DS1) (nx:List Int),k<=g[i].length/\nx.length=k/\kM dm lo (ns++t)/\(∀c∈nx,Rf (ns++t) lo (i+1) c)/\t.length+k<=k*part/\q=((i:Int),(at_:Int),(part:Int),(k:Int),g,v,ns++t,nx,())) (λq=>g[i].length-q.2.2.2.1.toNat) ⟨0,[],[],by omega,rfl,by rw[bL];exact hN,λc hc=>(by cases hc),by simp,by rw[bL];rfl⟩ ?_
 rintro _ ⟨k,t,nx,hk,hnx,hNt,hrf,htl,rfl⟩
 dsimp only
 rw[hG,dF,getD_eq _ _ _ hil,hR]
 refine T.grd (by rw[bf];omega) (T.cnd (λhc2=>?_) (λhc2=>?_))<;>simp only[bD,bq]at hc2
 .have hkl:k<g[i].length:=by omega
  have hkp:(k+1)*part<=g[i].length*part:=gH hkl (bF _)
  rw[bY,fH]at hkp
  have e1:bX .i64 (i:Int) 1=((i+1:Nat):Int):=by rw[aY (by omega) (by omega)];omega
  have ekp:(k:Int)*(part:Int)=((k*part:Nat):Int):=by push_cast;rfl
  have e2:bX .i64 (at_:Int) (AQ .i64 (k:Int) (part:Int))=((at_+k*part:Nat):Int):=by
   rw[jC (by omega) (by omega),ekp,aY (by omega) (by omega)];omega
  rw[e1,e2]
  have hcall:=ih (i+1,at_+k*part,ns++t) ⟨by omega,by dsimp only;rw[hpt];omega,hNt,by dsimp only;rw[hpt,ak];omega⟩ (by dsimp only;omega)
  dsimp only at hcall
  rw[hpt]at hcall
  refine T.call hcall ?_
  rintro⟨r,q1,q2,q3,⟨⟩⟩ ⟨t2,heq,hN2,hr2,ht2⟩
  obtain⟨rfl,rfl,rfl⟩:g=q1/\v=q2/\ns++t++t2=q3:=by
   simp only[jw]at heq
   exact⟨heq.2.1.symm,heq.2.2.1.symm,heq.2.2.2.1.symm⟩
  dsimp only at hr2 ⊢
  rw[aX]at hN2 hr2
  rw[aX]
  refine T.grd (by rw[dN,aF];omega) (T.go ⟨k+1,t++t2,nx++[r],by omega,by rw[ak,aF,hnx],hN2,λc hc=>?_,?_,by rw[aY (by omega) (by omega)];rfl⟩ (by dsimp only;rw[aY (by omega) (by omega)];omega))
  .rcases aV.1 hc with q|q
   .have:=(hrf c q).app t2
    rwa [aX]at this
   .obtain rfl:=bG.1 q;exact hr2
  .rw[ak,bY,fH];omega
 .obtain rfl:k=g[i].length:=by omega
  refine T.lT (T.grd (by rw[bf];omega) (T.call (SN hd hlo hlo0 (by omega) (cuts:=g[i]) (next:=nx) (ns:=ns++t) hrow (by omega) hgi hrf hNt (by rw[ak];omega) g v) ?_))
  rintro⟨r,q1,q2,q3,q4,⟨⟩⟩ ⟨t2,heq,hN2,hr2,ht2,ht3⟩
  obtain⟨rfl,rfl,rfl,rfl⟩:g=q1/\v=q2/\nx=q3/\ns++t++t2=q4:=by
   simp only[jw]at heq
   exact⟨heq.2.1.symm,heq.2.2.1.symm,heq.2.2.2.1.symm,heq.2.2.2.2.1.symm⟩
  dsimp only at hr2 ⊢
  rw[aX]at hN2 hr2
  rw[aX]
  refine T.grd (by rw[iB];exact⟨iX _,rfl⟩) (T.ret ⟨t++t2,rfl,hN2,hr2,?_⟩)
  rw[ak,hpd]
  have hlx:g[i].length=nx.length:=hnx.symm
  rw[hlx]at htl ⊢
  rw[hlx]at hrp
  by_cases h1:nx.length=1
  .rw[ht3 h1,bV];omega
  .omega
section
variable{ns:List DS1}{rk:Nat->Nat}
theorem uo(hR:rA ns rk):∀(m f:Nat) (c:Int) (o:List Nat),rkI rk c<=m->m<=f->c<(ns.length:Int)->jQ ns.length o->(0<=c->c.toNat∈cK ns f o c)/\∀r∈cK ns f o c,r∉o->∀k∈kids ns r,0<=k->k.toNat∈cK ns f o c:=by
 intro m
 induction m with
 |zero =>
  intro f c o h _ hc ho
  have hneg:c<0:=by unfold rkI at h;split at h;assumption;omega
  rw[lS f o hneg]
  exact⟨λq=>by omega,λr hr hn=>absurd hr hn⟩
 |succ m ih =>
  intro f c o h hf hc ho
  rcases eZ c 0 with q|q
  .rw[lS f o q]
   exact⟨λq=>by omega,λr hr hn=>absurd hr hn⟩
  by_cases hm:c.toNat∈o
  .rw[rW f o hm]
   exact⟨λ_=>hm,λr hr hn=>absurd hr hn⟩
  obtain⟨g,rfl⟩:∃g,f=g+1:=⟨f-1,by omega⟩
  unfold rkI at h
  rw[if_neg (by omega)]at h
  have hk:=(hR c.toNat (by omega)).2
  have e:cK ns (g+1) o c=(kids ns c.toNat).foldl (cK ns g) (o++[c.toNat]):=by
   simp only[cK]
   rw[if_neg (by rintro(r|r);omega;exact hm r)]
  rw[e]
  have key:∀(cs:List Int),(∀x∈cs,x∈kids ns c.toNat)->∀o',jQ ns.length o'->(∀x∈cs,0<=x->x.toNat∈cs.foldl (cK ns g) o')/\∀r∈cs.foldl (cK ns g) o',r∉o'->∀k∈kids ns r,0<=k->k.toNat∈cs.foldl (cK ns g) o':=by
   intro cs
   induction cs with
   |nil=>intro _ o' _;exact⟨λx hx=>(by cases hx),λr hr hn=>absurd hr hn⟩
   |cons x cs ih2 =>
    intro hx o' ho'
    obtain⟨k1,k2⟩:=hk x (hx x (by simp))
    have hrx:rkI rk x<=m:=by unfold rkI;split;omega;rename_i q2;have:=k2 (by omega);omega
    obtain⟨a1,a2⟩:=ih g x o' hrx (by omega) k1 ho'
    obtain⟨ho2,t1,e1⟩:=pq hR g x o' k1 ho'
    obtain⟨b1,b2⟩:=ih2 (λy hy=>hx y (by simp[hy])) _ ho2
    obtain⟨_,t2,e2⟩:=Er hR g cs (λy hy=>(hk y (hx y (by simp[hy]))).1) _ ho2
    rw[d9]
    have up:∀z,z∈cK ns g o' x->z∈cs.foldl (cK ns g) (cK ns g o' x):=λz hz=>by rw[e2];exact List.mem_append_left _ hz
    refine⟨λy hy h0=>?_,λr hr hn k hk' h0=>?_⟩
    .rcases bT.1 hy with rfl|hy
     .exact up _ (a1 h0)
     .exact b1 y hy h0
    .by_cases hin:r∈cK ns g o' x
     .exact up _ (a2 r hin hn k hk' h0)
     .exact b2 r hr hin k hk' h0
  have hso:=ho.snoc (show c.toNat<ns.length by omega) hm
  obtain⟨c1,c2⟩:=key (kids ns c.toNat) (λ_ q=>q) _ hso
  obtain⟨_,t,e2⟩:=Er hR g (kids ns c.toNat) (λy hy=>(hk y hy).1) _ hso
  refine⟨λ_=>?_,λr hr hn k hk' h0=>?_⟩
  .rw[e2];simp
  .by_cases hin:r∈o++[c.toNat]
   .rcases aV.1 hin with q2|q2
    .exact absurd q2 hn
    .obtain rfl:=bG.1 q2
     exact c1 k hk' h0
   .exact c2 r hr hin k hk' h0
end
theorem mV(ns:List DS1)(O:List Nat):(lF ns O).length=O.length:=by simp[lF]
theorem NP(ns:List DS1)(O:List Nat){r:Nat}(h:r∈O):(lF ns O).getD (O.idxOf r) zN=imN ns O r:=by
 have hl:=iP h
 rw[getD_eq _ _ _ (by rw[mV];exact hl)]
 simp only[lF,jY,og]
theorem F5{O:List Nat}{c:Int}:dR O c<0↔c<0:=by unfold dR;split<;>omega
theorem Ov{O:List Nat}{a b:Nat}(ha:a∈O)(hb:b∈O)(h:O.idxOf a=O.idxOf b):a=b:=by
 have h1:=og (iP ha)
 have h2:=og (iP hb)
 simp only[h]at h1
 rw[<- h1,h2]
theorem KS{O:List Nat}{a b:Int}(ha:0<=a->a.toNat∈O)(hb:0<=b->b.toNat∈O)(h:dR O a=dR O b):a=b:=by
 unfold dR at h
 split at h<;>split at h
 .exact h
 .omega
 .omega
 .have:=Ov (ha (by omega)) (hb (by omega)) (by omega)
  omega
theorem Wd (ns:List DS1) (O:List Nat) (hcl:∀ r ∈ O,∀ k ∈ kids ns r,0<=k->k.toNat ∈ O):∀ (f:Nat) (c:Int) (o:List Nat),(0<=c->c.toNat ∈ O)->(∀ x ∈ o,x ∈ O) ->
  cK (lF ns O) f (o.map O.idxOf) (dR O c)=(cK ns f o c).map O.idxOf/\∀x∈cK ns f o c,x∈O:=by
 intro f
 induction f with
 |zero=>intro c o _ ho;exact⟨rfl,ho⟩
 |succ f ih =>
  intro c o hc ho
  rcases eZ c 0 with q|q
  .rw[lS _ _ q,lS _ _ (F5.2 q)];exact⟨rfl,ho⟩
  have e:(dR O c).toNat=O.idxOf c.toNat:=by unfold dR;rw[if_neg (by omega)];rfl
  by_cases hm:c.toNat∈o
  .rw[rW _ _ hm,rW _ _ (by rw[e];exact List.mem_map_of_mem hm)];exact⟨rfl,ho⟩
  have hcO:=hc q
  have hnm:(dR O c).toNat∉o.map O.idxOf:=λh=>by
   rw[e]at h
   obtain⟨x,hx,hxe⟩:=dW.1 h
   have:=Ov (ho x hx) hcO hxe
   exact hm (this▸hx)
  have e1:cK ns (f+1) o c=(kids ns c.toNat).foldl (cK ns f) (o++[c.toNat]):=by
   simp only[cK];rw[if_neg (by rintro(r|r);omega;exact hm r)]
  have e2:cK (lF ns O) (f+1) (o.map O.idxOf) (dR O c)=(kids (lF ns O) (dR O c).toNat).foldl (cK (lF ns O) f) (o.map O.idxOf++[(dR O c).toNat]):=by
   simp only[cK];rw[if_neg (by rintro(r|r);exact absurd (F5.1 r) (by omega);exact hnm r)]
  rw[e1,e2,e]
  have e3:kids (lF ns O) (O.idxOf c.toNat)=(kids ns c.toNat).map (dR O):=by
   unfold kids
   rw[NP ns O hcO];rfl
  have e4:o.map O.idxOf++[O.idxOf c.toNat]=(o++[c.toNat]).map O.idxOf:=by simp
  rw[e3,e4,List.foldl_map]
  have key:∀(cs:List Int),(∀x∈cs,x∈kids ns c.toNat)->∀o',(∀x∈o',x∈O)->cs.foldl (λx y=>cK (lF ns O) f x (dR O y)) (o'.map O.idxOf)=(cs.foldl (cK ns f) o').map O.idxOf/\∀x∈cs.foldl (cK ns f) o',x∈O:=by
   intro cs
   induction cs with
   |nil=>intro _ o' ho';exact⟨rfl,ho'⟩
   |cons x cs ih2 =>
    intro hx o' ho'
    obtain⟨a1,a2⟩:=ih x o' (λh0=>hcl c.toNat hcO x (hx x (by simp)) h0) ho'
    rw[d9,d9,a1]
    exact ih2 (λy hy=>hx y (by simp[hy])) _ a2
  exact key (kids ns c.toNat) (λ_ h=>h) _ (λx hx=>by
   rcases aV.1 hx with r|r
   .exact ho x r
   .obtain rfl:=bG.1 r;exact hcO)
theorem a08{O:List Nat}(h:O.Nodup):O.map O.idxOf=List.range O.length:=by
 apply gB (by simp)
 intro i h1 h2
 rw[jY,tC,h.idxOf_getElem]
theorem Sn {dm:List DS3} {lo:Int} {ns:List DS1} {root:Int} (hd:gX dm) (hN:kM dm lo ns) (hlo:-256<=lo) (hlo0:lo<=0) (hroot:root < (ns.length:Int)) (hrl:lo<=root) (hlen:ns.length<=1000) :
  VD dm (lF ns (cK ns 8 [] root)) (dR (cK ns 8 [] root) root)/\(∀x∈lF ns (cK ns 8 [] root),∀c∈x.2.2.1,lo<=c)/\lo<=dR (cK ns 8 [] root) root:=by
 obtain⟨hs,hdi,hlw⟩:=hN
 obtain⟨hR,hF⟩:=lY hd hs
 have h0:jQ ns.length []:=⟨kC,λx hx=>by cases hx⟩
 have hO:=(pq hR 8 root [] hroot h0).1
 have hr8:rkI (rkA ns) root<=8:=by
  unfold rkI
  split
  .omega
  .exact hF _ (by omega)
 obtain⟨hcr,hcl0⟩:=uo hR 8 8 root [] hr8 (bF _) hroot h0
 have a6F:=Wd ns (cK ns 8 [] root)
 generalize hOe:cK ns 8 [] root=O at *
 have hcl:∀r∈O,∀k∈kids ns r,0<=k->k.toNat∈O:=λr hr=>hcl0 r hr (λq=>by cases q)
 have a4a:=(a6F hcl 8 root [] hcr (λx hx=>by cases hx)).1
 rw[hOe,a08 hO.1]at a4a
 have hOl:=hO.len
 have QI:∀c:Int,lo<=c->lo<=dR O c:=λc h=>by unfold dR;split;exact h;omega
 have a4g:∀c:Int,(0<=c->c.toNat∈O)->dR O c<(O.length:Int):=λc h=>by
  unfold dR
  split
  .omega
  .have:=iP (h (by omega));omega
 have at_:∀j (hj:j<O.length),(lF ns O).getD j zN=imN ns O O[j]:=λj hj=>by
  rw[getD_eq _ _ _ (by rw[mV];exact hj)];simp[lF]
 have kl:∀r,r<ns.length->∀c∈kids ns r,lo<=c:=λr hr c hc=>hlw (ns.getD r zN) (by rw[getD_eq _ _ _ hr];exact aJ hr) c hc
 refine⟨⟨by rw[mV];omega,⟨by have:=QI root hrl;omega,by rw[mV];exact a4g root hcr⟩,λi hi=>?_,λi hi k hk=>?_,by rw[mV];exact a4a⟩,λx hx c hc=>?_,QI root hrl⟩
 .rw[mV]at hi
  rw[at_ i hi]
  have hrm:=aJ hi
  have hrn:=hO.2 _ hrm
  generalize O[i]=r at hrm hrn
  obtain⟨s1,s2,s3,s4,s5,s6⟩:=hs r hrn
  have s6':∀k,k<(kids ns r).length->jm ns.length ((kids ns r).getD k 0)/\(0<k->(kids ns r).getD k 0≠(kids ns r).getD (k-1) 0)/\(0<=(kids ns r).getD k 0->(ns.getD r zN).1<(ns.getD ((kids ns r).getD k 0).toNat zN).1):=s6
  have eg:∀k,k<(kids ns r).length->((kids ns r).map (dR O)).getD k 0=dR O ((kids ns r).getD k 0):=λk hk=>by
   rw[getD_eq _ _ _ (by rw[bR];exact hk),jY,getD_eq _ _ _ hk]
  have km:∀k,k<(kids ns r).length->(kids ns r).getD k 0∈kids ns r:=λk hk=>by rw[getD_eq _ _ _ hk];exact aJ hk
  refine⟨s1,s2,s3,by show((kids ns r).map (dR O)).length=_;rw[bR];exact s4,s5,λk hk=>?_⟩
  have hk':k<(kids ns r).length:=by
   have:k<((kids ns r).map (dR O)).length:=hk
   rwa [bR]at this
  show jm (lF ns O).length (((kids ns r).map (dR O)).getD k 0)/\(0<k->((kids ns r).map (dR O)).getD k 0≠((kids ns r).map (dR O)).getD (k-1) 0)/\(0<=((kids ns r).map (dR O)).getD k 0->(ns.getD r zN).1<((lF ns O).getD (((kids ns r).map (dR O)).getD k 0).toNat zN).1)
  rw[eg k hk',mV]
  have hc0:0<=(kids ns r).getD k 0->((kids ns r).getD k 0).toNat∈O:=λq=>hcl r hrm _ (km k hk') q
  refine⟨⟨by have:=QI _ (kl r hrn _ (km k hk'));omega,a4g _ hc0⟩,λq e=>?_,λq=>?_⟩
  .rw[eg (k-1) (by omega)]at e
   exact(s6' k hk').2.1 q (KS hc0 (λq2=>hcl r hrm _ (km (k-1) (by omega)) q2) e)
  ·have hc1:0<=(kids ns r).getD k 0:=by
    rcases eZ ((kids ns r).getD k 0) 0 with r2|r2
    .have:=F5 (O:=O).2 r2;omega
    .exact r2
   have e:(dR O ((kids ns r).getD k 0)).toNat=O.idxOf ((kids ns r).getD k 0).toNat:=by
    unfold dR;rw[if_neg (by omega)];rfl
   rw[e,NP ns O (hc0 hc1)]
   exact(s6' k hk').2.2 hc1
 .rw[mV]at hi
  have hkl:k<O.length:=by omega
  rw[at_ i hi,at_ k hkl]
  intro e
  have hi2:=hO.2 _ (aJ hi)
  have hk2:=hO.2 _ (aJ hkl)
  have hne:O[k]≠O[i]:=λq=>by have:=(List.getElem_inj hO.1).1 q;omega
  have hmi:=aJ hi
  have hmk:=aJ hkl
  generalize O[i]=a at e hi2 hne hmi
  generalize O[k]=b at e hk2 hne hmk
  have e1:=jW Prod.fst e
  have e2:=jW (λx:DS1=>x.2.1) e
  have e3:=jW (λx:DS1=>x.2.2.1) e
  have e1:(ns.getD b zN).1=(ns.getD a zN).1:=e1
  have e2:(ns.getD b zN).2.1=(ns.getD a zN).2.1:=e2
  have e3:(kids ns b).map (dR O)=(kids ns a).map (dR O):=e3
  have inj:∀(xs ys:List Int),(∀x∈xs,0<=x->x.toNat∈O)->(∀x∈ys,0<=x->x.toNat∈O)->xs.map (dR O)=ys.map (dR O)->xs=ys:=by
   intro xs
   induction xs with
   |nil=>intro ys _ _ h;cases ys with
    |nil=>rfl
    |cons y ys=>cases h
   |cons x xs ih =>
    intro ys hx hy h
    cases ys with
    |nil=>cases h
    |cons y ys =>
     rw[dn,dn]at h
     obtain⟨h1,h2⟩:=lQ h
     rw[KS (hx x (by simp)) (hy y (by simp)) h1,ih ys (λz hz=>hx z (by simp[hz])) (λz hz=>hy z (by simp[hz])) h2]
  have e4:kids ns b=kids ns a:=inj _ _ (hcl b hmk) (hcl a hmi) e3
  have e5:ns.getD b zN=ns.getD a zN:=lV e1 (lV e2 (lV e4 rfl))
  rcases oJ a b with q|q|q
  .exact hdi b hk2 a q e5.symm
  .exact hne q.symm
  .exact hdi a hi2 b q e5
 .obtain⟨r,hr,rfl⟩:=dW.1 hx
  have hc:c∈(kids ns r).map (dR O):=hc
  obtain⟨k,hk,rfl⟩:=dW.1 hc
  exact QI k (kl r (hO.2 r hr) k hk)
theorem a06(x:Int×(List (List Int))×(List Int)×(List DS1)×(List Int)×(List DS1)×Unit):Mo λs=>Hz s x.1 x.2.1 x.2.2.1 x.2.2.2.1 x.2.2.2.2.1 x.2.2.2.2.2.1:=by
 unfold Hz;(repeat' (first|exact Mo.const _|exact Mo.self _|apply Mo.bind|apply Mo.cond|apply Mo.map|apply Mo.join|apply Mo.loop|(intro _)))
theorem a3C {ns:List DS1} {rk:Nat->Nat} (hR:rA ns rk) (hn:ns.length<=1000000) {F:Nat} (hF:∀ r,r < ns.length->rk r + 1<=F) (g:List (List Int)) (v:List Int) (r:Int) (ord:List Nat) (hr:r < (ns.length:Int)) (ho:jQ ns.length ord) :
  T (m58 r g v (mW ns ord) (eP ns.length ord) ns) (λy=>y=(g,v,mW ns (cK ns F ord r),eP ns.length (cK ns F ord r),ns,())):=by
 unfold m58
 refine Cu (ι:=Int×List Nat) a06 (λq=>(q.1,g,v,mW ns q.2,eP ns.length q.2,ns,())) (λq=>q.1<(ns.length:Int)/\jQ ns.length q.2)
  (λq y=>y=(g,v,mW ns (cK ns F q.2 q.1),eP ns.length (cK ns F q.2 q.1),ns,())) (λq=>rkI rk q.1) ?_ (r,ord) ⟨hr,ho⟩
 rintro⟨r,ord⟩ ⟨hr,ho⟩ s ih
 dsimp only at hr ho ih ⊢
 unfold Hz
 have hN:=aR ns
 have hP:=aR (eP ns.length ord)
 have hPl:=iw ns.length ord
 have hO:=ho.len
 rcases eZ r 0 with h0|h0
 .refine T.grd (by rw[eY,dO,iM,bD];exact .inr h0) (T.grd (by rw[eY,dO,iM,bD];exact .inr h0) (T.ct (by rw[fB,bD];exact .inl h0) (T.ret ?_)))
  rw[lS F ord h0]
 have hrt:r.toNat<ns.length:=by omega
 refine T.grd (by rw[eY,bf];left;omega) (T.grd (by rw[eY,dU];left;omega) (T.cnd (λhc=>?_) (λhc=>?_)))
 .rw[fB,bD,fU,oN hrt]at hc
  have hin:r.toNat∈ord:=by
   rcases hc with q|q
   .omega
   .split at q
    .assumption
    .omega
  refine T.ret ?_
  rw[rW F ord hin]
 rw[fF,bq,gq,oN hrt]at hc
 have hni:r.toNat∉ord:=λq=>by
  rw[if_pos q]at hc
  omega
 obtain⟨hkl,hk⟩:=hR r.toNat hrt
 have hun:=xA hR hF h0 hr hni
 have hso:=ho.snoc hrt hni
 have hOl:=wP ns ord
 have hlO:=aR (mW ns ord)
 have hrI:bnd r (ay ns)=true:=by rw[bf];omega
 have hrB:inB r.toNat ns=true:=by rw[dU];omega
 refine T.grd (by rw[bf];omega) (T.grd (by rw[dU];omega) (T.grd hrI (T.grd hrB (T.grd (by rw[dN,aF];omega) ?_))))
 have eN:ns.getD r.toNat (0,[],[],())=ns.getD r.toNat zN:=rfl
 have eK:(ns.getD r.toNat zN).2.2.1=kids ns r.toNat:=rfl
 have e1:List.set (eP ns.length ord) r.toNat (ay (mW ns ord))=eP ns.length (ord++[r.toNat]):=by rw[hlO,hOl,xw hrt hni]
 rw[eN,<- Ad,e1]
 have hK:=aR (kids ns r.toNat)
 refine T.loop (λq=>∃(i:Nat) (o:List Nat),i<=(kids ns r.toNat).length/\jQ ns.length o/\((kids ns r.toNat).take i).foldl (cK ns F) (ord++[r.toNat])=o/\q=(r,(i:Int),g,v,mW ns o,eP ns.length o,ns,())) (λq=>(kids ns r.toNat).length-q.2.1.toNat) ⟨0,_,by omega,hso,rfl,rfl⟩ ?_
 rintro _ ⟨i,o,hi,hoo,oQ,rfl⟩
 dsimp only
 rw[eN,eK,hK,dF]
 refine T.grd hrI (T.grd hrB (T.cnd (λhc3=>?_) (λhc3=>?_)))<;>simp only[bD,bq]at hc3
 .have hil:i<(kids ns r.toNat).length:=by omega
  have ec:=getD_eq (kids ns r.toNat) i 0 hil
  rw[ec]
  obtain⟨k1,k2⟩:=hk _ (aJ hil)
  have hlt2:rkI rk (kids ns r.toNat)[i]<rkI rk r:=by
   unfold rkI
   rw[if_neg (show ¬r<0 by omega)]
   split
   .omega
   .rename_i q;have:=k2 (by omega);omega
  refine T.grd hrI (T.grd hrB (T.grd (by rw[bf];omega) (T.call (ih ((kids ns r.toNat)[i],o) ⟨k1,hoo⟩ hlt2) ?_)))
  rintro _ rfl
  dsimp only
  refine T.grd (by rw[iB];exact⟨by rw[iw,iw];exact iX _,rfl⟩) (T.go ⟨i+1,_,by omega,(pq hR F _ o k1 hoo).1,?_,by rw[aY (by omega) (by omega)];rfl⟩ (by dsimp only;rw[aY (by omega) (by omega)];omega))
  rw[bU hil,jr,oQ];rfl
 .obtain rfl:i=(kids ns r.toNat).length:=by omega
  refine T.out ?_
  rw[dV]at oQ
  rw[hun,oQ]
theorem SK {ns:List DS1} {rk:Nat->Nat} (hR:rA ns rk) (hn:ns.length<=1000000) {F:Nat} (hF:∀ r,r < ns.length->rk r + 1<=F) (g:List (List Int)) (v:List Int) (r:Int) (hr:r < (ns.length:Int)) :
  T (Gd r g v (eP ns.length []) ns) (λy=>y=(g,v,eP ns.length (cK ns F [] r),ns,mW ns (cK ns F [] r),())):=by
 have ho:jQ ns.length []:=⟨kC,λx hx=>by cases hx⟩
 unfold Gd
 have hN:=aR ns
 have hP:=aR (eP ns.length [])
 have hPl:=iw ns.length []
 rcases eZ r 0 with h0|h0
 .refine T.grd (by rw[eY,dO,iM,bD];exact .inr h0) (T.grd (by rw[eY,dO,iM,bD];exact .inr h0) (T.ct (by rw[fB,bD];exact .inl h0) (T.ret ?_)))
  rw[lS F [] h0];rfl
 have hrt:r.toNat<ns.length:=by omega
 refine T.grd (by rw[eY,bf];left;omega) (T.grd (by rw[eY,dU];left;omega) (T.cf ?_ ?_))
 .rw[fF,bq,gq,oN hrt]
  exact⟨h0,by simp⟩
 have hni:r.toNat∉([]:List Nat):=λq=>by cases q
 obtain⟨hkl,hk⟩:=hR r.toNat hrt
 have hun:=xA hR hF h0 hr hni
 have hso:=ho.snoc hrt hni
 have hrI:bnd r (ay ns)=true:=by rw[bf];omega
 have hrB:inB r.toNat ns=true:=by rw[dU];omega
 refine T.grd (by rw[bf];omega) (T.grd (by rw[dU];omega) (T.grd hrI (T.grd hrB (T.grd (by rw[dN,aF];omega) ?_))))
 have eN:ns.getD r.toNat (0,[],[],())=ns.getD r.toNat zN:=rfl
 have eK:(ns.getD r.toNat zN).2.2.1=kids ns r.toNat:=rfl
 have e1:List.set (eP ns.length []) r.toNat 0=eP ns.length ([]++[r.toNat]):=by rw[<- xw hrt hni];rfl
 have e2:([ns.getD r.toNat zN]:List DS1)=mW ns ([]++[r.toNat]):=by rw[Ad];rfl
 rw[eN,e2,e1]
 have hK:=aR (kids ns r.toNat)
 refine T.loop (λq=>∃(i:Nat) (o:List Nat),i<=(kids ns r.toNat).length/\jQ ns.length o/\((kids ns r.toNat).take i).foldl (cK ns F) ([]++[r.toNat])=o/\q=(r,(i:Int),g,v,eP ns.length o,ns,mW ns o,())) (λq=>(kids ns r.toNat).length-q.2.1.toNat) ⟨0,_,by omega,hso,rfl,rfl⟩ ?_
 rintro _ ⟨i,o,hi,hoo,oQ,rfl⟩
 dsimp only
 rw[eN,eK,hK,dF]
 refine T.grd hrI (T.grd hrB (T.cnd (λhc3=>?_) (λhc3=>?_)))<;>simp only[bD,bq]at hc3
 .have hil:i<(kids ns r.toNat).length:=by omega
  have ec:=getD_eq (kids ns r.toNat) i 0 hil
  rw[ec]
  obtain⟨k1,k2⟩:=hk _ (aJ hil)
  refine T.grd hrI (T.grd hrB (T.grd (by rw[bf];omega) (T.call (a3C hR hn hF g v (kids ns r.toNat)[i] o k1 hoo) ?_)))
  rintro _ rfl
  dsimp only
  refine T.grd (by rw[iB];exact⟨by rw[iw,iw];exact iX _,rfl⟩) (T.go ⟨i+1,_,by omega,(pq hR F _ o k1 hoo).1,?_,by rw[aY (by omega) (by omega)];rfl⟩ (by dsimp only;rw[aY (by omega) (by omega)];omega))
  rw[bU hil,jr,oQ];rfl
 .obtain rfl:i=(kids ns r.toNat).length:=by omega
  refine T.out ?_
  rw[dV]at oQ
  rw[hun,oQ]
theorem a1M {dm:List DS3} {lo:Int} (hd:gX dm) (hlo:-256<=lo) (hlo0:lo<=0) {g:List (List Int)} (hg:GOk dm g) (hgl:∀ r ∈ g,r.length<=1000000) (hP:bS g<=500000) {v:List Int} (hv:∀ x ∈ v,0<=x/\lo<=-1 - x) (hvl:v.length=bS g) :
  T (Ch 0 0 (ay v) g v) (λy=>∃t,y=(y.1,g,v,t,())/\kM dm lo t/\Rf t lo 0 y.1/\t.length+1<=bS g):=by
 unfold Ch
 have hG:=aR g
 have hV:=aR v
 have hd1:=hd.1
 have hd2:=hd.2.1
 have hgd:=hg.1
 have hil:0<g.length:=by omega
 have hrow:=hg.row hil
 have hrp:=hrow.pos
 have hpd:=sS g 0 hil
 rw[jg,dJ]at hpd
 have Cw:rM .i64 (ay v) (g[0].length:Int)=(bS (g.drop 1):Int):=by
  unfold rM
  rw[hV,hvl,hpd,jy (by omega)]
  have:((g[0].length*bS (g.drop 1):Nat):Int)/(g[0].length:Int)=(bS (g.drop 1):Int):=by
   rw[<- rQ,qd _ (by omega)]
  rw[this]
  have h1:bS (g.drop 1)<=bS g:=by
   rw[hpd]
   have:1*bS (g.drop 1)<=g[0].length*bS (g.drop 1):=gH hrp (bF _)
   omega
  rw[wrap64]<;>omega
 have hgi:=hgl _ (aJ hil)
 have hR:=aR g[0]
 have e00:atI g 0 []=g[0]:=getD_eq g 0 [] hil
 rw[e00,hR,Cw,hG]
 have a9O:bS (g.drop (0+1))=bS (g.drop 1):=rfl
 generalize hpt:bS (g.drop 1)=part at hpd
 refine T.cf (by rw[dG];omega) (T.grd (by rw[bf];omega) (T.grd (by rw[fZ];omega) ?_))
 refine T.loop (λq=>∃(k:Nat) (t:List DS1) (nx:List Int),k<=g[0].length/\nx.length=k/\kM dm lo t/\(∀c∈nx,Rf t lo 1 c)/\t.length+k<=k*part/\q=(0,0,(part:Int),(k:Int),g,v,nx,t,())) (λq=>g[0].length-q.2.2.2.1.toNat) ⟨0,[],[],by omega,rfl,kM.nil dm lo,λc hc=>(by cases hc),by simp,rfl⟩ ?_
 rintro _ ⟨k,t,nx,hk,hnx,hNt,hrf,htl,rfl⟩
 dsimp only
 rw[hG,e00,hR]
 refine T.grd (by rw[bf];omega) (T.cnd (λhc2=>?_) (λhc2=>?_))<;>simp only[bD,bq]at hc2
 .have hkl:k<g[0].length:=by omega
  have hkp:(k+1)*part<=g[0].length*part:=gH hkl (bF _)
  rw[bY,fH]at hkp
  have e1:bX .i64 0 1=((0+1:Nat):Int):=by rw[aY (by omega) (by omega)];rfl
  have ekp:(k:Int)*(part:Int)=((k*part:Nat):Int):=by push_cast;rfl
  have e2:bX .i64 0 (AQ .i64 (k:Int) (part:Int))=((k*part:Nat):Int):=by
   rw[jC (by omega) (by omega),ekp,aY (by omega) (by omega)];omega
  rw[e1,e2]
  have hcall:=a1L hd hlo hlo0 hg hgl (by omega) hv (by omega) 1 (k*part) t (by omega) (by rw[hpt];omega) hNt (by rw[hpt];omega)
  rw[hpt]at hcall
  refine T.call hcall ?_
  rintro⟨r,q1,q2,q3,⟨⟩⟩ ⟨t2,heq,hN2,hr2,ht2⟩
  obtain⟨rfl,rfl,rfl⟩:g=q1/\v=q2/\t++t2=q3:=by
   simp only[jw]at heq
   exact⟨heq.2.1.symm,heq.2.2.1.symm,heq.2.2.2.1.symm⟩
  dsimp only at hr2 ⊢
  refine T.grd (by rw[dN,aF];omega) (T.go ⟨k+1,t++t2,nx++[r],by omega,by rw[ak,aF,hnx],hN2,λc hc=>?_,?_,by rw[aY (by omega) (by omega)];rfl⟩ (by dsimp only;rw[aY (by omega) (by omega)];omega))
  .rcases aV.1 hc with q|q
   .exact(hrf c q).app t2
   .obtain rfl:=bG.1 q;exact hr2
  .rw[ak,bY,fH];omega
 .obtain rfl:k=g[0].length:=by omega
  refine T.lT (T.grd (by rw[bf];omega) (T.call (SN (i:=0) hd hlo hlo0 (by omega) (cuts:=g[0]) (next:=nx) (ns:=t) hrow (by omega) hgi hrf hNt (by omega) g v) ?_))
  rintro⟨r,q1,q2,q3,q4,⟨⟩⟩ ⟨t2,heq,hN2,hr2,ht2,ht3⟩
  obtain⟨rfl,rfl,rfl,rfl⟩:g=q1/\v=q2/\nx=q3/\t++t2=q4:=by
   simp only[jw]at heq
   exact⟨heq.2.1.symm,heq.2.2.1.symm,heq.2.2.2.1.symm,heq.2.2.2.2.1.symm⟩
  dsimp only at hr2 ⊢
  refine T.grd (by rw[iB];exact⟨iX _,rfl⟩) (T.ret ⟨t++t2,rfl,hN2,hr2,?_⟩)
  rw[ak,hpd]
  have hlx:g[0].length=nx.length:=hnx.symm
  rw[hlx]at htl ⊢
  rw[hlx]at hrp
  by_cases h1:nx.length=1
  .rw[ht3 h1,bV];omega
  .omega
theorem Ac{n:Nat}{O:List Nat}{c:Int}(h:c<(n:Int))(h0:0<=c)(hm:c.toNat∈O):(eP n O).getD c.toNat 0=dR O c:=by
 rw[oN (by omega),if_pos hm];unfold dR;rw[if_neg (by omega)]
theorem a14 {dm:List DS3} {lo:Int} (hd:gX dm) (hlo:-256<=lo) (hlo0:lo<=0) {g:List (List Int)} (hg:GOk dm g) (hgl:∀ r ∈ g,r.length<=1000000) (hP:bS g<=1000) {v:List Int} (hv:∀ x ∈ v,0<=x/\lo<=-1 - x) (hvl:v.length=bS g) :
  T (m48 g v) (λy=>VD dm y.1.1 y.1.2.1/\(∀x∈y.1.1,∀c∈x.2.2.1,lo<=c)/\lo<=y.1.2.1/\y.2.1=0):=by
 unfold m48
 refine T.call (a1M hd hlo hlo0 hg hgl (by omega) hv hvl) ?_
 rintro⟨root,q1,q2,ns,⟨⟩⟩ ⟨t,heq,hN,hr,ht⟩
 obtain⟨rfl,rfl,rfl⟩:g=q1/\v=q2/\t=ns:=by
  simp only[jw]at heq
  exact⟨heq.2.1.symm,heq.2.2.1.symm,heq.2.2.2.1.symm⟩
 dsimp only at hr ⊢
 have hN':=aR t
 have hs:=hN.1
 obtain⟨hR,hF⟩:=lY hd hs
 have hfin:=Sn hd hN hlo hlo0 hr.2.1 hr.1 (by omega)
 have h0:jQ t.length []:=⟨kC,λx hx=>by cases hx⟩
 have hO:=(pq hR 8 root [] hr.2.1 h0).1
 have hr8:rkI (rkA t) root<=8:=by
  unfold rkI
  split
  .omega
  .exact hF _ (by have:=hr.2.1;omega)
 obtain⟨hcr,hcl0⟩:=uo hR 8 8 root [] hr8 (bF _) hr.2.1 h0
 rw[hN']
 refine T.cf (by rw[bq];omega) (T.grd (by rw[gM];omega) ?_)
 rw[aZ]
 refine T.loop (λq=>∃(i:Nat) (p:List Int),i<=t.length/\p.length=t.length/\(∀j,j<i->p.getD j 0=-1)/\q=(root,(i:Int),0,g,v,p,t,())) (λq=>t.length-q.2.1.toNat) ⟨0,_,by omega,by simp,λj hj=>by omega,rfl⟩ ?_
 rintro _ ⟨i,p,hi,hp,hpg,rfl⟩
 dsimp only
 have hpI:=aR p
 rw[hpI,aZ]
 refine T.cnd (λhc2=>?_) (λhc2=>?_)<;>simp only[bD,bq]at hc2
 .refine T.grd (by rw[bf];omega) (T.grd (by rw[dU];omega) (T.go ⟨i+1,p.set i (-1),by omega,by rw[bK];exact hp,λj hj=>?_,by rw[aY (by omega) (by omega)];rfl⟩ (by dsimp only;rw[aY (by omega) (by omega)];omega)))
  rw[nN p i j _ _ (by omega)]
  split
  .rfl
  .exact hpg j (by omega)
 obtain rfl:i=t.length:=by omega
 obtain rfl:p=eP t.length []:=by
  rw[C9]
  apply gB (by simp[hp])
  intro j h1 h2
  have:=hpg j (by omega)
  rw[getD_eq _ _ _ h1]at this
  rw[this];simp
 refine T.lT (T.call (SK hR (by omega) hF g v root hr.2.1) ?_)
 rintro _ rfl
 dsimp only
 generalize hOe:cK t 8 [] root=O at hfin hO hcr hcl0
 have hcl:∀r∈O,∀k∈kids t r,0<=k->k.toNat∈O:=λr hr=>hcl0 r hr (λq=>by cases q)
 have hOl:=hO.len
 have hPl:=iw t.length O
 have hPI:=aR (eP t.length O)
 refine T.grd (by rw[iB];exact⟨by rw[iw,iw];exact iX _,rfl⟩) ?_
 refine T.loop (λq=>∃(i:Nat) (o:List DS1),i<=O.length/\o.length=O.length/\(∀j (hj:j<O.length),o.getD j zN=if j<i then imN t O O[j] else t.getD O[j] zN)/\q=(root,(i:Int),0,eP t.length O,o,())) (λq=>O.length-q.2.1.toNat) ⟨0,mW t O,by omega,wP t O,λj hj=>?_,rfl⟩ ?_
 .rw[if_neg (by omega),getD_eq _ _ _ (by rw[wP];exact hj)];simp[mW]
 rintro _ ⟨i,o,hi,hol,hog,rfl⟩
 dsimp only
 have hoI:=aR o
 rw[hoI]
 refine T.cnd (λhc2=>?_) (λhc2=>?_)<;>simp only[bD,bq]at hc2
 .have hil:i<O.length:=by omega
  have hoi:=hog i hil
  rw[if_neg (by omega)]at hoi
  have hrm:=aJ hil
  have hrn:=hO.2 _ hrm
  obtain⟨hkl,hk⟩:=hR _ hrn
  have hK:=aR (kids t O[i])
  have eo:o.getD i (0,[],[],())=t.getD O[i] zN:=hoi
  have eK:(t.getD O[i] zN).2.2.1=kids t O[i]:=rfl
  have b1:bnd (i:Int) (o.length:Int)=true:=by rw[bf];omega
  have b2:inB i o=true:=by rw[dU];omega
  refine T.loop (λq=>∃k:Nat,k<=(kids t O[i]).length/\q=(root,(i:Int),(k:Int),0,eP t.length O,o,((kids t O[i]).take k).map (dR O),())) (λq=>(kids t O[i]).length-q.2.2.1.toNat) ⟨0,by omega,rfl⟩ ?_
  rintro _ ⟨k,hkk,rfl⟩
  dsimp only
  rw[hoI,aZ,eo,eK,hK,dF,hPI]
  refine T.grd b1 (T.grd b2 (T.cnd (λhc3=>?_) (λhc3=>?_)))<;>simp only[bD,bq]at hc3
  .have Dz:k<(kids t O[i]).length:=by omega
   rw[getD_eq _ _ _ Dz]
   have hkm:=aJ Dz
   obtain⟨k1,_⟩:=hk _ hkm
   have hcm:=hcl _ hrm _ hkm
   have etk:((kids t O[i]).take (k+1)).map (dR O)=((kids t O[i]).take k).map (dR O)++[dR O (kids t O[i])[k]]:=by
    rw[bU Dz,dP];rfl
   have nxt:T (cond (fits (List.length (((kids t O[i]).take k).map (dR O)) + List.length ([dR O (kids t O[i])[k]]:List Int)) 8) (some (Sum.inl (β:=(Int × Int × Int × (List Int) × (List DS1) × Unit) ⊕ (DS2 × Int × Unit)) (root,(i:Int),bX .i64 (k:Int) 1,(0:Int),eP t.length O,o,((kids t O[i]).take k).map (dR O) ++ ([dR O (kids t O[i])[k]]:List Int),()))) none)
     (LQ (λq=>∃k:Nat,k<=(kids t O[i]).length/\q=(root,(i:Int),(k:Int),0,eP t.length O,o,((kids t O[i]).take k).map (dR O),())) (λq=>(kids t O[i]).length-q.2.2.1.toNat) ((kids t O[i]).length-(k:Int).toNat)
      (LQ (λq=>∃(i:Nat) (o:List DS1),i<=O.length/\o.length=O.length/\(∀j (hj:j<O.length),o.getD j zN=if j<i then imN t O O[j] else t.getD O[j] zN)/\q=(root,(i:Int),0,eP t.length O,o,())) (λq=>O.length-q.2.1.toNat) (O.length-(i:Int).toNat) (λy=>VD dm y.1.1 y.1.2.1/\(∀x∈y.1.1,∀c∈x.2.2.1,lo<=c)/\lo<=y.1.2.1/\y.2.1=0))):=by
    refine T.grd (by rw[dN,bR,bH,aF];omega) (T.go ⟨k+1,by omega,?_⟩ (by dsimp only;rw[aY (by omega) (by omega)];omega))
    rw[etk,aY (by omega) (by omega)];rfl
   refine T.grd b1 (T.grd b2 (T.grd (by rw[bf];omega) (T.cnd (λhc4=>?_) (λhc4=>?_))))<;>simp only[fU,gq]at hc4
   .rw[Ac k1 hc4 (hcm hc4)]
    exact T.grd (by rw[bf];omega) (T.grd (by rw[dU];omega) nxt)
   .have er:dR O (kids t O[i])[k]=(kids t O[i])[k]:=by unfold dR;rw[if_pos hc4]
    rw[er]at nxt
    exact nxt
  .obtain rfl:k=(kids t O[i]).length:=by omega
   rw[dV]
   refine T.lT (T.grd b1 (T.grd b2 (T.grd b1 (T.grd b2 (T.grd b1 (T.grd b2 (T.ret (show LQ _ _ _ _ (Sum.inl _) from⟨⟨i+1,o.set i (imN t O O[i]),by omega,by rw[bK];exact hol,λj hj=>?_,by rw[aY (by omega) (by omega)];rfl⟩,by dsimp only;rw[aY (by omega) (by omega)];omega⟩))))))))
   rw[nN o i j _ _ (by omega)]
   by_cases e:i=j
   .subst e;rw[if_pos rfl,if_pos (by omega)]
   .rw[if_neg e,hog j hj]
    by_cases q:j<i
    .rw[if_pos q,if_pos (by omega)]
    .rw[if_neg q,if_neg (by omega)]
 .obtain rfl:i=O.length:=by omega
  obtain rfl:o=lF t O:=by
   apply gB (by rw[hol,mV])
   intro j h1 h2
   have hj:j<O.length:=by rw[<- hol];exact h1
   have:=hog j hj
   rw[if_pos hj,getD_eq _ _ _ h1]at this
   rw[this];simp[lF]
  rw[hPI]
  refine T.lT (T.cnd (λhc3=>?_) (λhc3=>?_))<;>simp only[fU,gq]at hc3
  .have hrl:=hr.2.1
   refine T.grd (by rw[bf];omega) (T.grd (by rw[dU];omega) (T.ret ?_))
   dsimp only
   rw[Ac hrl hc3 (hcr hc3)]
   exact⟨hfin.1,hfin.2.1,hfin.2.2,rfl⟩
  .refine T.ret ?_
   have er:dR O root=root:=by unfold dR;rw[if_pos hc3]
   rw[er]at hfin
   exact⟨hfin.1,hfin.2.1,hfin.2.2,rfl⟩
theorem RG{l:List DS0}{f:List Int}(h:CY l f=true):f.length=l.length:=by
 unfold CY at h
 rw[au,au]at h
 exact of_decide_eq_true h.1.2
theorem Tm (l:List DS0) (hv:jH l=0) (values:Int) (h1:1<=values) (h2:values<=256) {L:List Int} {a:Int} (hk:mo L a) :
  T (m18 (l,()) values L a) (λy=>VD (doms l) y.1 y.2.1/\(∀x∈y.1,∀c∈x.2.2.1,-values<=c)/\-values<=y.2.1/\mo y.2.2.1 y.2.2.2.1):=by
 unfold m18
 have hd:=ql hv
 have vo:=val_ok hv
 have hL:=aR l
 have hdl:=qK l
 refine T.dh (EU l hv) (T.call (ru hk (by omega) (by omega)) ?_)
 rintro⟨k0,K,a0,⟨⟩⟩ ⟨n1,n2,n3⟩
 dsimp only at n1 n2 n3 ⊢
 obtain⟨g1,g2⟩:=IB hd
 refine T.loop (λq=>∃(g:List (List Int)) (k:Nat) (K:List Int) (a:Int),GOk (doms l) g/\excess g+k<=4/\mo K a/\q=(values,g,(k:Int),K,a,l,0,())) (λq=>q.2.2.1.toNat) ⟨_,k0.toNat,K,a0,g1,by omega,n1,by rw[show((k0.toNat:Nat):Int)=k0 by omega]⟩ ?_
 rintro _ ⟨g,k,K,a,hg,hek,hK,rfl⟩
 dsimp only
 rw[hL]
 have hgd:=hg.1
 have hgl:∀r∈g,r.length<=1000000:=λr hr=>by have:=Q8 g r hr;omega
 refine T.cnd (λhc=>?_) (λhc=>?_)<;>simp only[bD,bq]at hc
 .refine T.call (ru hK (by omega) (by omega)) ?_
  rintro⟨i,K1,a1,⟨⟩⟩ ⟨m1,m2,m3⟩
  dsimp only at m1 m2 m3 ⊢
  refine T.call (a1l l hv m1) ?_
  rintro⟨K2,a2,f,⟨⟩⟩ ⟨f1,f2⟩
  dsimp only at f1 f2 ⊢
  have hfl:=RG f2
  have hfI:=aR f
  refine T.grd (by rw[bf];omega) (T.grd (by rw[dU];omega) ?_)
  have ei:i=(i.toNat:Int):=by omega
  have hil:i.toNat<l.length:=by omega
  have hcm:=Yw l hv g (by omega) (λr hr=>by have:=hgl r hr;omega) i.toNat hil (f.getD i.toNat 0)
  rw[<- ei]at hcm
  refine T.dh hcm ?_
  obtain⟨c1,c2⟩:=TW hg (i:=i.toNat) (by omega) (f.getD i.toNat 0)
  refine T.go ⟨_,k-1,K2,a2,c1,by omega,f1,?_⟩ (by dsimp only;rw[eF (by omega) (by omega)];omega)
  rw[eF (by omega) (by omega),show((k-1:Nat):Int)=(k:Int)-1 by omega]
 .obtain rfl:k=0:=by omega
  refine T.lT ?_
  have hp:bS g<=16:=by
   refine cZ (a0D g) ?_
   have:excess g<=4:=by omega
   exact cZ (Nat.pow_le_pow_right (by omega) this) (by decide)
  have hpos:∀r∈g,1<=r.length:=λr hr=>by
   obtain⟨j,hj,rfl⟩:=fD hr
   exact(hg.row hj).pos
  refine T.dh (OW g (by have:=hd.2.1;omega) hpos (by omega)) ?_
  dsimp only
  refine T.loop (λq=>∃(k:Nat) (v K:List Int) (a:Int),v.length+k=bS g/\(∀x∈v,0<=x/\x<values)/\mo K a/\q=(values,g,(k:Int),K,a,0,v,())) (λq=>q.2.2.1.toNat) ⟨bS g,[],K,a,by simp,λx hx=>(by cases hx),hK,rfl⟩ ?_
  rintro _ ⟨k,v,K,a,hvk,hvx,hK,rfl⟩
  dsimp only
  refine T.cnd (λhc2=>?_) (λhc2=>?_)<;>simp only[bD,bq]at hc2
  .refine T.call (ru hK (by omega) (by omega)) ?_
   rintro⟨x,K1,a1,⟨⟩⟩ ⟨m1,m2,m3⟩
   dsimp only at m1 m2 m3 ⊢
   refine T.grd (by rw[dN,aF];omega) (T.go ⟨k-1,v++[x],K1,a1,by rw[ak,aF];omega,λy hy=>?_,m1,?_⟩ (by dsimp only;rw[eF (by omega) (by omega)];omega))
   .rcases aV.1 hy with q|q
    .exact hvx y q
    .obtain rfl:=bG.1 q;exact⟨m2,m3⟩
   .rw[eF (by omega) (by omega),show((k-1:Nat):Int)=(k:Int)-1 by omega]
  .obtain rfl:k=0:=by omega
   refine T.lT (T.call (a14 (lo:=-values) hd (by omega) (by omega) hg hgl (by omega) (λx hx=>by have:=hvx x hx;omega) (by omega)) ?_)
   intro y ⟨y1,y2,y3,y4⟩
   exact T.ret ⟨y1,y2,y3,hK⟩
def SzB(ns:List DS1):Prop:=ns.length<=1002/\∀x∈ns,x.2.1.length<=2000000003/\x.2.2.1.length<=2000000003
theorem SzB.n{ns:List DS1}(h:SzB ns):SzN ns:=⟨by have:=h.1;omega,λx hx=>by have:=h.2 x hx;omega⟩
theorem SzB.set{ns:List DS1}(h:SzB ns)(k:Nat){x:DS1}(hx:x.2.1.length<=2000000003/\x.2.2.1.length<=2000000003):SzB (ns.set k x):=by
 refine⟨by rw[bK];exact h.1,λy hy=>?_⟩
 rcases sK hy with q|q
 .exact h.2 y q
 .rw[q];exact hx
theorem Bj{lo hi:Int}{L:List Int}{a:Int}(h:mo L a)(hlo:-100000<=lo)(hlh:lo<=hi)(hhi:hi<=100000):T (m55 lo hi L a) (λy=>mo y.2.1 y.2.2.1):=by
 unfold m55
 rw[eF (by omega) (by omega),aY (by omega) (by omega)]
 exact T.call (ru h (by omega) (by omega)) (λy hy=>T.ret hy.1)
theorem Ve (ns:List DS1) (root:Int) {L:List Int} {a:Int} (hk:mo L a) (hn:ns.length<=1000) (hx:∀ x ∈ ns,1<=x.2.1.length/\x.2.1.length<=2000000001/\1<=x.2.2.1.length/\x.2.2.1.length<=2000000001) :
  T (m29 (ns,root,()) L a) (λy=>SzN y.1.1):=by
 have hzb:SzB ns:=⟨by omega,λx h=>by have:=hx x h;omega⟩
 have hN:=aR ns
 unfold m29
 simp only[fq,bV,dJ]
 refine T.grd (by rw[dN];omega) (T.cnd (λhc=>?_) (λhc=>?_))<;>simp only[dD,dG]at hc
 .exact T.call (Bj hk (by omega) (by omega) (by omega)) (λy _=>T.ret hzb.n)
 refine T.call (ru hk (by omega) (by omega)) ?_
 rintro⟨w0,K,a0,⟨⟩⟩ ⟨n1,_,_⟩
 dsimp only at n1 ⊢
 refine T.cnd (λ_=>?_) (λ_=>?_)
 .exact T.call (Bj n1 (by omega) (by omega) (by omega)) (λy _=>T.ret hzb.n)
 refine T.call (ru n1 (by omega) (by omega)) ?_
 rintro⟨k,K1,a1,⟨⟩⟩ ⟨m1,m2,m3⟩
 dsimp only at m1 m2 m3 ⊢
 have hkl:k.toNat<ns.length:=by omega
 have hxk:=hx _ (aJ hkl)
 have eg:ns.getD k.toNat (0,[],[],())=ns[k.toNat]:=getD_eq ns k.toNat _ hkl
 rw[eg]
 generalize ns[k.toNat]=xk at hxk ⊢
 obtain⟨at_,cs,nx,⟨⟩⟩:=xk
 dsimp only at hxk ⊢
 obtain⟨c1,c2,c3,c4⟩:=hxk
 have hC:=aR cs
 have hX:=aR nx
 have b1:bnd k (ay ns)=true:=by rw[bf];omega
 have b2:inB k.toNat ns=true:=by rw[dU];omega
 refine T.grd b1 (T.grd b2 (T.grd (by rw[dN];omega) (T.grd (by rw[dN];omega) ?_)))
 refine T.call (ru m1 (by omega) (by omega)) ?_
 rintro⟨w,K2,a2,⟨⟩⟩ ⟨p1,_,_⟩
 dsimp only at p1 ⊢
 refine T.cnd (λ_=>?_) (λ_=>?_)
 .exact T.call (Bj p1 (by omega) (by omega) (by omega)) (λy _=>T.grd b1 (T.grd b2 (T.ret (hzb.set _ ⟨by dsimp only;omega,by dsimp only;omega⟩).n)))
 refine T.cnd (λ_=>?_) (λ_=>?_)
 .refine T.call (ru p1 (by omega) (by omega)) ?_
  rintro⟨j,K3,a3,⟨⟩⟩ ⟨q1,q2,q3⟩
  dsimp only at q1 q2 q3 ⊢
  exact T.call (Bj q1 (by omega) (by omega) (by omega)) (λy _=>T.grd (by rw[bf];omega) (T.grd (by rw[dU];omega) (T.grd b1 (T.grd b2 (T.ret (hzb.set _ ⟨by dsimp only;rw[bK];omega,by dsimp only;omega⟩).n)))))
 refine T.cnd (λ_=>?_) (λ_=>?_)
 .refine T.call (ru p1 (by omega) (by omega)) ?_
  rintro⟨j,K3,a3,⟨⟩⟩ ⟨q1,q2,q3⟩
  dsimp only at q1 q2 q3 ⊢
  exact T.call (Bj q1 (by omega) (by omega) (by omega)) (λy _=>T.grd (by rw[bf];omega) (T.grd (by rw[dU];omega) (T.grd b1 (T.grd b2 (T.ret (hzb.set _ ⟨by dsimp only;omega,by dsimp only;rw[bK];omega⟩).n)))))
 refine T.cnd (λ_=>?_) (λ_=>?_)
 .have e1:fV .i64 (ay cs) 1=((cs.length-1:Nat):Int):=by rw[hC,eF (by omega) (by omega)];omega
  rw[e1]
  refine T.grd (by rw[bf];omega) (T.grd (by rw[dU,aZ];omega) (T.grd (by rw[dN,aF];omega) (T.grd (by rw[dN,aF];omega) (T.grd b1 (T.grd b2 (T.ret (hzb.set _ ⟨?_,?_⟩).n))))))
  .dsimp only;rw[ak,aF];omega
  .dsimp only;rw[ak,aF];omega
 refine T.cnd (λ_=>?_) (λ_=>?_)
 ·have a9K:SzB (ns ++ [(at_,cs,nx,())]):=⟨by rw [ak,aF]; omega,fun x h=>by
   rcases aV.1 h with q|q
   .exact hzb.2 x q
   .obtain rfl:=bG.1 q;exact⟨by dsimp only;omega,by dsimp only;omega⟩⟩
  refine T.grd (by rw[dN,aF];omega) (T.grd (by rw[bf,aR,ak,aF];omega) (T.grd (by rw[dU,ak,aF];omega) (T.ret (a9K.set _ ⟨by dsimp only;omega,by dsimp only;omega⟩).n)))
 refine T.cnd (λ_=>?_) (λ_=>?_)
 .refine T.call (ru p1 (by omega) (by omega)) ?_
  rintro⟨j,K3,a3,⟨⟩⟩ ⟨q1,q2,q3⟩
  dsimp only at q1 q2 q3 ⊢
  have hjl:j.toNat<ns.length:=by omega
  have hxj:=hzb.2 _ (aJ hjl)
  have ej:ns.getD j.toNat (0,[],[],())=ns[j.toNat]:=getD_eq ns j.toNat _ hjl
  have b3:bnd j (ay ns)=true:=by rw[bf];omega
  have b4:inB j.toNat ns=true:=by rw[dU];omega
  rw[ej]
  refine T.grd b3 (T.grd b4 (T.grd b3 (T.grd b4 (T.grd (by rw[bf,aR,bK];omega) (T.grd (by rw[dU,bK];omega) (T.ret ((hzb.set _ ⟨?_,?_⟩).set _ ⟨?_,?_⟩).n))))))
  .dsimp only;omega
  .dsimp only;omega
  .exact hxj.1
  .exact hxj.2
 .exact T.grd b1 (T.grd b2 (T.ret (hzb.set _ ⟨by dsimp only;omega,by dsimp only;omega⟩).n))
theorem VD.sz{dm:List DS3}{ns:List DS1}{root:Int}(hd:gX dm)(h:VD dm ns root):(∀x∈ns,1<=x.2.1.length/\x.2.1.length<=2000000001/\1<=x.2.2.1.length/\x.2.2.1.length<=2000000001)/\SzN ns:=by
 have key:∀x∈ns,1<=x.2.1.length/\x.2.1.length<=2000000001/\1<=x.2.2.1.length/\x.2.2.1.length<=2000000001:=λx hx=>by
  obtain⟨i,hi,rfl⟩:=fD hx
  have hs:=h.2.2.1 i hi
  rw[getD_eq _ _ _ hi]at hs
  have hl:=hs.len hd
  have h3:=hs.2.2.1
  have h4:=hs.2.2.2.1
  omega
 exact⟨key,by have:=h.1;omega,λx hx=>by have:=key x hx;omega⟩
theorem OG{L:List Int}(h:OkT (.list (.int .i64)) L):mo L 0:=⟨λx hx=>Ls ((Bl (e:=.int .i64) h).2 x hx),(Bl (e:=.int .i64) h).1,by omega⟩
theorem a5w{x:DS2}(h:OkT tS2 x):SzN x.1:=by
 have h1:OkT (.list tS1) x.1:=h.1
 obtain⟨a,b⟩:=Bl (e:=tS1) h1
 refine⟨a,λn hn=>?_⟩
 have hb:=b n hn
 exact⟨(Bl (e:=.int .i64) hb.2.1).1,(Bl (e:=.int .i64) hb.2.2.1).1⟩
def Sub(g g':List (List Int)):Prop:=g.length=g'.length/\∀a,(∀x∈g.getD a [],x∈g'.getD a [])/\(g.getD a []).length<=(g'.getD a []).length
theorem Sub.refl(g:List (List Int)):Sub g g:=⟨rfl,λa=>⟨λx h=>h,bF _⟩⟩
theorem Sub.trans{a b c:List (List Int)}(h:Sub a b)(h':Sub b c):Sub a c:=⟨h.1.trans h'.1,λi=>⟨λx q=>(h'.2 i).1 x ((h.2 i).1 x q),cZ (h.2 i).2 (h'.2 i).2⟩⟩
theorem a1z{dm:List DS3}(g:List (List Int))(i:Nat)(hi:i<g.length)(v:Int):Sub g (Ct dm g i v):=by
 unfold Ct
 split
 .exact Sub.refl g
 .refine⟨by rw[bK],λa=>?_⟩
  rw[nN g i a _ _ hi]
  split
  .rename_i e;subst e
   exact⟨(Jl _ _).2,(MW _ _).1⟩
  .exact⟨λx h=>h,bF _⟩
theorem a1A{dm:List DS3}(g:List (List Int))(i:Nat)(hi:i<g.length)(v:Int)(h1:(dm.getD i zS).1<v)(h2:v<=(dm.getD i zS).2.1):v∈(Ct dm g i v).getD i []:=by
 unfold Ct
 rw[if_neg (by omega),nN g i i _ _ hi,if_pos rfl]
 exact(Jl _ _).1
theorem VE{lo hi:Int}{r:List Int}(h:tL lo hi r):∀k,k<r.length->lo+k<=r.getD k 0:=by
 intro k
 induction k with
 |zero=>intro _;rw[(KM h).1];omega
 |succ k ih=>intro hk;have:=(Df h (k+1) (by omega) hk).2.2;rw[jd]at this;have:=ih (by omega);omega
theorem a0z{lo hi:Int}{r:List Int}(h:tL lo hi r):(r.length:Int)<=hi-lo+1\/r.length=1:=by
 have hp:=h.pos
 rcases aM 1 r.length with q|q
 .have h1:=VE h (r.length-1) (by omega)
  have h2:=(Df h (r.length-1) (by omega) (by omega)).2.1
  left;omega
 .right;omega
theorem GOk.len{dm:List DS3}(hd:gX dm){g:List (List Int)}(hg:GOk dm g):∀r∈g,1<=r.length/\r.length<=2000000001:=by
 intro r hr
 obtain⟨i,hi,rfl⟩:=fD hr
 have h1:=hg.row hi
 have h2:=a0z h1
 have h3:=hd.at (i:=i) (by rw[<- hg.1];exact hi)
 have h4:=h1.pos
 omega
def Has(ns:List DS1)(n:Nat)(g:List (List Int)):Prop:=∀r,r<n->∀c∈(ns.getD r zN).2.1,c∈g.getD (ns.getD r zN).1.toNat []
theorem MG (l:List DS0) (hv:jH l=0) (g0:List (List Int)) (hg0:GOk (doms l) g0) (ns:List DS1) (root:Int) (hs:iC (doms l) ns) (hn:ns.length<=1000) :
  T (m49 (l,()) g0 (ns,root,())) (λy=>GOk (doms l) y.1/\Sub g0 y.1/\Has ns ns.length y.1):=by
 unfold m49
 have hd:=ql hv
 have hdl:=qK l
 have hN:=aR ns
 refine T.loop (λq=>∃(i:Nat) (g:List (List Int)),i<=ns.length/\GOk (doms l) g/\Sub g0 g/\Has ns i g/\q=(g,(i:Int),l,ns,root,())) (λq=>ns.length-q.2.1.toNat) ⟨0,g0,by omega,hg0,Sub.refl _,λr hr=>by omega,rfl⟩ ?_
 rintro _ ⟨i,g,hi,hg,hsb,hh,rfl⟩
 dsimp only
 rw[hN]
 refine T.cnd (λhc=>?_) (λhc=>?_)<;>simp only[bD,bq]at hc
 .have hil:i<ns.length:=by omega
  have hsi:=hs i hil
  have hle:=hsi.len hd
  have h1:=hsi.1
  have h2:=hsi.2.1
  have h5:=hsi.2.2.2.2.1
  have eN:atI ns (i:Int) (0,[],[],())=ns.getD i zN:=by rw[dF];rfl
  have hC:=aR (ns.getD i zN).2.1
  have b1:bnd (i:Int) (ns.length:Int)=true:=by rw[bf];omega
  refine T.loop (λq=>∃(k:Nat) (g:List (List Int)),k<=(ns.getD i zN).2.1.length/\GOk (doms l) g/\Sub g0 g/\Has ns i g/\(∀j,j<k->(ns.getD i zN).2.1.getD j 0∈g.getD (ns.getD i zN).1.toNat [])/\q=(g,(i:Int),(k:Int),l,ns,root,())) (λq=>(ns.getD i zN).2.1.length-q.2.2.1.toNat) ⟨0,g,by omega,hg,hsb,hh,λj hj=>by omega,rfl⟩ ?_
  rintro _ ⟨k,g,hk,hg,hsb,hh,hj,rfl⟩
  dsimp only
  rw[eN,hC,hN,dF]
  refine T.grd b1 (T.cnd (λhc2=>?_) (λhc2=>?_))<;>simp only[bD,bq]at hc2
  .have hkl:k<(ns.getD i zN).2.1.length:=by omega
   have hck:=h5 k hkl
   have hgd:=hg.1
   have hal:(ns.getD i zN).1.toNat<l.length:=by omega
   have ea:(ns.getD i zN).1=((ns.getD i zN).1.toNat:Int):=by omega
   have hcm:=Yw l hv g (by omega) (λr hr=>by have:=hg.len hd r hr;omega) (ns.getD i zN).1.toNat hal ((ns.getD i zN).2.1.getD k 0)
   rw[<- ea]at hcm
   refine T.grd b1 (T.grd b1 (T.grd (by rw[bf];omega) (T.dh hcm ?_)))
   have hs2:=a1z (dm:=doms l) g (ns.getD i zN).1.toNat (by omega) ((ns.getD i zN).2.1.getD k 0)
   refine T.go ⟨k+1,_,by omega,(TW hg (by omega) _).1,hsb.trans hs2,λr hr c hc=>(hs2.2 _).1 c (hh r hr c hc),λj hj2=>?_,by rw[aY (by omega) (by omega)];rfl⟩ (by dsimp only;rw[aY (by omega) (by omega)];omega)
   rcases aM j k with q|q
   .exact(hs2.2 _).1 _ (hj j q)
   .obtain rfl:j=k:=by omega
    exact a1A g _ (by omega) _ hck.1 hck.2.1
  .obtain rfl:k=(ns.getD i zN).2.1.length:=by omega
   refine T.out (show LQ _ _ _ _ (Sum.inl _) from⟨⟨i+1,g,by omega,hg,hsb,λr hr c hcm=>?_,by rw[aY (by omega) (by omega)];rfl⟩,by dsimp only;rw[aY (by omega) (by omega)];omega⟩)
   rcases aM r i with q|q
   .exact hh r q c hcm
   .obtain rfl:r=i:=by omega
    obtain⟨j,hjl,rfl⟩:=fD hcm
    have:=hj j hjl
    rwa [getD_eq _ _ _ hjl]at this
 .obtain rfl:i=ns.length:=by omega
  exact T.out ⟨hg,hsb,hh⟩
theorem a1I(g:List (List Int))(hl:g.length<=6)(hp:∀r∈g,1<=r.length/\r.length<=2000000001):T (m47 g) (λy=>(y.1<=8192->y.1=(bS g:Int))/\(8192<y.1->8192<bS g)):=by
 unfold m47
 have hG:=aR g
 have pd:∀g':List (List Int),(∀r∈g',1<=r.length)->1<=bS g':=by
  intro g'
  induction g' with
  |nil=>intro _;simp[bS]
  |cons r g' ih=>intro h;simp only[bS];exact gH (h r (by simp)) (ih λx hx=>h x (by simp[hx]))
 refine T.loop (λq=>∃(i n:Nat),i<=g.length/\((n<=8192/\n*bS (g.drop i)=bS g)\/(n=8193/\8192<bS g))/\q=(g,(n:Int),(i:Int),())) (λq=>g.length-q.2.2.1.toNat) ⟨0,1,by omega,.inl ⟨by omega,by simp⟩,rfl⟩ ?_
 rintro _ ⟨i,n,hi,hn,rfl⟩
 dsimp only
 rw[hG,dF]
 refine T.cnd (λhc2=>?_) (λhc2=>?_)<;>simp only[bD,bq]at hc2
 .have hil:i<g.length:=by omega
  rw[getD_eq _ _ _ hil,aR]
  have hpi:=hp _ (aJ hil)
  have h1:1<=bS (g.drop (i+1)):=pd _ λr hr=>(hp r (l6 hr)).1
  have hn8:n<=8193:=by omega
  have hub:n*g[i].length<=8193*2000000001:=gH hn8 hpi.2
  have e:((n:Int)*(g[i].length:Int))=((n*g[i].length:Nat):Int):=by push_cast;rfl
  refine T.grd (by rw[bf];omega) (T.go ⟨i+1,min (n*g[i].length) 8193,by omega,?_,?_⟩ (by dsimp only;rw[aY (by omega) (by omega)];omega))
  .rcases hn with⟨a,b⟩|⟨a,b⟩
   .rw[sS g i hil,<- yC]at b
    rcases aM (n*g[i].length) 8193 with q|q
    .left;rw[oq (by omega)];exact⟨by omega,b⟩
    .right
     refine⟨by omega,?_⟩
     have:n*g[i].length*1<=n*g[i].length*bS (g.drop (i+1)):=gH (bF _) h1
     omega
   .right
    subst a
    have:8193*1<=8193*g[i].length:=gH (bF _) hpi.1
    exact⟨by omega,b⟩
  .rw[aY (by omega) (by omega),jC (by omega) (by omega),e]
   unfold pW
   have:min ((n*g[i].length:Nat):Int) 8193=((min (n*g[i].length) 8193:Nat):Int):=by omega
   rw[this];rfl
 .obtain rfl:i=g.length:=by omega
  refine T.out ?_
  rw[nR]at hn
  simp only[bS,lJ]at hn
  dsimp only
  omega
def atS(g:List (List Int))(k:Nat):List Int:=(List.range g.length).map λt=>(g.getD t []).getD ((k/bS (g.drop (t+1)))%(g.getD t []).length) 0
theorem ED(g:List (List Int))(k:Nat):(atS g k).length=g.length:=by simp[atS]
theorem a10(g:List (List Int))(k t:Nat)(h:t<g.length):(atS g k).getD t 0=(g.getD t []).getD ((k/bS (g.drop (t+1)))%(g.getD t []).length) 0:=by
 rw[getD_eq _ _ _ (by rw[ED];exact h)];simp[atS]
theorem a97(g:List (List Int))(hl:g.length<=6)(hp:∀r∈g,1<=r.length/\r.length<=2000000001)(k:Nat)(hk:k<=8192):m52 g (k:Int)=some (atS g k,()):=by
 refine T.eq ?_
 unfold m52
 have hG:=aR g
 rw[hG]
 refine T.grd (by rw[gM];omega) ?_
 rw[aZ]
 refine T.loop (λq=>∃(j:Nat) (f:List Int),j<=g.length/\f.length=g.length/\(∀t,j<=t->t<g.length->f.getD t 0=(atS g k).getD t 0)/\q=(g,((k/bS (g.drop j):Nat):Int),(j:Int)-1,f,())) (λq=>(q.2.2.1+1).toNat) ⟨g.length,List.replicate g.length 0,by omega,by simp,λt a b=>by omega,?_⟩ ?_
 .rw[nR,eF (by omega) (by omega)];simp[bS]
 rintro _ ⟨j,f,hj,hf,hg,rfl⟩
 dsimp only
 have hfI:=aR f
 rw[hG,hfI]
 refine T.cnd (λhc=>?_) (λhc=>?_)<;>simp only[fU,gq]at hc
 .obtain⟨t,rfl⟩:∃t,j=t+1:=⟨j-1,by omega⟩
  have e1:((t+1:Nat):Int)-1=(t:Int):=by omega
  have htl:t<g.length:=by omega
  rw[e1,dF,getD_eq _ _ _ htl]
  have hpi:=hp _ (aJ htl)
  have hR:=aR g[t]
  rw[hR]
  generalize hm:k/bS (g.drop (t+1))=m
  have hmk:m<=8192:=by rw[<- hm];exact cZ (Nat.div_le_self _ _) hk
  have er:tZ (m:Int) (g[t].length:Int)=((m%g[t].length:Nat):Int):=by
   rw[M5 (by omega)];omega
  have eq1:rM .i64 (m:Int) (g[t].length:Int)=((m/g[t].length:Nat):Int):=by
   unfold rM
   have hle:m/g[t].length<=m:=Nat.div_le_self _ _
   have hle0:(0:Int)<=((m/g[t].length:Nat):Int):=Int.natCast_nonneg _
   rw[jy (by omega),<- rQ,wrap64 (by omega) (by omega)]
  have hml:m%g[t].length<g[t].length:=Nat.mod_lt _ (by omega)
  have b1:bnd (t:Int) (g.length:Int)=true:=by rw[bf];omega
  rw[er,eq1,dF,aZ]
  refine T.grd b1 (T.grd b1 (T.grd (by rw[fZ];omega) (T.grd (by rw[bf];omega) (T.grd (by rw[bf];omega) (T.grd (by rw[dU];omega) (T.grd b1 (T.grd (by rw[fZ];omega) ?_)))))))
  refine T.go ⟨t,f.set t (g[t].getD (m%g[t].length) 0),by omega,by rw[bK];exact hf,λu h1 h2=>?_,?_⟩ ?_
  .rw[nN f t u _ _ (by omega)]
   split
   .rename_i e;subst e
    rw[a10 g k t htl,hm,getD_eq g t [] htl]
   .exact hg u (by omega) h2
  .rw[eF (by omega) (by omega),sS g t htl,wh,<- Nat.div_div_eq_div_mul,hm]
  .dsimp only;rw[eF (by omega) (by omega)];omega
 .obtain rfl:j=0:=by omega
  refine T.out ?_
  congr 1
  apply gB (by rw[hf,ED])
  intro t h1 h2
  have:=hg t (by omega) (by omega)
  rwa [getD_eq _ _ _ h1,getD_eq _ _ _ h2]at this
end
end Abs
end Go.Proofs.YtgfnhpadmifiiaaDoor
