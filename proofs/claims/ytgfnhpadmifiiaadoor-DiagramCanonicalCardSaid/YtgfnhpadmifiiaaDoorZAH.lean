/- Merged and trimmed by a program: E1 E2 D1 D2 D3 D4 D5 D6 D7 D8 D9 D10 D11 D12 D13 D14 D15 D16 D17 D18 D19 D20 D21. -/
import Derived.Test.YtgfnhpadmifiiaaDoorZAG
set_option linter.unusedVariables false
set_option linter.unusedSimpArgs false
set_option linter.defProp false
namespace Go.Proofs.YtgfnhpadmifiiaaDoor
namespace Abs
def jq (L:List Int) (a:Int):Prop:=(∀ x∈L,-9223372036854775808<=x/\x<=9223372036854775807)/\L.length<=9223372036854775807/\0<=a
theorem Vd {L:List Int} {a n:Int} (h:jq L a) (hn:0<n) (hn2:n<=4611686018427387904):∃ v a',m45 n L a=some (v,L,a',())/\0<=v/\v<n/\jq L a'/\a<=a'/\(a<(L.length:Int)->a'=a+1):=by
 obtain⟨h1,h2,h3⟩:=h
 unfold m45
 by_cases hl:(L.length:Int)<=a
 ·refine⟨0,a,?_,by omega,hn,⟨h1,h2,h3⟩,Int.le_refl _,fun q=>by omega⟩
  rw[a0Y (by simpa [aj]using hl)];rfl
 ·have hlt:a.toNat<L.length:=by omega
  have ha:a=(a.toNat:Int):=by omega
  have hx:=h1 L[a.toNat] (List.getElem_mem _)
  have e1:dS .i64 (aM .i64 a 1) 1=(a.toNat:Int):=by rw[aF (by omega) (by omega),bS (by omega) (by omega)];omega
  have b1:=Int.tmod_lt_of_pos L[a.toNat] hn
  have b2:-n<L[a.toNat].tmod n:=by have:=Int.lt_tmod_of_pos L[a.toNat] hn;omega
  have e2:aM .i64 (oZ L[a.toNat] n) n=L[a.toNat].tmod n+n:=aF (by simp only[oZ];omega) (by simp only[oZ];omega)
  refine⟨(L[a.toNat].tmod n+n)%n,a+1,?_,Int.emod_nonneg _ (by omega),Int.emod_lt_of_pos _ hn,⟨h1,h2,by omega⟩,by omega,fun _=>rfl⟩
  rw[a0Z (by simp only[aj];omega),e1]
  simp (disch:=omega) only[cond_false,a2b,aj,cond_true,a0X,WG,e2,aF,Qd]
theorem uD {L:List Int} {a n:Int} (h:jq L a) (hn:0<n) (hn2:n<=4611686018427387904):T (m45 n L a) (fun y=>jq y.2.1 y.2.2.1/\0<=y.1/\y.1<n):=by
 obtain⟨v,a',e,h1,h2,h3,_⟩:=Vd h hn hn2
 exact⟨_,e,h3,h1,h2⟩
theorem uw (s:ByteArray):sLen s=(s.size:Int):=rfl
def spn (p:Int->Bool) (s:ByteArray):Nat->Nat->Nat
 |0,i=>i
 |n+1,i=>if p (sAt s (i:Int))=true then spn p s n (i+1) else i
def nQ (p:Int->Bool) (s:ByteArray) (i:Nat):Nat:=spn p s (s.size-i) i
theorem Aa (p:Int->Bool) (s:ByteArray) (i:Nat) (h:i<s.size):nQ p s i=if p (sAt s (i:Int))=true then nQ p s (i+1) else i:=by
 unfold nQ
 obtain⟨n,hn⟩:∃ n,s.size-i=n+1:=⟨s.size-i-1,by omega⟩
 rw[hn]
 conv=>lhs;unfold spn
 rw[show s.size-(i+1)=n by omega]
theorem Cy (p:Int->Bool) (s:ByteArray):nQ p s s.size=s.size:=by unfold nQ;rw[Nat.sub_self];rfl
def isLet (c:Int):Bool:=decide (97<=c/\c<=122)
def y9 (c:Int):Bool:=decide (48<=c/\c<=57)
def kY (c:Int):Bool:=isLet c||y9 c||decide (c=45)
theorem RS (c:Int):m99 c=some (isLet c,()):=by unfold m99 isLet iLe;by_cases h:97<=c<;>simp[h]
theorem RQ (c:Int):BR c=some (isLet c,()):=by unfold BR isLet iLe;by_cases h:97<=c<;>simp[h]
theorem a14 (c:Int):FE c=some (y9 c,()):=by unfold FE y9 iLe;by_cases h:48<=c<;>simp[h]
theorem a13 (c:Int):FH c=some (y9 c,()):=by unfold FH y9 iLe;by_cases h:48<=c<;>simp[h]
theorem ZP (c:Int):FJ c=some (kY c,()):=by
 unfold FJ kY
 rw[RS,a14]
 simp only[Option.bind_some]
 cases isLet c<;>cases y9 c<;>simp[iEq,BEq.beq]
theorem ZW (s:ByteArray) (i:Nat) (hi:i<=s.size) (hs:s.size<=4611686018427387904):FK s (i:Int) ()=some ((nQ kY s i:Int),()):=by
 refine T.eq ?_
 unfold FK
 refine T.loop (fun q=>∃ j:Nat,j<=s.size/\nQ kY s j=nQ kY s i/\q=(s,(j:Int),(),())) (fun q=>s.size-q.2.1.toNat) ⟨i,hi,rfl,rfl⟩ ?_
 rintro _ ⟨j,hj,he,rfl⟩
 dsimp only
 have hl:=uw s
 refine T.grd (by first|(simp (disch:=omega) only[aG,aD,dL,dN,bf,bn,dx,dK,aH,gM,cu,gK,bG,dM,dU,eZ,fq,gJ,bF,dJ,eF,gN,bY,iX,bg,bq,bV,bW,fH,bP,fI,fA,eq_self,or_true,true_or,and_true,true_and,or_false,false_or,and_false,false_and,not_true_eq_false,not_false_eq_true,Bool.true_eq_false,Bool.false_eq_true,aF,bS,fK,aB,List.length_append,List.length_cons,List.length_nil,List.length_set,List.length_take,List.length_drop,List.length_replicate];omega)|(simp (disch:=omega) only[aG,aD,dL,dN,bf,bn,dx,dK,aH,gM,cu,gK,bG,dM,dU,eZ,fq,gJ,bF,dJ,eF,gN,bY,iX,bg,bq,bV,bW,fH,bP,fI,fA,eq_self,or_true,true_or,and_true,true_and,or_false,false_or,and_false,false_and,not_true_eq_false,not_false_eq_true,Bool.true_eq_false,Bool.false_eq_true,aF,bS,fK,aB,List.length_append,List.length_cons,List.length_nil,List.length_set,List.length_take,List.length_drop,List.length_replicate];done)) ?_
 refine T.cnd (fun hc=>?_) (fun hc=>?_)<;>simp only[aG,aD]at hc
 ·rw[Aa kY s j (by omega)]at he
  refine T.aX (ZP _) ?_
  refine T.cnd (fun hp=>?_) (fun hp=>T.out ?_)
  ·rw[if_pos hp]at he
   refine T.go ⟨j+1,by omega,he,by rw[aF (by omega) (by omega)];rfl⟩ ?_
   dsimp only;rw[aF (by omega) (by omega)];omega
  ·rw[if_neg (by simpa using hp)]at he
   rw[<- he]
 ·refine T.out ?_
  have:j=s.size:=by omega
  subst this
  rw[Cy]at he
  rw[<- he]
def mV (s:ByteArray):Bool:=if s.size=0\/16<s.size then false else if isLet (sAt s 0)=true/\¬ sAt s ((s.size:Int)-1)=45 then decide (nQ kY s 0=s.size) else false
theorem X8 (s:ByteArray) (hs:s.size<=4611686018427387904):m88 s=some (mV s,()):=by
 refine T.eq ?_
 unfold m88 mV
 have hl:=uw s
 refine T.grd (by first|(simp (disch:=omega) only[aG,aD,dL,dN,bf,bn,dx,dK,aH,gM,cu,gK,bG,dM,dU,eZ,fq,gJ,bF,dJ,eF,gN,bY,iX,bg,bq,bV,bW,fH,bP,fI,fA,eq_self,or_true,true_or,and_true,true_and,or_false,false_or,and_false,false_and,not_true_eq_false,not_false_eq_true,Bool.true_eq_false,Bool.false_eq_true,aF,bS,fK,aB,List.length_append,List.length_cons,List.length_nil,List.length_set,List.length_take,List.length_drop,List.length_replicate];omega)|(simp (disch:=omega) only[aG,aD,dL,dN,bf,bn,dx,dK,aH,gM,cu,gK,bG,dM,dU,eZ,fq,gJ,bF,dJ,eF,gN,bY,iX,bg,bq,bV,bW,fH,bP,fI,fA,eq_self,or_true,true_or,and_true,true_and,or_false,false_or,and_false,false_and,not_true_eq_false,not_false_eq_true,Bool.true_eq_false,Bool.false_eq_true,aF,bS,fK,aB,List.length_append,List.length_cons,List.length_nil,List.length_set,List.length_take,List.length_drop,List.length_replicate];done)) ?_
 refine T.cnd (fun hc=>?_) (fun hc=>?_)<;>simp only[aG,aD,dL,dN,bf,bn,dx,dK,aH,gM,cu,gK,bG,dM,dU,eZ,fq,gJ,bF,dJ,eF,gN,bY,iX,bg,bq,bV,bW,fH,bP,fI,fA,eq_self,or_true,true_or,and_true,true_and,or_false,false_or,and_false,false_and,not_true_eq_false,not_false_eq_true,Bool.true_eq_false,Bool.false_eq_true]at hc
 ·refine T.grd (by first|(simp (disch:=omega) only[aG,aD,dL,dN,bf,bn,dx,dK,aH,gM,cu,gK,bG,dM,dU,eZ,fq,gJ,bF,dJ,eF,gN,bY,iX,bg,bq,bV,bW,fH,bP,fI,fA,eq_self,or_true,true_or,and_true,true_and,or_false,false_or,and_false,false_and,not_true_eq_false,not_false_eq_true,Bool.true_eq_false,Bool.false_eq_true,aF,bS,fK,aB,List.length_append,List.length_cons,List.length_nil,List.length_set,List.length_take,List.length_drop,List.length_replicate];omega)|(simp (disch:=omega) only[aG,aD,dL,dN,bf,bn,dx,dK,aH,gM,cu,gK,bG,dM,dU,eZ,fq,gJ,bF,dJ,eF,gN,bY,iX,bg,bq,bV,bW,fH,bP,fI,fA,eq_self,or_true,true_or,and_true,true_and,or_false,false_or,and_false,false_and,not_true_eq_false,not_false_eq_true,Bool.true_eq_false,Bool.false_eq_true,aF,bS,fK,aB,List.length_append,List.length_cons,List.length_nil,List.length_set,List.length_take,List.length_drop,List.length_replicate];done)) (T.ret ?_)
  rw[if_pos (by omega)]
 ·rw[if_neg (by omega)]
  have e1:dS .i64 (sLen s) 1=(s.size:Int)-1:=by rw[bS (by omega) (by omega),hl]
  rw[e1]
  refine T.aX (RS _) ?_
  refine T.grd (by first|(simp (disch:=omega) only[aG,aD,dL,dN,bf,bn,dx,dK,aH,gM,cu,gK,bG,dM,dU,eZ,fq,gJ,bF,dJ,eF,gN,bY,iX,bg,bq,bV,bW,fH,bP,fI,fA,eq_self,or_true,true_or,and_true,true_and,or_false,false_or,and_false,false_and,not_true_eq_false,not_false_eq_true,Bool.true_eq_false,Bool.false_eq_true,aF,bS,fK,aB,List.length_append,List.length_cons,List.length_nil,List.length_set,List.length_take,List.length_drop,List.length_replicate];omega)|(simp (disch:=omega) only[aG,aD,dL,dN,bf,bn,dx,dK,aH,gM,cu,gK,bG,dM,dU,eZ,fq,gJ,bF,dJ,eF,gN,bY,iX,bg,bq,bV,bW,fH,bP,fI,fA,eq_self,or_true,true_or,and_true,true_and,or_false,false_or,and_false,false_and,not_true_eq_false,not_false_eq_true,Bool.true_eq_false,Bool.false_eq_true,aF,bS,fK,aB,List.length_append,List.length_cons,List.length_nil,List.length_set,List.length_take,List.length_drop,List.length_replicate];done)) ?_
  refine T.cnd (fun hc=>T.ret ?_) (fun hc=>?_)<;>simp only[aG,aD,dL,dN,bf,bn,dx,dK,aH,gM,cu,gK,bG,dM,dU,eZ,fq,gJ,bF,dJ,eF,gN,bY,iX,bg,bq,bV,bW,fH,bP,fI,fA,eq_self,or_true,true_or,and_true,true_and,or_false,false_or,and_false,false_and,not_true_eq_false,not_false_eq_true,Bool.true_eq_false,Bool.false_eq_true]at hc
  ·rw[if_neg]
   rintro⟨q1,q2⟩
   rcases hc with q|q
   ·rw[q1]at q;cases q
   ·exact q2 q
  ·rw[if_pos ⟨hc.1,hc.2⟩]
   refine T.aX (ZW s 0 (by omega) hs) (T.ret ?_)
   congr 1
   rw[hl,Bool.eq_iff_iff]
   simp only[bf,decide_eq_true_eq]
   omega
theorem LP (p:Int->Bool) (s:ByteArray):∀ (n i:Nat),i+n=s.size->(nQ p s i=s.size↔∀ j,i<=j->j<s.size->p (sAt s (j:Int))=true):=by
 intro n
 induction n with
 |zero =>
  intro i hi
  have:i=s.size:=by omega
  subst this
  rw[Cy]
  exact⟨fun _ j h1 h2=>by omega,fun _=>rfl⟩
 |succ n ih =>
  intro i hi
  rw[Aa p s i (by omega)]
  have:=ih (i+1) (by omega)
  by_cases hp:p (sAt s (i:Int))=true
  ·rw[if_pos hp,this]
   constructor
   ·intro h j h1 h2
    rcases Nat.eq_or_lt_of_le h1 with q|q
    ·rw[<- q];exact hp
    ·exact h j q h2
   ·intro h j h1 h2;exact h j (by omega) h2
  ·rw[if_neg hp]
   constructor
   ·intro h;omega
   ·intro h;exact absurd (h i (Nat.le_refl _) (by omega)) hp
theorem X7 (s:ByteArray) (hs:s.size<=4611686018427387904):m91 s=some (mV s,()):=by
 refine T.eq ?_
 unfold m91 mV
 have hl:=uw s
 refine T.grd (by first|(simp (disch:=omega) only[aG,aD,dL,dN,bf,bn,dx,dK,aH,gM,cu,gK,bG,dM,dU,eZ,fq,gJ,bF,dJ,eF,gN,bY,iX,bg,bq,bV,bW,fH,bP,fI,fA,eq_self,or_true,true_or,and_true,true_and,or_false,false_or,and_false,false_and,not_true_eq_false,not_false_eq_true,Bool.true_eq_false,Bool.false_eq_true,aF,bS,fK,aB,List.length_append,List.length_cons,List.length_nil,List.length_set,List.length_take,List.length_drop,List.length_replicate];omega)|(simp (disch:=omega) only[aG,aD,dL,dN,bf,bn,dx,dK,aH,gM,cu,gK,bG,dM,dU,eZ,fq,gJ,bF,dJ,eF,gN,bY,iX,bg,bq,bV,bW,fH,bP,fI,fA,eq_self,or_true,true_or,and_true,true_and,or_false,false_or,and_false,false_and,not_true_eq_false,not_false_eq_true,Bool.true_eq_false,Bool.false_eq_true,aF,bS,fK,aB,List.length_append,List.length_cons,List.length_nil,List.length_set,List.length_take,List.length_drop,List.length_replicate];done)) ?_
 refine T.cnd (fun hc=>?_) (fun hc=>?_)<;>simp only[aG,aD,dL,dN,bf,bn,dx,dK,aH,gM,cu,gK,bG,dM,dU,eZ,fq,gJ,bF,dJ,eF,gN,bY,iX,bg,bq,bV,bW,fH,bP,fI,fA,eq_self,or_true,true_or,and_true,true_and,or_false,false_or,and_false,false_and,not_true_eq_false,not_false_eq_true,Bool.true_eq_false,Bool.false_eq_true]at hc
 ·refine T.grd (by first|(simp (disch:=omega) only[aG,aD,dL,dN,bf,bn,dx,dK,aH,gM,cu,gK,bG,dM,dU,eZ,fq,gJ,bF,dJ,eF,gN,bY,iX,bg,bq,bV,bW,fH,bP,fI,fA,eq_self,or_true,true_or,and_true,true_and,or_false,false_or,and_false,false_and,not_true_eq_false,not_false_eq_true,Bool.true_eq_false,Bool.false_eq_true,aF,bS,fK,aB,List.length_append,List.length_cons,List.length_nil,List.length_set,List.length_take,List.length_drop,List.length_replicate];omega)|(simp (disch:=omega) only[aG,aD,dL,dN,bf,bn,dx,dK,aH,gM,cu,gK,bG,dM,dU,eZ,fq,gJ,bF,dJ,eF,gN,bY,iX,bg,bq,bV,bW,fH,bP,fI,fA,eq_self,or_true,true_or,and_true,true_and,or_false,false_or,and_false,false_and,not_true_eq_false,not_false_eq_true,Bool.true_eq_false,Bool.false_eq_true,aF,bS,fK,aB,List.length_append,List.length_cons,List.length_nil,List.length_set,List.length_take,List.length_drop,List.length_replicate];done)) (T.ret ?_)
  rw[if_pos (by omega)]
 ·rw[if_neg (by omega)]
  have e1:dS .i64 (sLen s) 1=(s.size:Int)-1:=by rw[bS (by omega) (by omega),hl]
  rw[e1]
  refine T.aX (RQ _) ?_
  refine T.grd (by first|(simp (disch:=omega) only[aG,aD,dL,dN,bf,bn,dx,dK,aH,gM,cu,gK,bG,dM,dU,eZ,fq,gJ,bF,dJ,eF,gN,bY,iX,bg,bq,bV,bW,fH,bP,fI,fA,eq_self,or_true,true_or,and_true,true_and,or_false,false_or,and_false,false_and,not_true_eq_false,not_false_eq_true,Bool.true_eq_false,Bool.false_eq_true,aF,bS,fK,aB,List.length_append,List.length_cons,List.length_nil,List.length_set,List.length_take,List.length_drop,List.length_replicate];omega)|(simp (disch:=omega) only[aG,aD,dL,dN,bf,bn,dx,dK,aH,gM,cu,gK,bG,dM,dU,eZ,fq,gJ,bF,dJ,eF,gN,bY,iX,bg,bq,bV,bW,fH,bP,fI,fA,eq_self,or_true,true_or,and_true,true_and,or_false,false_or,and_false,false_and,not_true_eq_false,not_false_eq_true,Bool.true_eq_false,Bool.false_eq_true,aF,bS,fK,aB,List.length_append,List.length_cons,List.length_nil,List.length_set,List.length_take,List.length_drop,List.length_replicate];done)) ?_
  refine T.cnd (fun hc=>T.ret ?_) (fun hc=>?_)<;>simp only[aG,aD,dL,dN,bf,bn,dx,dK,aH,gM,cu,gK,bG,dM,dU,eZ,fq,gJ,bF,dJ,eF,gN,bY,iX,bg,bq,bV,bW,fH,bP,fI,fA,eq_self,or_true,true_or,and_true,true_and,or_false,false_or,and_false,false_and,not_true_eq_false,not_false_eq_true,Bool.true_eq_false,Bool.false_eq_true]at hc
  ·rw[if_neg]
   rintro⟨q1,q2⟩
   rcases hc with q|q
   ·rw[q1]at q;cases q
   ·exact q2 q
  ·rw[if_pos ⟨hc.1,hc.2⟩]
   have key:=LP kY s s.size 0 (by omega)
   refine T.loop (fun q=>∃ j:Nat,j<=s.size/\(∀ k,k<j->kY (sAt s (k:Int))=true)/\q=(s,(j:Int),())) (fun q=>s.size-q.2.1.toNat) ⟨0,by omega,fun k hk=>by omega,rfl⟩ ?_
   rintro _ ⟨j,hj,he,rfl⟩
   dsimp only
   have go:j<s.size->kY (sAt s (j:Int))=true->T (some (Sum.inl (β:=Bool×Unit) (s,aM .i64 (j:Int) 1,()))) (LQ (fun q=>∃ j:Nat,j<=s.size/\(∀ k,k<j->kY (sAt s (k:Int))=true)/\q=(s,(j:Int),())) (fun q=>s.size-q.2.1.toNat) (s.size-(j:Int).toNat) (fun x=>x=(decide (nQ kY s 0=s.size),()))):=fun hlt hw=>by
    refine T.go ⟨j+1,by omega,fun k hk=>?_,by rw[aF (by omega) (by omega)];rfl⟩ ?_
    ·rcases Nat.lt_or_ge k j with q|q
     ·exact he k q
     ·rw[show k=j by omega];exact hw
    ·dsimp only;rw[aF (by omega) (by omega)];omega
   refine T.cnd (fun hc=>?_) (fun hc=>?_)<;>simp only[aG,aD]at hc
   ·have hlt:j<s.size:=by omega
    refine T.grd (by first|(simp (disch:=omega) only[aG,aD,dL,dN,bf,bn,dx,dK,aH,gM,cu,gK,bG,dM,dU,eZ,fq,gJ,bF,dJ,eF,gN,bY,iX,bg,bq,bV,bW,fH,bP,fI,fA,eq_self,or_true,true_or,and_true,true_and,or_false,false_or,and_false,false_and,not_true_eq_false,not_false_eq_true,Bool.true_eq_false,Bool.false_eq_true,aF,bS,fK,aB,List.length_append,List.length_cons,List.length_nil,List.length_set,List.length_take,List.length_drop,List.length_replicate];omega)|(simp (disch:=omega) only[aG,aD,dL,dN,bf,bn,dx,dK,aH,gM,cu,gK,bG,dM,dU,eZ,fq,gJ,bF,dJ,eF,gN,bY,iX,bg,bq,bV,bW,fH,bP,fI,fA,eq_self,or_true,true_or,and_true,true_and,or_false,false_or,and_false,false_and,not_true_eq_false,not_false_eq_true,Bool.true_eq_false,Bool.false_eq_true,aF,bS,fK,aB,List.length_append,List.length_cons,List.length_nil,List.length_set,List.length_take,List.length_drop,List.length_replicate];done)) ?_
    refine T.aX (RQ _) ?_
    refine T.grd (by first|(simp (disch:=omega) only[aG,aD,dL,dN,bf,bn,dx,dK,aH,gM,cu,gK,bG,dM,dU,eZ,fq,gJ,bF,dJ,eF,gN,bY,iX,bg,bq,bV,bW,fH,bP,fI,fA,eq_self,or_true,true_or,and_true,true_and,or_false,false_or,and_false,false_and,not_true_eq_false,not_false_eq_true,Bool.true_eq_false,Bool.false_eq_true,aF,bS,fK,aB,List.length_append,List.length_cons,List.length_nil,List.length_set,List.length_take,List.length_drop,List.length_replicate];omega)|(simp (disch:=omega) only[aG,aD,dL,dN,bf,bn,dx,dK,aH,gM,cu,gK,bG,dM,dU,eZ,fq,gJ,bF,dJ,eF,gN,bY,iX,bg,bq,bV,bW,fH,bP,fI,fA,eq_self,or_true,true_or,and_true,true_and,or_false,false_or,and_false,false_and,not_true_eq_false,not_false_eq_true,Bool.true_eq_false,Bool.false_eq_true,aF,bS,fK,aB,List.length_append,List.length_cons,List.length_nil,List.length_set,List.length_take,List.length_drop,List.length_replicate];done)) ?_
    refine T.cnd (fun h1=>?_) (fun h1=>?_)<;>simp only[bF,dJ]at h1
    ·refine T.aX (a13 _) ?_
     refine T.grd (by first|(simp (disch:=omega) only[aG,aD,dL,dN,bf,bn,dx,dK,aH,gM,cu,gK,bG,dM,dU,eZ,fq,gJ,bF,dJ,eF,gN,bY,iX,bg,bq,bV,bW,fH,bP,fI,fA,eq_self,or_true,true_or,and_true,true_and,or_false,false_or,and_false,false_and,not_true_eq_false,not_false_eq_true,Bool.true_eq_false,Bool.false_eq_true,aF,bS,fK,aB,List.length_append,List.length_cons,List.length_nil,List.length_set,List.length_take,List.length_drop,List.length_replicate];omega)|(simp (disch:=omega) only[aG,aD,dL,dN,bf,bn,dx,dK,aH,gM,cu,gK,bG,dM,dU,eZ,fq,gJ,bF,dJ,eF,gN,bY,iX,bg,bq,bV,bW,fH,bP,fI,fA,eq_self,or_true,true_or,and_true,true_and,or_false,false_or,and_false,false_and,not_true_eq_false,not_false_eq_true,Bool.true_eq_false,Bool.false_eq_true,aF,bS,fK,aB,List.length_append,List.length_cons,List.length_nil,List.length_set,List.length_take,List.length_drop,List.length_replicate];done)) ?_
     refine T.cnd (fun h2=>T.out ?_) (fun h2=>?_)<;>simp only[aG,aD,dL,dN,bf,bn,dx,dK,aH,gM,cu,gK,bG,dM,dU,eZ,fq,gJ,bF,dJ,eF,gN,bY,iX,bg,bq,bV,bW,fH,bP,fI,fA,eq_self,or_true,true_or,and_true,true_and,or_false,false_or,and_false,false_and,not_true_eq_false,not_false_eq_true,Bool.true_eq_false,Bool.false_eq_true]at h2
     ·rw[decide_eq_false]
      intro q
      have:=key.1 q j (by omega) hlt
      unfold kY at this
      rw[h1,h2.1]at this
      simp at this
      exact h2.2 this
     ·refine go hlt ?_
      unfold kY
      rcases h2 with q|q
      ·rw[q];simp
      ·rw[decide_eq_true q];simp
    ·refine T.grd (by first|(simp (disch:=omega) only[aG,aD,dL,dN,bf,bn,dx,dK,aH,gM,cu,gK,bG,dM,dU,eZ,fq,gJ,bF,dJ,eF,gN,bY,iX,bg,bq,bV,bW,fH,bP,fI,fA,eq_self,or_true,true_or,and_true,true_and,or_false,false_or,and_false,false_and,not_true_eq_false,not_false_eq_true,Bool.true_eq_false,Bool.false_eq_true,aF,bS,fK,aB,List.length_append,List.length_cons,List.length_nil,List.length_set,List.length_take,List.length_drop,List.length_replicate];omega)|(simp (disch:=omega) only[aG,aD,dL,dN,bf,bn,dx,dK,aH,gM,cu,gK,bG,dM,dU,eZ,fq,gJ,bF,dJ,eF,gN,bY,iX,bg,bq,bV,bW,fH,bP,fI,fA,eq_self,or_true,true_or,and_true,true_and,or_false,false_or,and_false,false_and,not_true_eq_false,not_false_eq_true,Bool.true_eq_false,Bool.false_eq_true,aF,bS,fK,aB,List.length_append,List.length_cons,List.length_nil,List.length_set,List.length_take,List.length_drop,List.length_replicate];done)) (go hlt ?_)
     unfold kY;rw[h1];rfl
   ·refine T.out ?_
    rw[decide_eq_true]
    exact key.2 fun k _ hk=>he k (by omega)
theorem Di (a b:Bool):(cond a (some (true,())) (some (b,())):Option (Bool×Unit))=some (a||b,()):=by cases a<;>rfl
noncomputable def BF (s:ByteArray):Bool:=(m89 s).elim false fun y=>y.1
theorem Ri (s:ByteArray):m89 s=some (BF s,()):=by
 have h:∃ b,m89 s=some (b,()):=by
  unfold m89
  simp only[Di]
  exact⟨_,rfl⟩
 obtain⟨b,h⟩:=h
 unfold BF
 rw[h];rfl
theorem a0a (s:ByteArray):m92 s=some (BF s,()):=(show m92 s=m89 s from rfl).trans (Ri s)
noncomputable def DV (s:ByteArray):Bool:=mV s&&!BF s
theorem Zn {a b:ByteArray} (h:uL a=uL b):a=b:=by
 have key:∀ (l m:List UInt8),(l.map fun c=>(c.toNat:Int))=(m.map fun c=>(c.toNat:Int))->l=m:=by
  intro l
  induction l with
  |nil=>intro m h;cases m with
   |nil=>rfl
   |cons=>cases h
  |cons x l ih =>
   intro m h
   cases m with
   |nil=>cases h
   |cons y m =>
    simp only[List.map_cons,List.cons.injEq]at h
    have:x=y:=UInt8.toNat_inj.1 (by omega)
    rw[this,ih m h.2]
 have:=key _ _ h
 cases a;cases b
 simp at this;rw[this]
theorem Us (a b:ByteArray):sEq a b=decide (uL a=uL b):=by
 rcases h:sEq a b with _|_
 ·rw[Ah]at h;symm;rw[decide_eq_false_iff_not];exact fun q=>h (Zn q)
 ·rw[Ag]at h;subst h;symm;rw[decide_eq_true_eq]
theorem Uy {a b:Int} (h:0<=a):oZ a b=a%b:=by unfold oZ;rw[Int.tmod_eq_emod_of_nonneg h]
def eqB (a b:ByteArray):Bool:=decide (uL a=uL b)
theorem r9 (a b:ByteArray):sEq a b=eqB a b:=Us a b
theorem a10 {a b:ByteArray}:(eqB a b=true)=(a=b):=by rw[<- r9,Ag]
def RES:List ByteArray:=[bs [97,110,100],bs [97,118,101,114,97,103,101],bs [99,111,105,110,115,117,114,97,110,99,101],bs [99,111,110,100,105,116,105,111,110],bs [99,111,118,101,114],bs [100,101,100,117,99,116,105,98,108,101],bs [100,101,102,105,110,101],bs [101,110,100],bs [101,110,100,111,114,115,101],bs [101,120,99,108,117,100,101],bs [102,97,108,115,101],bs [102,114,97,110,99,104,105,115,101],bs [102,114,111,109],bs [105,110],bs [108,105,109,105,116],bs [110,111,116],bs [111,114],bs [114,101,109,111,118,101],bs [115,117,98,108,105,109,105,116],bs [116,111],bs [116,114,117,101],bs [117,110,108,101,115,115],bs [119,104,101,110]]
theorem Uw (s:ByteArray):BF s=RES.any (fun w=>eqB s w):=by
 unfold BF m89
 simp only[Di,r9,Option.elim,RES,List.any_cons,List.any_nil,Bool.or_false]
def jF (s:ByteArray):Bool:=mV s&&!RES.any (fun w=>eqB s w)
theorem IC (s:ByteArray):DV s=jF s:=by unfold DV jF;rw[Uw]
theorem Ou (s:ByteArray):m88 s=some (mV s,()):=by
 by_cases h:s.size<=4611686018427387904
 ·exact X8 s h
 ·refine T.eq ?_
  unfold m88 mV
  have hl:=uw s
  refine T.grd (by rw[bY,aH];left;omega) ?_
  refine T.ct (by rw[bV,bf,aG];omega) ?_
  refine T.grd (by rw[bY];right;rfl) (T.ret ?_)
  rw[if_pos (by omega)]
theorem LB (s:ByteArray):m91 s=some (mV s,()):=by
 by_cases h:s.size<=4611686018427387904
 ·exact X7 s h
 ·refine T.eq ?_
  unfold m91 mV
  have hl:=uw s
  refine T.grd (by rw[bY,aH];left;omega) ?_
  refine T.ct (by rw[bV,aG,aG];omega) ?_
  refine T.grd (by rw[bY];right;rfl) (T.ret ?_)
  rw[if_pos (by omega)]
theorem nm (s:ByteArray):m73 s=some (jF s,()):=by
 rw[<- IC]
 unfold m73 DV
 rw[Ou s,Ri]
 cases mV s<;>rfl
theorem nr (s:ByteArray):m77 s=some (jF s,()):=by
 rw[<- IC]
 unfold m77 DV
 rw[LB s,a0a]
 cases mV s<;>rfl
theorem KW (l:List ByteArray) (w:ByteArray) (hl:l.length<=9223372036854775807):FI l w=some (l.any (fun x=>eqB w x),()):=by
 refine T.eq ?_
 unfold FI Kh
 refine T.call (P:=fun y=>(0<=y.1↔l.any (fun x=>eqB w x)=true)) ?_ ?_
 ·refine T.loop (fun q=>∃ i:Nat,i<=l.length/\(l.take i).any (fun x=>eqB w x)=false/\q=(l,w,aj l,(i:Int),())) (fun q=>l.length-q.2.2.2.1.toNat) ⟨0,by omega,rfl,rfl⟩ ?_
  rintro _ ⟨i,hi,hf,rfl⟩
  dsimp only
  refine T.cnd (fun hc=>?_) (fun hc=>?_)<;>simp only[aG,aD,aB]at hc
  ·have hlt:i<l.length:=by omega
   refine T.grd (by rw[aH,aB];omega) ?_
   have ea:atI l (i:Int) ByteArray.empty=l[i]:=by unfold atI;rw[Int.toNat_natCast,List.getD_eq_getElem?_getD,List.getElem?_eq_getElem hlt];rfl
   rw[ea,r9]
   refine T.cnd (fun hc2=>T.out ?_) (fun hc2=>T.go ⟨i+1,by omega,?_,?_⟩ ?_)
   ·dsimp only
    refine⟨fun _=>List.any_eq_true.2 ⟨l[i],List.getElem_mem hlt,hc2⟩,fun _=>by omega⟩
   ·rw[List.take_succ_eq_append_getElem hlt,List.any_append,hf]
    simp[hc2]
   ·rw[aF (by omega) (by omega)];rfl
   ·dsimp only;rw[aF (by omega) (by omega)];omega
  ·refine T.out ?_
   obtain rfl:i=l.length:=by omega
   rw[List.take_length]at hf
   dsimp only
   rw[hf];simp
 ·rintro⟨v,_⟩ hv
  refine T.ret ?_
  dsimp only at hv ⊢
  congr 1
  rcases h:l.any (fun x=>eqB w x) with _|_
  ·rw[h]at hv;rw[dN];have:¬ 0<=v:=fun q=>by have:=hv.1 q;cases this
   omega
  ·rw[h]at hv;rw[dL];exact hv.2 rfl
def vR (l:List ByteArray) (i:Nat):Bool:=(l.take i).any (fun x=>eqB (l.getD i ByteArray.empty) x)
def um (l:List ByteArray):Int:=if l.length=0 then 19 else if 12<l.length then 4 else if l.all jF=true then (if (List.range l.length).any (vR l)=true then 8 else 0) else 6
theorem qh {α:Type} (l:List α) (i:Nat) (z:α) (h:i<l.length):atI l (i:Int) z=l[i]:=by unfold atI;rw[Int.toNat_natCast,List.getD_eq_getElem?_getD,List.getElem?_eq_getElem h];rfl
theorem GQ {α:Type} (l:List α) (p:α->Bool) (i:Nat) (h:i<l.length) (hf:(l.take i).all p=true) (hp:p l[i]=true):(l.take (i+1)).all p=true:=by
 rw[List.take_succ_eq_append_getElem h,List.all_append,hf];simp[hp]
theorem Jm {α:Type} (l:List α) (p:α->Bool) (i:Nat) (h:i<l.length) (hp:p l[i]=false):l.all p=false:=by
 rcases q:l.all p with _|_
 ·rfl
 ·have:=List.all_eq_true.1 q l[i] (List.getElem_mem h);rw[hp]at this;cases this
theorem U0 (l:List ByteArray):m90 l=some (um l,()):=by
 refine T.eq ?_
 unfold m90 um
 refine T.cnd (fun hc=>T.ret ?_) (fun hc=>?_)<;>simp only[bf,bn,aB]at hc
 ·rw[if_pos (by omega)]
 rw[if_neg (by omega)]
 refine T.cnd (fun hc=>T.ret ?_) (fun hc=>?_)<;>simp only[aG,aD,aB]at hc
 ·rw[if_pos (by omega)]
 rw[if_neg (by omega)]
 have hL:=aB l
 refine T.loop (fun q=>∃ i:Nat,i<=l.length/\(l.take i).all jF=true/\q=(l,l,aj l,(i:Int),())) (fun q=>l.length-q.2.2.2.1.toNat) ⟨0,by omega,rfl,rfl⟩ ?_
 rintro _ ⟨i,hi,hf,rfl⟩
 dsimp only
 refine T.cnd (fun hc=>?_) (fun hc=>?_)<;>simp only[aG,aD]at hc
 ·have hlt:i<l.length:=by omega
  refine T.grd (by rw[aH];omega) ?_
  rw[qh l i _ hlt]
  refine T.aX (nm _) ?_
  dsimp only
  refine T.cnd (fun hc2=>T.out ?_) (fun hc2=>T.go ⟨i+1,by omega,?_,?_⟩ ?_)
  ·rw[bF]at hc2;rw[if_neg (by rw[Jm l jF i hlt hc2];simp)]
  ·rw[dJ]at hc2;exact GQ l jF i hlt hf hc2
  ·rw[aF (by omega) (by omega)];rfl
  ·dsimp only;rw[aF (by omega) (by omega)];omega
 obtain rfl:i=l.length:=by omega
 rw[List.take_length]at hf
 rw[if_pos hf]
 refine T.kX ?_
 refine T.loop (fun q=>∃ i:Nat,i<=l.length/\(List.range i).any (vR l)=false/\q=(l,l,aj l,(i:Int),())) (fun q=>l.length-q.2.2.2.1.toNat) ⟨0,by omega,rfl,rfl⟩ ?_
 rintro _ ⟨i,hi,hg,rfl⟩
 dsimp only
 refine T.cnd (fun hc=>?_) (fun hc=>?_)<;>simp only[aG,aD]at hc
 ·have hlt:i<l.length:=by omega
  refine T.grd (by rw[aH];omega) ?_
  refine T.grd (by rw[dU];omega) ?_
  have hcut:nG 0 (i:Int) l=l.take i:=by unfold nG;rw[Int.toNat_natCast];rfl
  rw[hcut]
  refine T.aX (KW _ _ (by rw[List.length_take];omega)) ?_
  have hd:(l.take i).any (fun x=>eqB (atI l (i:Int) ByteArray.empty) x)=vR l i:=by unfold vR atI;rw[Int.toNat_natCast]
  rw[hd]
  dsimp only
  refine T.cnd (fun hc2=>T.out ?_) (fun hc2=>T.go ⟨i+1,by omega,?_,?_⟩ ?_)
  ·rw[if_pos (List.any_eq_true.2 ⟨i,List.mem_range.2 hlt,hc2⟩)]
  ·rw[List.range_succ,List.any_append,hg];simp[hc2]
  ·rw[aF (by omega) (by omega)];rfl
  ·dsimp only;rw[aF (by omega) (by omega)];omega
 ·obtain rfl:i=l.length:=by omega
  refine T.out ?_
  rw[if_neg (by rw[hg];simp)]
theorem Ve (l:List ByteArray) (hl:l.length<=12):m93 l=some (l.all jF,()):=by
 refine T.eq ?_
 unfold m93
 have hL:=aB l
 refine T.loop (fun q=>∃ i:Nat,i<=l.length/\(l.take i).all jF=true/\q=(l,(i:Int),())) (fun q=>l.length-q.2.1.toNat) ⟨0,by omega,rfl,rfl⟩ ?_
 rintro _ ⟨i,hi,hf,rfl⟩
 dsimp only
 refine T.cnd (fun hc=>?_) (fun hc=>?_)<;>simp only[aG,aD]at hc
 ·have hlt:i<l.length:=by omega
  refine T.grd (by rw[aH];omega) ?_
  rw[qh l i _ hlt]
  refine T.aX (nr _) ?_
  dsimp only
  refine T.cnd (fun hc2=>T.out ?_) (fun hc2=>T.go ⟨i+1,by omega,?_,?_⟩ ?_)
  ·rw[bF]at hc2;rw[Jm l jF i hlt hc2]
  ·rw[dJ]at hc2;exact GQ l jF i hlt hf hc2
  ·rw[aF (by omega) (by omega)];rfl
  ·dsimp only;rw[aF (by omega) (by omega)];omega
 ·obtain rfl:i=l.length:=by omega
  rw[List.take_length]at hf
  exact T.out (by rw[hf])
theorem KV (l:List ByteArray) (hl:l.length<=12):m94 l=some (!(List.range l.length).any (vR l),()):=by
 refine T.eq ?_
 unfold m94
 have hL:=aB l
 refine T.loop (fun q=>∃ i:Nat,i<=l.length/\(List.range i).any (vR l)=false/\q=(l,(i:Int),())) (fun q=>l.length-q.2.1.toNat) ⟨0,by omega,rfl,rfl⟩ ?_
 rintro _ ⟨i,hi,hg,rfl⟩
 dsimp only
 refine T.cnd (fun hc=>?_) (fun hc=>?_)<;>simp only[aG,aD]at hc
 ·have hlt:i<l.length:=by omega
  have hd:vR l i=(l.take i).any (fun x=>eqB l[i] x):=by unfold vR;rw[List.getD_eq_getElem?_getD,List.getElem?_eq_getElem hlt];rfl
  refine T.loop (fun q=>∃ j:Nat,j<=i/\(l.take j).any (fun x=>eqB l[i] x)=false/\q=(l,(i:Int),(j:Int),())) (fun q=>i-q.2.2.1.toNat) ⟨0,by omega,rfl,rfl⟩ ?_
  rintro _ ⟨j,hj,hf,rfl⟩
  dsimp only
  refine T.cnd (fun hc2=>?_) (fun hc2=>?_)<;>simp only[aG,aD]at hc2
  ·have hjl:j<l.length:=by omega
   refine T.grd (by rw[aH];omega) ?_
   refine T.grd (by rw[aH];omega) ?_
   rw[qh l i _ hlt,qh l j _ hjl,r9]
   refine T.cnd (fun hc3=>T.out ?_) (fun hc3=>T.go ⟨j+1,by omega,?_,?_⟩ ?_)
   ·show _=_
    have:vR l i=true:=by
     rw[hd];refine List.any_eq_true.2 ⟨l[j],?_,hc3⟩
     exact List.mem_iff_getElem.2 ⟨j,by rw[List.length_take];omega,by rw[List.getElem_take]⟩
    rw[List.any_eq_true.2 ⟨i,List.mem_range.2 hlt,this⟩];rfl
   ·rw[List.take_succ_eq_append_getElem hjl,List.any_append,hf];simp[hc3]
   ·rw[aF (by omega) (by omega)];rfl
   ·dsimp only;rw[aF (by omega) (by omega)];omega
  ·obtain rfl:j=i:=by omega
   refine T.out ⟨⟨j+1,by omega,?_,?_⟩,?_⟩
   ·rw[List.range_succ,List.any_append,hg];simp[hd,hf]
   ·rw[aF (by omega) (by omega)];rfl
   ·dsimp only;rw[aF (by omega) (by omega)];omega
 ·obtain rfl:i=l.length:=by omega
  exact T.out (by rw[hg];rfl)
def lZ (a:DS0):Int :=
 if a.2.1=1 then (if a.2.2.2.1≠0\/a.2.2.2.2.1≠0 then 20 else um a.2.2.1)
 else if a.2.1=2 then (if 0<a.2.2.1.length then 20 else if a.2.2.2.2.1<a.2.2.2.1\/a.2.2.2.1 < -1000000000\/1000000000<a.2.2.2.2.1 then 1 else 0)
 else if a.2.1=3 then (if 0<a.2.2.1.length\/a.2.2.2.1≠0\/a.2.2.2.2.1≠0 then 20 else 0) else 11
theorem ZE (a:DS0):m75 a=some (lZ a,()):=by
 refine T.eq ?_
 unfold m75 lZ
 have hL:=aB a.2.2.1
 refine T.cnd (fun c1=>?_) (fun c1=>?_)<;>simp only[bf,bn]at c1
 ·rw[if_pos c1]
  refine T.cnd (fun c2=>T.ret ?_) (fun c2=>?_)<;>simp only[bV,bW,dx,dK]at c2
  ·rw[if_pos (by omega)]
  ·rw[if_neg (by omega)];exact T.aX (U0 _) (T.ret rfl)
 rw[if_neg c1]
 refine T.cnd (fun c1=>?_) (fun c1=>?_)<;>simp only[bf,bn]at c1
 ·rw[if_pos c1]
  refine T.cnd (fun c2=>T.ret ?_) (fun c2=>?_)<;>simp only[aG,aD]at c2
  ·rw[if_pos (by omega)]
  ·rw[if_neg (by omega)]
   refine T.cnd (fun c2=>T.ret ?_) (fun c2=>T.ret ?_)<;>simp only[bV,bW,aG,aD]at c2
   ·rw[if_pos (by omega)]
   ·rw[if_neg (by omega)]
 rw[if_neg c1]
 refine T.cnd (fun c1=>?_) (fun c1=>?_)<;>simp only[bf,bn]at c1
 ·rw[if_pos c1]
  refine T.cnd (fun c2=>T.ret ?_) (fun c2=>T.ret ?_)<;>simp only[bV,bW,aG,aD,dx,dK]at c2
  ·rw[if_pos (by omega)]
  ·rw[if_neg (by omega)]
 ·rw[if_neg c1];exact T.ret rfl
theorem ZC (a:DS0):m78 a=some (lZ a,()):=by
 refine T.eq ?_
 unfold m78 lZ
 have hL:=aB a.2.2.1
 refine T.cnd (fun c1=>?_) (fun c1=>?_)<;>simp only[bf,bn]at c1
 ·rw[if_pos c1]
  refine T.cnd (fun c2=>T.ret ?_) (fun c2=>?_)<;>simp only[bV,bW,dx,dK]at c2
  ·rw[if_pos (by omega)]
  ·rw[if_neg (by omega)]
   unfold um
   refine T.cnd (fun c2=>T.ret ?_) (fun c2=>?_)<;>simp only[bf,bn]at c2
   ·rw[if_pos (by omega)]
   rw[if_neg (by omega)]
   refine T.cnd (fun c2=>T.ret ?_) (fun c2=>?_)<;>simp only[aG,aD]at c2
   ·rw[if_pos (by omega)]
   rw[if_neg (by omega)]
   refine T.aX (Ve _ (by omega)) ?_
   dsimp only
   refine T.cnd (fun c3=>T.ret ?_) (fun c3=>?_)<;>simp only[bF,dJ]at c3
   ·rw[if_neg (by rw[c3];simp)]
   rw[if_pos c3]
   refine T.aX (KV _ (by omega)) ?_
   dsimp only
   refine T.cnd (fun c4=>T.ret ?_) (fun c4=>T.ret ?_)<;>simp only[bF,dJ]at c4
   ·rw[if_pos c4]
   ·rw[if_neg (by rw[c4];simp)]
 rw[if_neg c1]
 refine T.cnd (fun c1=>?_) (fun c1=>?_)<;>simp only[bf,bn]at c1
 ·rw[if_pos c1]
  refine T.cnd (fun c2=>T.ret ?_) (fun c2=>?_)<;>simp only[aG,aD]at c2
  ·rw[if_pos (by omega)]
  rw[if_neg (by omega)]
  refine T.cnd (fun c3=>T.ret ?_) (fun c3=>?_)<;>simp only[aG,aD]at c3
  ·rw[if_pos (by omega)]
  unfold m95
  refine T.bind (T.ret ?_)
  refine T.cnd (fun c4=>T.ret ?_) (fun c4=>?_)<;>simp only[bV,bW,aG,aD]at c4
  ·rw[if_pos (by omega)]
  refine T.bind (T.ret ?_)
  refine T.cnd (fun c5=>T.ret ?_) (fun c5=>T.ret ?_)<;>simp only[bV,bW,aG,aD]at c5
  ·rw[if_pos (by omega)]
  ·rw[if_neg (by omega)]
 rw[if_neg c1]
 refine T.cnd (fun c1=>?_) (fun c1=>?_)<;>simp only[bf,bn]at c1
 ·rw[if_pos c1]
  refine T.cnd (fun c2=>T.ret ?_) (fun c2=>T.ret ?_)<;>simp only[bV,bW,aG,aD,dx,dK]at c2
  ·rw[if_pos (by omega)]
  ·rw[if_neg (by omega)]
 ·rw[if_neg c1];exact T.ret rfl
def zA:DS0:=(ByteArray.empty,0,[],0,0,())
def vS (l:List DS0) (i:Nat):Bool:=(l.take i).any (fun x=>eqB x.1 (l.getD i zA).1)
def chk (l:List DS0) (i:Nat):Int:=if jF (l.getD i zA).1=false then 6 else if vS l i=true then 8 else lZ (l.getD i zA)
def tJ (l:List DS0):Nat->Nat->Int
 |0,_=>0
 |n+1,i=>if chk l i≠0 then chk l i else tJ l n (i+1)
def gy (l:List DS0):Int:=if l.length=0 then 19 else if 6<l.length then 4 else tJ l l.length 0
theorem getD_eq {α:Type} (l:List α) (i:Nat) (z:α) (h:i<l.length):l.getD i z=l[i]:=by rw[List.getD_eq_getElem?_getD,List.getElem?_eq_getElem h];rfl
theorem bT {α:Type} (l:List α) (i:Nat) (z:α):atI l (i:Int) z=l.getD i z:=by unfold atI;rw[Int.toNat_natCast]
theorem Vt (l:List DS0) (i:Nat) (hi:i<l.length) (hl:l.length<=6):T (m74 (l,()) (l.getD i zA).1) (fun y=>(y.1<(i:Int))↔vS l i=true):=by
 unfold m74
 have hL:=aB l
 generalize hw:(l.getD i zA).1=w
 have hd:vS l i=(l.take i).any (fun x=>eqB x.1 w):=by unfold vS;rw[hw]
 rw[hd]
 refine T.loop (fun q=>∃ j:Nat,j<=i/\(l.take j).any (fun x=>eqB x.1 w)=false/\q=(w,l,aj l,(j:Int),())) (fun q=>l.length-q.2.2.2.1.toNat) ⟨0,by omega,rfl,rfl⟩ ?_
 rintro _ ⟨j,hj,hf,rfl⟩
 dsimp only
 refine T.ct (by rw[aG];omega) ?_
 have hjl:j<l.length:=by omega
 refine T.grd (by rw[aH];omega) ?_
 rw[qh l j _ hjl,r9]
 refine T.cnd (fun hc=>T.out ?_) (fun hc=>T.go ⟨j+1,?_,?_,?_⟩ ?_)
 ·dsimp only
  constructor
  ·intro q
   refine List.any_eq_true.2 ⟨l[j],List.mem_iff_getElem.2 ⟨j,by rw[List.length_take];omega,by rw[List.getElem_take]⟩,hc⟩
  ·intro q
   rcases Nat.lt_or_ge j i with r|r
   ·omega
   ·obtain rfl:j=i:=by omega
    rw[hf]at q;cases q
 ·rcases Nat.lt_or_ge j i with r|r
  ·omega
  ·obtain rfl:j=i:=by omega
   rw[getD_eq l j _ hjl]at hw
   rw[hw]at hc
   have:eqB w w=true:=by rw[a10]
   rw[this]at hc;cases hc
 ·rw[List.take_succ_eq_append_getElem hjl,List.any_append,hf];simp[hc]
 ·rw[aF (by omega) (by omega)];rfl
 ·dsimp only;rw[aF (by omega) (by omega)];omega
theorem Dz (s:DS5):m38 s=some (gy s.1,()):=by
 obtain⟨l,⟨⟩⟩:=s
 refine T.eq ?_
 unfold m38 gy
 dsimp only
 have hL:=aB l
 refine T.cnd (fun hc=>T.ret ?_) (fun hc=>?_)<;>simp only[bf,bn]at hc
 ·rw[if_pos (by omega)]
 rw[if_neg (by omega)]
 refine T.cnd (fun hc=>T.ret ?_) (fun hc=>?_)<;>simp only[aG,aD]at hc
 ·rw[if_pos (by omega)]
 rw[if_neg (by omega)]
 generalize htg:tJ l l.length 0=tgt
 refine T.loop (fun q=>∃ n i:Nat,i+n=l.length/\tJ l n i=tgt/\q=(l,aj l,(i:Int),l,())) (fun q=>l.length-q.2.2.1.toNat) ⟨l.length,0,by omega,htg,rfl⟩ ?_
 rintro _ ⟨n,i,hn,he,rfl⟩
 dsimp only
 refine T.cnd (fun hc1=>?_) (fun hc1=>?_)<;>simp only[aG,aD]at hc1
 ·have hi:i<l.length:=by omega
  obtain⟨n,rfl⟩:∃ m,n=m+1:=⟨n-1,by omega⟩
  simp only[tJ]at he
  refine T.grd (by rw[aH];omega) ?_
  have ea:atI l (i:Int) (ByteArray.empty,0,[],0,0,())=l.getD i zA:=bT l i zA
  rw[ea]
  refine T.aX (nm _) ?_
  dsimp only
  refine T.cnd (fun c1=>T.out ?_) (fun c1=>?_)<;>simp only[bF,dJ]at c1
  ·rw[show chk l i=6 by unfold chk;rw[if_pos c1],if_pos (by decide)]at he;exact he▸rfl
  have k1:chk l i=if vS l i=true then 8 else lZ (l.getD i zA):=by unfold chk;rw[if_neg (by rw[c1];simp)]
  refine T.call (Vt l i hi (by omega)) (fun y hy=>?_)
  refine T.cnd (fun c2=>T.out ?_) (fun c2=>?_)<;>simp only[aG,aD]at c2
  ·rw[if_pos (hy.1 c2)]at k1;rw[k1,if_pos (by decide)]at he;exact he▸rfl
  rw[if_neg (fun q=>by have:=hy.2 q;omega)]at k1
  rw[k1]at he
  refine T.aX (ZE (l.getD i zA)) ?_
  dsimp only
  refine T.cnd (fun c3=>T.out ?_) (fun c3=>T.go ⟨n,i+1,by omega,?_,?_⟩ ?_)<;>simp only[dx,dK]at c3
  ·rw[if_pos c3]at he;exact he▸rfl
  ·rw[if_neg (by rw[c3];simp)]at he;exact he
  ·rw[aF (by omega) (by omega)];rfl
  ·dsimp only;rw[aF (by omega) (by omega)];omega
 ·obtain rfl:n=0:=by omega
  exact T.out (he▸rfl)
theorem ZR (s:DS5):m41 s=some (gy s.1,()):=by
 obtain⟨l,⟨⟩⟩:=s
 refine T.eq ?_
 unfold m41 gy
 dsimp only
 have hL:=aB l
 refine T.cnd (fun hc=>T.ret ?_) (fun hc=>?_)<;>simp only[bf,bn]at hc
 ·rw[if_pos (by omega)]
 rw[if_neg (by omega)]
 refine T.cnd (fun hc=>T.ret ?_) (fun hc=>?_)<;>simp only[aG,aD]at hc
 ·rw[if_pos (by omega)]
 rw[if_neg (by omega)]
 generalize htg:tJ l l.length 0=tgt
 refine T.loop (fun q=>∃ n i:Nat,i+n=l.length/\tJ l n i=tgt/\q=((i:Int),l,())) (fun q=>l.length-q.1.toNat) ⟨l.length,0,by omega,htg,rfl⟩ ?_
 rintro _ ⟨n,i,hn,he,rfl⟩
 dsimp only
 refine T.cnd (fun hc1=>?_) (fun hc1=>?_)<;>simp only[aG,aD]at hc1
 ·have hi:i<l.length:=by omega
  obtain⟨n,rfl⟩:∃ m,n=m+1:=⟨n-1,by omega⟩
  simp only[tJ]at he
  refine T.grd (by rw[aH];omega) ?_
  have ea:atI l (i:Int) (ByteArray.empty,0,[],0,0,())=l.getD i zA:=bT l i zA
  rw[ea]
  refine T.aX (nr _) ?_
  dsimp only
  refine T.cnd (fun c1=>T.out ?_) (fun c1=>?_)<;>simp only[bF,dJ]at c1
  ·rw[show chk l i=6 by unfold chk;rw[if_pos c1],if_pos (by decide)]at he;exact he▸rfl
  have k1:chk l i=if vS l i=true then 8 else lZ (l.getD i zA):=by unfold chk;rw[if_neg (by rw[c1];simp)]
  obtain⟨w,hw⟩:∃ w,l.getD i zA=w:=⟨_,rfl⟩
  have hd:vS l i=(l.take i).any (fun x=>eqB x.1 w.1):=by unfold vS;rw[hw]
  rw[hw,hd]at k1
  rw[hw]
  refine T.loop (fun q=>∃ j:Nat,j<=i/\(l.take j).any (fun x=>eqB x.1 w.1)=false/\q=((i:Int),(j:Int),l,w.1,w.2.1,w.2.2.1,w.2.2.2.1,w.2.2.2.2.1,())) (fun q=>i-q.2.1.toNat) ⟨0,by omega,rfl,rfl⟩ ?_
  rintro _ ⟨j,hj,hf,rfl⟩
  dsimp only
  refine T.cnd (fun hc2=>?_) (fun hc2=>?_)<;>simp only[aG,aD]at hc2
  ·have hjl:j<l.length:=by omega
   refine T.grd (by rw[aH];omega) ?_
   rw[qh l j _ hjl,r9]
   refine T.cnd (fun hc3=>T.out ?_) (fun hc3=>T.go ⟨j+1,by omega,?_,?_⟩ ?_)
   ·show ((8:Int),())=(tgt,())
    rw[if_pos (List.any_eq_true.2 ⟨l[j],List.mem_iff_getElem.2 ⟨j,by rw[List.length_take];omega,by rw[List.getElem_take]⟩,hc3⟩)]at k1
    rw[k1,if_pos (by decide)]at he
    exact he▸rfl
   ·rw[List.take_succ_eq_append_getElem hjl,List.any_append,hf];simp[hc3]
   ·rw[aF (by omega) (by omega)];rfl
   ·dsimp only;rw[aF (by omega) (by omega)];omega
  ·obtain rfl:j=i:=by omega
   rw[if_neg (by rw[hf];simp)]at k1
   rw[k1]at he
   refine T.kX ?_
   refine T.aX (ZC (w.1,w.2.1,w.2.2.1,w.2.2.2.1,w.2.2.2.2.1,())) ?_
   have ew:((w.1,w.2.1,w.2.2.1,w.2.2.2.1,w.2.2.2.2.1,()):DS0)=w:=rfl
   rw[ew]
   dsimp only
   refine T.cnd (fun c3=>T.ret ?_) (fun c3=>T.ret ⟨⟨n,j+1,by omega,?_,?_⟩,?_⟩)<;>simp only[dx,dK]at c3
   ·show (lZ w,())=(tgt,())
    rw[if_pos c3]at he;exact he▸rfl
   ·rw[if_neg (by rw[c3];simp)]at he;exact he
   ·rw[aF (by omega) (by omega)];rfl
   ·dsimp only;rw[aF (by omega) (by omega)];omega
 ·obtain rfl:n=0:=by omega
  exact T.out (he▸rfl)
theorem U5 (l:List DS0):∀ n i,tJ l n i=0->∀ j,i<=j->j<i+n->chk l j=0:=by
 intro n
 induction n with
 |zero=>intro i _ j h1 h2;omega
 |succ n ih =>
  intro i h j h1 h2
  simp only[tJ]at h
  by_cases q:chk l i≠0
  ·rw[if_pos q]at h;exact absurd h q
  ·rw[if_neg q]at h
   rcases Nat.eq_or_lt_of_le h1 with r|r
   ·subst r;simpa using q
   ·exact ih (i+1) h j (by omega) (by omega)
theorem val_ok {l:List DS0} (h:gy l=0):1<=l.length/\l.length<=6/\∀ a∈l,jF a.1=true/\lZ a=0:=by
 unfold gy at h
 by_cases q:l.length=0
 ·rw[if_pos q]at h;cases h
 rw[if_neg q]at h
 by_cases q2:6<l.length
 ·rw[if_pos q2]at h;cases h
 rw[if_neg q2]at h
 refine⟨by omega,by omega,fun a ha=>?_⟩
 obtain⟨j,hj,rfl⟩:=List.mem_iff_getElem.1 ha
 have:=U5 l l.length 0 h j (by omega) (by omega)
 unfold chk at this
 rw[getD_eq l j zA hj]at this
 rcases c:jF (l[j]).1 with _|_
 ·rw[if_pos c]at this;cases this
 ·rw[if_neg (by rw[c];simp)]at this
  by_cases d:vS l j=true
  ·rw[if_pos d]at this;cases this
  ·rw[if_neg d]at this;exact⟨rfl,this⟩
def gQ (a:DS0):Int×Int:=if a.2.1=1 then (0,(a.2.2.1.length:Int)-1) else if a.2.1=2 then (a.2.2.2.1,a.2.2.2.2.1) else (0,1)
theorem LA {l:List ByteArray} (h:um l=0):1<=l.length/\l.length<=12/\∀ w∈l,jF w=true:=by
 unfold um at h
 by_cases q:l.length=0
 ·rw[if_pos q]at h;cases h
 rw[if_neg q]at h
 by_cases q2:12<l.length
 ·rw[if_pos q2]at h;cases h
 rw[if_neg q2]at h
 by_cases q3:l.all jF=true
 ·exact⟨by omega,by omega,fun w hw=>List.all_eq_true.1 q3 w hw⟩
 ·rw[if_neg q3]at h;cases h
theorem Ch {a:DS0} (h:lZ a=0):(a.2.1=1/\1<=a.2.2.1.length/\a.2.2.1.length<=12/\(∀ w∈a.2.2.1,jF w=true))\/(a.2.1=2/\a.2.2.2.1<=a.2.2.2.2.1/\-1000000000<=a.2.2.2.1/\a.2.2.2.2.1<=1000000000)\/a.2.1=3:=by
 unfold lZ at h
 by_cases c1:a.2.1=1
 ·rw[if_pos c1]at h
  by_cases c2:a.2.2.2.1≠0\/a.2.2.2.2.1≠0
  ·rw[if_pos c2]at h;cases h
  ·rw[if_neg c2]at h;have:=LA h;exact .inl ⟨c1,this.1,this.2.1,this.2.2⟩
 rw[if_neg c1]at h
 by_cases c2:a.2.1=2
 ·rw[if_pos c2]at h
  by_cases c3:0<a.2.2.1.length
  ·rw[if_pos c3]at h;cases h
  rw[if_neg c3]at h
  by_cases c4:a.2.2.2.2.1<a.2.2.2.1\/a.2.2.2.1 < -1000000000\/1000000000<a.2.2.2.2.1
  ·rw[if_pos c4]at h;cases h
  ·exact .inr (.inl ⟨c2,by omega,by omega,by omega⟩)
 rw[if_neg c2]at h
 by_cases c3:a.2.1=3
 ·exact .inr (.inr c3)
 ·rw[if_neg c3]at h;cases h
theorem Gy {a:DS0} (h:lZ a=0):(gQ a).1<=(gQ a).2/\-1000000000<=(gQ a).1/\(gQ a).2<=1000000000:=by
 unfold gQ
 rcases Ch h with ⟨k,h1,h2,_⟩|⟨k,h1,h2,h3⟩|k
 ·rw[if_pos k];dsimp only;omega
 ·rw[if_neg (by omega),if_pos k];exact⟨h1,h2,h3⟩
 ·rw[if_neg (by omega),if_neg (by omega)];decide
theorem a11 {a:DS0} (h:lZ a=0):m76 a=some ((gQ a).1,(gQ a).2,()):=by
 refine T.eq ?_
 unfold m76 gQ
 have hL:=aB a.2.2.1
 refine T.cnd (fun c1=>?_) (fun c1=>?_)<;>simp only[bf,bn]at c1
 ·rcases Ch h with ⟨k,h1,h2,_⟩|⟨k,_⟩|k
  ·rw[if_pos c1,bS (by omega) (by omega),hL];exact T.ret rfl
  ·omega
  ·omega
 rw[if_neg c1]
 refine T.cnd (fun c2=>?_) (fun c2=>?_)<;>simp only[bf,bn]at c2
 ·rw[if_pos c2];exact T.ret rfl
 ·rw[if_neg c2];exact T.ret rfl
theorem KU (l:List DS0) (i:Nat) (hi:i<l.length) (h:gy l=0):m42 (l,()) (i:Int)=some ((gQ l[i]).1,(gQ l[i]).2,()):=by
 refine T.eq ?_
 unfold m42
 have hL:=aB l
 obtain⟨v1,v2,v3⟩:=val_ok h
 have ha:=(v3 _ (List.getElem_mem hi)).2
 refine T.aX (ZR (l,())) ?_
 dsimp only
 refine T.cf (by rw[bW,bW,dK,aD,dN];omega) ?_
 refine T.grd (by rw[aH];omega) ?_
 rw[qh l i _ hi]
 unfold gQ
 have hL2:=aB (l[i]).2.2.1
 refine T.cnd (fun c1=>?_) (fun c1=>?_)<;>simp only[bf,bn]at c1
 ·rcases Ch ha with ⟨k,h1,h2,_⟩|⟨k,_⟩|k
  ·rw[if_pos c1,bS (by omega) (by omega),hL2];exact T.ret rfl
  ·omega
  ·omega
 rw[if_neg c1]
 refine T.cnd (fun c2=>?_) (fun c2=>?_)<;>simp only[bf,bn]at c2
 ·rw[if_pos c2];exact T.ret rfl
 ·rw[if_neg c2];exact T.ret rfl
def inD (l:List DS0) (f:List Int) (i:Nat):Bool:=decide ((gQ (l.getD i zA)).1<=f.getD i 0/\f.getD i 0<=(gQ (l.getD i zA)).2)
def wz (l:List DS0) (f:List Int):Bool:=decide (gy l=0)&&decide (f.length=l.length)&&(List.range l.length).all (inD l f)
theorem Ov (a n:Int) (ha:-9223372036854775808<=a/\a<=9223372036854775807) (hn:0<n) (hn2:n<=4611686018427387904):T (m16 a n) (fun y=>0<=y.1/\y.1<n):=by
 unfold m16
 refine T.grd (by rw[dx];omega) (T.grd (by rw[dx];omega) (T.ret ?_))
 have h1:oZ a n=a.tmod n:=rfl
 have h2:a.tmod n<n:=Int.tmod_lt_of_pos a hn
 have h3:-n<a.tmod n:=by have:=Int.lt_tmod_of_pos a hn;omega
 dsimp only
 rw[h1,aF (by omega) (by omega)]
 have h4:oZ (a.tmod n+n) n=(a.tmod n+n)%n:=Uy (by omega)
 rw[h4]
 exact⟨Int.emod_nonneg _ (by omega),Int.emod_lt_of_pos _ hn⟩
def sch:Nat->List DS0
 |0=>([((bs [112,101,114,105,108]),1,([(bs [102,105,114,101]),(bs [102,108,111,111,100]),(bs [119,105,110,100]),(bs [116,104,101,102,116])]:List ByteArray),0,0,()),((bs [115,116,111,114,101,121,115]),2,([]:List ByteArray),1,9,()),((bs [97,108,97,114,109]),3,([]:List ByteArray),0,0,())]:List DS0)
 |1=>([((bs [110]),2,([]:List ByteArray),(-5),20,())]:List DS0)
 |2=>([((bs [97]),3,([]:List ByteArray),0,0,()),((bs [114,111,108,101]),1,([(bs [99,114,101,119]),(bs [103,117,101,115,116])]:List ByteArray),0,0,()),((bs [98]),3,([]:List ByteArray),0,0,())]:List DS0)
 |3=>([((bs [110]),2,([]:List ByteArray),(-1000000000),1000000000,()),((bs [116]),3,([]:List ByteArray),0,0,())]:List DS0)
 |4=>([((bs [111,110,101]),1,([(bs [111,110,108,121])]:List ByteArray),0,0,()),((bs [112,101,114,105,108]),1,([(bs [102,105,114,101]),(bs [102,108,111,111,100]),(bs [119,105,110,100]),(bs [116,104,101,102,116])]:List ByteArray),0,0,()),((bs [110]),2,([]:List ByteArray),0,6,()),((bs [116]),3,([]:List ByteArray),0,0,())]:List DS0)
 |_=>([((bs [116]),3,([]:List ByteArray),0,0,())]:List DS0)
theorem ZX (k:Int) (hk:-9223372036854775808<=k/\k<=9223372036854775807):∃ j:Nat,j<6/\m15 k=some ((sch j,()),()):=by
 obtain⟨⟨v,_⟩,h1,h2,h3⟩:=Ov k 6 hk (by omega) (by omega)
 unfold m15
 rw[h1]
 dsimp only at h2 h3 ⊢
 refine⟨v.toNat,by omega,?_⟩
 have:v=0\/v=1\/v=2\/v=3\/v=4\/v=5:=by omega
 rcases this with rfl|rfl|rfl|rfl|rfl|rfl<;>rfl
theorem Uq:∀ j:Nat,j<6->gy (sch j)=0:=by
 intro j hj
 match j,hj with
 |0,_=>exact (by kernel_rfl:gy (sch 0)=0)
 |1,_=>exact (by kernel_rfl:gy (sch 1)=0)
 |2,_=>exact (by kernel_rfl:gy (sch 2)=0)
 |3,_=>exact (by kernel_rfl:gy (sch 3)=0)
 |4,_=>exact (by kernel_rfl:gy (sch 4)=0)
 |5,_=>exact (by kernel_rfl:gy (sch 5)=0)
theorem VB (l:List DS0) (h:gy l=0) {L:List Int} {a0:Int} (hd:jq L a0):T (m24 (l,()) L a0) (fun y=>jq y.1 y.2.1/\wz l y.2.2.1=true):=by
 unfold m24
 have hL:=aB l
 obtain⟨v1,v2,v3⟩:=val_ok h
 refine T.loop (fun q=>∃ (i:Nat) (K:List Int) (a:Int) (f:List Int),i<=l.length/\jq K a/\f.length=i/\(List.range i).all (inD l f)=true/\q=((i:Int),K,a,l,f,())) (fun q=>l.length-q.1.toNat) ⟨0,L,a0,[],by omega,hd,rfl,rfl,rfl⟩ ?_
 rintro _ ⟨i,K,a,f,hi,hk,hf,hg,rfl⟩
 dsimp only
 refine T.cnd (fun hc=>?_) (fun hc=>?_)<;>simp only[aG,aD]at hc
 ·have hlt:i<l.length:=by omega
  have hb:=Gy (v3 _ (List.getElem_mem hlt)).2
  refine T.aX (KU l i hlt h) ?_
  dsimp only
  have ed:∀ v:Int,(gQ l[i]).1<=v->v<=(gQ l[i]).2->(List.range (i+1)).all (inD l (f++[v]))=true:=by
   intro v a1 a2
   refine List.all_eq_true.2 fun j hj=>?_
   have hj:=List.mem_range.1 hj
   rcases Nat.lt_or_ge j i with r|r
   ·have:=List.all_eq_true.1 hg j (List.mem_range.2 r)
    unfold inD at this ⊢
    rw[List.getD_eq_getElem?_getD (l:=f++[v]),List.getElem?_append_left (by omega),<- List.getD_eq_getElem?_getD]
    exact this
   ·obtain rfl:j=i:=by omega
    unfold inD
    rw[decide_eq_true_eq,getD_eq l j zA hlt,List.getD_eq_getElem?_getD,List.getElem?_append_right (by omega),hf,Nat.sub_self]
    exact⟨a1,a2⟩
  have add:∀ (K':List Int) (a' v:Int),jq K' a'->(gQ l[i]).1<=v->v<=(gQ l[i]).2->T (cond (fits (List.length f+List.length ([v]:List Int)) 8) (some (Sum.inl (β:=List Int×Int×List Int×Unit) (aM .i64 (i:Int) 1,K',a',l,f++[v],()))) none) (LQ (fun q=>∃ (i:Nat) (K:List Int) (a:Int) (f:List Int),i<=l.length/\jq K a/\f.length=i/\(List.range i).all (inD l f)=true/\q=((i:Int),K,a,l,f,())) (fun q=>l.length-q.1.toNat) (l.length-(i:Int).toNat) (fun y=>jq y.1 y.2.1/\wz l y.2.2.1=true)):=by
   intro K' a' v k1 k2 k3
   refine T.grd (by rw[bG,List.length_singleton];omega) (T.go ⟨i+1,K',a',f++[v],by omega,k1,by rw[List.length_append,List.length_singleton,hf],ed v k2 k3,?_⟩ ?_)
   ·rw[aF (by omega) (by omega)];rfl
   ·dsimp only;rw[aF (by omega) (by omega)];omega
  rw[bS (by omega) (by omega),aF (by omega) (by omega)]
  refine T.call (uD hk (by omega) (by omega)) (fun y ⟨n1,n2,n3⟩=>?_)
  refine T.call (uD n1 (by omega) (by omega)) (fun z ⟨z1,z2,z3⟩=>?_)
  refine T.cnd (fun _=>?_) (fun _=>?_)
  ·exact add _ _ _ z1 (by omega) (by omega)
  refine T.cnd (fun _=>?_) (fun _=>?_)
  ·exact add _ _ _ z1 (by omega) (by omega)
  refine T.cnd (fun _=>?_) (fun _=>?_)
  ·refine T.call (uD z1 (by omega) (by omega)) (fun u ⟨u1,u2,u3⟩=>?_)
   rw[bS (by omega) (by omega)]
   refine add _ _ _ u1 ?_ ?_
   ·unfold kP o7;omega
   ·unfold kP o7;omega
  ·rw[aF (by omega) (by omega)]
   exact add _ _ _ z1 (by omega) (by omega)
 ·obtain rfl:i=l.length:=by omega
  refine T.out ⟨hk,?_⟩
  dsimp only
  unfold wz
  rw[decide_eq_true h,decide_eq_true hf,hg];rfl
def zS:DS3:=(0,0,())
def doms (l:List DS0):List DS3:=l.map fun a=>((gQ a).1,(gQ a).2,())
theorem lS (l:List DS0):(doms l).length=l.length:=by simp[doms]
theorem vT (l:List DS0) (i:Nat) (h:i<l.length):(doms l).getD i zS=((gQ l[i]).1,(gQ l[i]).2,()):=by
 rw[getD_eq _ _ _ (by rw[lS];exact h)];simp[doms]
def dI (dm:List DS3):Prop:=1<=dm.length/\dm.length<=6/\∀ d∈dm,d.1<=d.2.1/\-1000000000<=d.1/\d.2.1<=1000000000
theorem nM {l:List DS0} (h:gy l=0):dI (doms l):=by
 obtain⟨v1,v2,v3⟩:=val_ok h
 refine⟨by rw[lS];exact v1,by rw[lS];exact v2,fun d hd=>?_⟩
 obtain⟨a,ha,rfl⟩:=List.mem_map.1 hd
 exact Gy (v3 a ha).2
theorem dI.at {dm:List DS3} (h:dI dm) {i:Nat} (hi:i<dm.length):(dm.getD i zS).1<=(dm.getD i zS).2.1/\-1000000000<=(dm.getD i zS).1/\(dm.getD i zS).2.1<=1000000000:=by
 rw[getD_eq _ _ _ hi];exact h.2.2 _ (List.getElem_mem hi)
theorem Nw (l:List DS0) (i:Nat) (hi:i<l.length) (h:gy l=0):m39 (l,()) (i:Int)=some ((gQ l[i]).1,(gQ l[i]).2,()):=by
 have v:=val_ok h
 refine T.eq ?_
 unfold m39
 refine T.aX (Dz _) ?_
 have hL:=aB l
 dsimp only
 refine T.cf (by rw[bW,bW,dK,aD,dN];exact⟨⟨h,by omega⟩,by omega⟩) ?_
 refine T.grd (by rw[aH];omega) ?_
 rw[show atI l (i:Int) (ByteArray.empty,0,[],0,0,())=l[i] from qh l i _ hi]
 exact T.aX (a11 (v.2.2 _ (List.getElem_mem hi)).2) (T.ret rfl)
theorem Gx (l:List DS0) (h:gy l=0):m50 (l,())=some (doms l,()):=by
 refine T.eq ?_
 unfold m50
 have v:=val_ok h
 have hL:=aB l
 refine T.grd (by rw[dM];dsimp only;omega) ?_
 refine T.loop (fun q=>∃ (i:Nat) (r:List DS3),i<=l.length/\r.length=l.length/\(∀ j,j<i->r.getD j zS=(doms l).getD j zS)/\q=((l.length:Int),(i:Int),l,r,())) (fun q=>l.length-q.2.1.toNat) ⟨0,List.replicate l.length zS,by omega,by simp,fun j hj=>by omega,?_⟩ ?_
 ·dsimp only
  rw[hL,Int.toNat_natCast,aB,List.length_replicate]
  rfl
 rintro _ ⟨i,r,hi,hr,hg,rfl⟩
 dsimp only
 refine T.cnd (fun hc=>?_) (fun hc=>?_)<;>simp only[aG,aD]at hc
 ·have hlt:i<l.length:=by omega
  refine T.aX (Nw l i hlt h) ?_
  have hr1:=aB r
  have hS:=aB (List.set r (i:Int).toNat ((gQ l[i]).1,(List.getD r (i:Int).toNat (0,0,())).2.1,()))
  rw[List.length_set]at hS
  refine T.grd (by rw[aH];omega) (T.grd (by rw[cu];omega) (T.grd (by rw[aH];dsimp only;omega) (T.grd (by rw[cu,List.length_set];omega) ?_)))
  refine T.go ⟨i+1,_,by omega,?_,?_,by rw[aF (by omega) (by omega)];rfl⟩ (by dsimp only;rw[aF (by omega) (by omega)];omega)
  ·simp[hr]
  ·intro j hj
   rw[Int.toNat_natCast]
   have hjl:j<l.length:=by omega
   rw[vT l j hjl]
   by_cases e:j=i
   ·subst e
    rw[getD_eq _ _ _ (by simp[hr];omega)]
    simp
    rw[List.getElem?_set_self (by omega)]
    rfl
   ·have hx:=hg j (by omega)
    rw[vT l j hjl]at hx
    rw[List.getD_eq_getElem?_getD,List.getElem?_set_ne (by omega),List.getElem?_set_ne (by omega),<- List.getD_eq_getElem?_getD]
    exact hx
 ·obtain rfl:i=l.length:=by omega
  refine T.out ?_
  congr 1
  apply List.ext_getElem (by rw[hr,lS])
  intro j h1 h2
  have:=hg j (by rw[<- hr];exact h1)
  rwa [getD_eq _ _ _ h1,getD_eq _ _ _ h2]at this
theorem Ae (a b:List Int) (h:a.length<=9223372036854775807):m23 a b=some (decide (a=b),()):=by
 refine T.eq ?_
 unfold m23
 have hA:=aB a
 have hB:=aB b
 refine T.cnd (fun hc=>?_) (fun hc=>?_)<;>simp only[dx,dK]at hc
 ·refine T.ret ?_
  rw[decide_eq_false (fun e=>by subst e;exact hc rfl)]
 refine T.loop (fun q=>∃ i:Nat,i<=a.length/\(∀ j,j<i->a.getD j 0=b.getD j 0)/\q=(a,b,(i:Int),())) (fun q=>a.length-q.2.2.1.toNat) ⟨0,by omega,fun j hj=>by omega,rfl⟩ ?_
 rintro _ ⟨i,hi,hg,rfl⟩
 dsimp only
 refine T.cnd (fun hc=>?_) (fun hc=>?_)<;>simp only[aG,aD]at hc
 ·refine T.grd (by rw[aH];omega) (T.grd (by rw[aH];omega) (T.cnd (fun hd=>?_) (fun hd=>?_)))<;>simp only[dx,dK,bT]at hd
  ·exact T.out (by rw[decide_eq_false (fun e=>by subst e;exact hd rfl)])
  ·refine T.go ⟨i+1,by omega,fun j hj=>?_,by rw[aF (by omega) (by omega)];rfl⟩ (by dsimp only;rw[aF (by omega) (by omega)];omega)
   rcases Nat.lt_or_ge j i with r|r
   ·exact hg j r
   ·obtain rfl:j=i:=by omega
    exact hd
 ·refine T.out ?_
  rw[decide_eq_true]
  apply List.ext_getElem (by omega)
  intro j h1 h2
  have:=hg j (by omega)
  rwa [getD_eq _ _ _ h1,getD_eq _ _ _ h2]at this
def fJ (n:Nat) (r:Int):Prop:=-256<=r/\r<(n:Int)
instance (n:Nat) (r:Int):Decidable (fJ n r):=inferInstanceAs (Decidable (_/\_))
theorem Rj (x:DS2) (r:Int):m59 x r=some (decide (fJ x.1.length r),()):=by
 unfold m59
 show some (cond (iLe (dS .i64 (-1) 255) r) (iLt r (aj x.1)) false,())=_
 rw[bS (by omega) (by omega),aB]
 have:cond (iLe (-1-255) r) (iLt r (x.1.length:Int)) false=decide (fJ x.1.length r):=by
  rw[Bool.eq_iff_iff,bg,dL,aG,decide_eq_true_eq]
  unfold fJ
  constructor<;>intro h<;>omega
 rw[this]
def jo (dm:List DS3) (ns:List DS1) (x:DS1):Prop :=
 0<=x.1/\x.1<(dm.length:Int)/\0<x.2.1.length/\x.2.2.1.length=x.2.1.length+1/\
 (∀ k,k<x.2.1.length->(dm.getD x.1.toNat zS).1<x.2.1.getD k 0/\x.2.1.getD k 0<=(dm.getD x.1.toNat zS).2.1/\(0<k->x.2.1.getD (k-1) 0<x.2.1.getD k 0))/\
 (∀ k,k<x.2.2.1.length->fJ ns.length (x.2.2.1.getD k 0)/\(0<k->x.2.2.1.getD k 0≠x.2.2.1.getD (k-1) 0)/\(0<=x.2.2.1.getD k 0->x.1<(ns.getD (x.2.2.1.getD k 0).toNat zN).1))
theorem EU {cs:List Int} {lo hi:Int} (h:∀ k,k<cs.length->lo<cs.getD k 0/\cs.getD k 0<=hi/\(0<k->cs.getD (k-1) 0<cs.getD k 0)):∀ k,k<cs.length->lo+k+1<=cs.getD k 0:=by
 intro k
 induction k with
 |zero=>intro hk;have:=(h 0 hk).1;omega
 |succ k ih=>intro hk;have h1:=ih (by omega);have h2:=(h (k+1) hk).2.2 (by omega);rw[Nat.add_sub_cancel]at h2;omega
theorem jo.len {dm:List DS3} {ns:List DS1} {x:DS1} (h:jo dm ns x) (hd:dI dm):x.2.1.length<=2000000000/\x.2.2.1.length<=2000000001:=by
 obtain⟨h1,h2,h3,h4,h5,_⟩:=h
 have hb:=hd.at (i:=x.1.toNat) (by omega)
 have:=EU h5 (x.2.1.length-1) (by omega)
 have h6:=(h5 (x.2.1.length-1) (by omega)).2.1
 omega
theorem U8 {dm:List DS3} (hd:dI dm) (ns:List DS1) (root:Int) (x:DS1) (h1:x.2.1.length<=9223372036854775807) (h2:x.2.2.1.length<=9223372036854775807) (hn:ns.length<=9223372036854775807):T (m60 (ns,root,()) x dm) (fun y=>y.1=true↔jo dm ns x):=by
 obtain⟨a,cs,nx,⟨⟩⟩:=x
 dsimp only at h1 h2
 unfold m60
 have hC:=aB cs
 have hX:=aB nx
 have hD:=aB dm
 have hd1:=hd.1
 have hd2:=hd.2.1
 dsimp only
 by_cases hmx:cs.length=9223372036854775807
 ·refine T.ct ?_ (T.ret ⟨fun h=>(by cases h),fun h=>?_⟩)
  ·have e1:aM .i64 ((9223372036854775807:Nat):Int) 1=-9223372036854775808:=by decide
   rw[bV]
   right
   rw[dx,hX,hC,hmx,e1];omega
  ·have:=h.2.2.2.1
   dsimp only at this
   omega
 rw[hC,hX,hD,aF (by omega) (by omega)]
 refine T.cnd (fun hc=>?_) (fun hc=>?_)<;>simp only[bV,bW,aG,aD,dL,dN,bf,bn,dx,dK]at hc
 ·refine T.ret ⟨fun h=>(by cases h),fun h=>?_⟩
  obtain⟨k1,k2,k3,k4,_⟩:=h
  dsimp only at k1 k2 k3 k4
  omega
 obtain⟨⟨⟨c1,c2⟩,c3⟩,c4⟩:=hc
 refine T.grd (by rw[aH];omega) ?_
 refine T.loop (fun q=>∃ i:Nat,i<=cs.length/\(∀ k,k<i->(dm.getD a.toNat zS).1<cs.getD k 0/\cs.getD k 0<=(dm.getD a.toNat zS).2.1/\(0<k->cs.getD (k-1) 0<cs.getD k 0))/\q=(dm,(if i=0 then (dm.getD a.toNat zS).1 else cs.getD (i-1) 0),cs,(cs.length:Int),(i:Int),ns,root,a,cs,nx,())) (fun q=>cs.length-q.2.2.2.2.1.toNat) ⟨0,by omega,fun k hk=>by omega,rfl⟩ ?_
 rintro _ ⟨i,hi,hg,rfl⟩
 dsimp only
 have eA:atI dm a (0,0,())=dm.getD a.toNat zS:=rfl
 rw[hC,hX,hD,eA,bT]
 refine T.cnd (fun hc=>?_) (fun hc=>?_)<;>simp only[aG,aD]at hc
 ·have hlt:i<cs.length:=by omega
  refine T.grd (by rw[aH];omega) (T.grd (by rw[bY,aH];exact .inl ⟨by omega,by omega⟩) (T.cnd (fun hc2=>?_) (fun hc2=>?_)))<;>simp only[bV,bW,aG,aD,dL,dN]at hc2
  ·refine T.out ⟨fun h=>(by cases h),fun h=>?_⟩
   have k5:=h.2.2.2.2.1 i hlt
   dsimp only at k5
   by_cases e:i=0
   ·rw[if_pos e]at hc2;omega
   ·rw[if_neg e]at hc2;have:=k5.2.2 (by omega);omega
  ·refine T.go ⟨i+1,by omega,fun k hk=>?_,?_⟩ (by dsimp only;rw[aF (by omega) (by omega)];omega)
   ·rcases Nat.lt_or_ge k i with r|r
    ·exact hg k r
    ·obtain rfl:k=i:=by omega
     by_cases e:k=0
     ·rw[if_pos e]at hc2;exact⟨by omega,by omega,fun q=>by omega⟩
     ·rw[if_neg e]at hc2;have:=hg (k-1) (by omega);exact⟨by omega,by omega,fun _=>by omega⟩
   ·rw[aF (by omega) (by omega),if_neg (by omega),Nat.add_sub_cancel];rfl
 ·obtain rfl:i=cs.length:=by omega
  refine T.kX ?_
  refine T.loop (fun q=>∃ j:Nat,j<=nx.length/\(∀ k,k<j->fJ ns.length (nx.getD k 0)/\(0<k->nx.getD k 0≠nx.getD (k-1) 0)/\(0<=nx.getD k 0->a<(ns.getD (nx.getD k 0).toNat zN).1))/\q=(nx,(nx.length:Int),(j:Int),ns,root,a,cs,nx,())) (fun q=>nx.length-q.2.2.1.toNat) ⟨0,by omega,fun k hk=>by omega,rfl⟩ ?_
  rintro _ ⟨j,hj,hgj,rfl⟩
  dsimp only
  have hN:=aB ns
  rw[hX,bT]
  refine T.cnd (fun hc=>?_) (fun hc=>?_)<;>simp only[aG,aD]at hc
  ·have hlt:j<nx.length:=by omega
   refine T.grd (by rw[aH];omega) (T.aX (Rj _ _) ?_)
   dsimp only
   refine T.cnd (fun hc2=>?_) (fun hc2=>?_)<;>simp only[bF,dJ,decide_eq_true_eq,decide_eq_false_iff_not]at hc2
   ·refine T.out ⟨fun h=>(by cases h),fun h=>?_⟩
    exact absurd (h.2.2.2.2.2 j hlt).1 hc2
   have hj1:0<j->(dS .i64 (j:Int) 1)=((j-1:Nat):Int):=fun q=>by rw[bS (by omega) (by omega)];omega
   refine T.grd ?_ (T.cnd (fun hc3=>?_) (fun hc3=>?_))
   ·rw[bY]
    by_cases q:0<j
    ·left;rw[hj1 q,aH];omega
    ·right;rw[bF,bP,aD];omega
   ·rw[bg,aG,bf]at hc3
    rw[hj1 (by omega),bT]at hc3
    refine T.out ⟨fun h=>(by cases h),fun h=>?_⟩
    exact absurd hc3.2 ((h.2.2.2.2.2 j hlt).2.1 (by omega))
   refine T.grd ?_ (T.cnd (fun hc4=>?_) (fun hc4=>?_))
   ·rw[bY]
    by_cases q:0<=nx.getD j 0
    ·left;rw[aH,hN];exact⟨q,hc2.2⟩
    ·right;rw[bF,bP,dN];omega
   ·rw[bg,dL,dL]at hc4
    refine T.out ⟨fun h=>(by cases h),fun h=>?_⟩
    have:=(h.2.2.2.2.2 j hlt).2.2 hc4.1
    have h4:(ns.getD (nx.getD j 0).toNat zN).1<=a:=hc4.2
    dsimp only at this
    omega
   ·refine T.go ⟨j+1,by omega,fun k hk=>?_,by rw[aF (by omega) (by omega)];rfl⟩ (by dsimp only;rw[aF (by omega) (by omega)];omega)
    rcases Nat.lt_or_ge k j with r|r
    ·exact hgj k r
    ·obtain rfl:k=j:=by omega
     refine⟨hc2,fun q e=>?_,fun q=>?_⟩
     ·rw[bq,aD,bn,hj1 q,bT]at hc3
      rcases hc3 with r|r
      ·omega
      ·exact r e
     ·rw[bq,dN,dN]at hc4
      rcases hc4 with r|r
      ·omega
      ·exact r
  ·obtain rfl:j=nx.length:=by omega
   exact T.out ⟨fun _=>⟨by dsimp only;omega,by dsimp only;omega,by dsimp only;omega,by dsimp only;omega,hg,hgj⟩,fun _=>rfl⟩
end Abs
end Go.Proofs.YtgfnhpadmifiiaaDoor
section
namespace Go.Proofs.YtgfnhpadmifiiaaDoor
namespace Abs
def lT (ns:List DS1) (rk:Nat->Nat):Prop:=∀ r,r<ns.length->(kids ns r).length<=2000000001/\∀ c∈kids ns r,c<(ns.length:Int)/\(0<=c->rk c.toNat<rk r)
def rkI (rk:Nat->Nat) (r:Int):Nat:=if r<0 then 0 else rk r.toNat+1
def gU (n:Nat) (ord:List Nat):Prop:=ord.Nodup/\∀ x∈ord,x<n
theorem CV:∀ (n:Nat) (l:List Nat),l.Nodup->(∀ x∈l,x<n)->l.length<=n:=by
 intro n
 induction n with
 |zero=>intro l _ h;cases l with
  |nil=>simp
  |cons x l=>exact absurd (h x (by simp)) (by omega)
 |succ n ih =>
  intro l hn h
  by_cases hm:n∈l
  ·have h1:=ih (l.erase n) (hn.erase n) (fun x hx=>by
    have:=(hn.mem_erase_iff).1 hx
    have:=h x this.2
    omega)
   rw[List.length_erase_of_mem hm]at h1
   omega
  ·have:=ih l hn (fun x hx=>by
    have:=h x hx
    have:x≠n:=fun e=>hm (e▸hx)
    omega)
   omega
theorem gU.len {n:Nat} {ord:List Nat} (h:gU n ord):ord.length<=n:=CV n ord h.1 h.2
theorem gU.snoc {n:Nat} {ord:List Nat} (h:gU n ord) {r:Nat} (hr:r<n) (hm:r∉ord):gU n (ord++[r]):=by
 refine⟨?_,fun x hx=>?_⟩
 ·rw[List.nodup_append]
  exact⟨h.1,by simp,fun a ha b hb=>by simp at hb;subst hb;exact fun e=>hm (e▸ha)⟩
 ·rcases List.mem_append.1 hx with q|q
  ·exact h.2 x q
  ·simp at q;omega
section
variable {ns:List DS1} {rk:Nat->Nat}
theorem iY (f:Nat) (ord:List Nat) {r:Int} (h:r<0):aL ns f ord r=ord:=by
 cases f with
 |zero=>rfl
 |succ f=>simp only[aL];rw[if_pos (.inl h)]
theorem lW (f:Nat) (ord:List Nat) {r:Int} (h:r.toNat∈ord):aL ns f ord r=ord:=by
 cases f with
 |zero=>rfl
 |succ f=>simp only[aL];rw[if_pos (.inr h)]
theorem wP {f:Nat} {ord:List Nat} {r:Int} (hr:0<=r) (hm:r.toNat∉ord) (hf:rkI rk r<=f):∃ f',f=f'+1/\rk r.toNat<=f'/\aL ns f ord r=(kids ns r.toNat).foldl (aL ns f') (ord++[r.toNat]):=by
 unfold rkI at hf
 rw[if_neg (by omega)]at hf
 obtain⟨f',rfl⟩:∃ f',f=f'+1:=⟨f-1,by omega⟩
 refine⟨f',rfl,by omega,?_⟩
 simp only[aL]
 rw[if_neg (by rintro (q|q);omega;exact hm q)]
theorem Gf (hR:lT ns rk) (f:Nat) (hf:∀ (c:Int) (ord:List Nat),c<(ns.length:Int)->gU ns.length ord->gU ns.length (aL ns f ord c)/\∃ t,aL ns f ord c=ord++t):∀ (cs:List Int),(∀ c∈cs,c<(ns.length:Int))->∀ ord,gU ns.length ord->gU ns.length (cs.foldl (aL ns f) ord)/\∃ t,cs.foldl (aL ns f) ord=ord++t:=by
 intro cs
 induction cs with
 |nil=>intro _ ord h;exact⟨h,[],by simp⟩
 |cons c cs ih =>
  intro hc ord h
  obtain⟨h1,t1,e1⟩:=hf c ord (hc c (by simp)) h
  obtain⟨h2,t2,e2⟩:=ih (fun x hx=>hc x (by simp[hx])) _ h1
  rw[List.foldl_cons]
  exact⟨h2,t1++t2,by rw[e2,e1,List.append_assoc]⟩
theorem l9 (hR:lT ns rk):∀ (f:Nat) (c:Int) (ord:List Nat),c<(ns.length:Int)->gU ns.length ord->gU ns.length (aL ns f ord c)/\∃ t,aL ns f ord c=ord++t:=by
 intro f
 induction f with
 |zero=>intro c ord _ h;exact⟨h,[],by simp[aL]⟩
 |succ f ih =>
  intro c ord hc h
  simp only[aL]
  split
  ·exact⟨h,[],by simp⟩
  ·rename_i q
   have h0:0<=c:=by rcases Int.lt_or_le c 0 with r|r;exact absurd (.inl r) q;exact r
   obtain⟨h1,t,e⟩:=Gf hR f ih (kids ns c.toNat) (fun x hx=>((hR c.toNat (by omega)).2 x hx).1) (ord++[c.toNat]) (h.snoc (by omega) (fun r=>q (.inr r)))
   exact⟨h1,[c.toNat]++t,by rw[e,List.append_assoc]⟩
theorem yh (hR:lT ns rk) (f:Nat) (cs:List Int) (hc:∀ c∈cs,c<(ns.length:Int)) (ord:List Nat) (h:gU ns.length ord):gU ns.length (cs.foldl (aL ns f) ord)/\∃ t,cs.foldl (aL ns f) ord=ord++t:=Gf hR f (l9 hR f) cs hc ord h
end
theorem zi (n M:Nat) (h:M<=n):gU n (List.range M):=⟨List.nodup_range,fun x hx=>by have:=List.mem_range.1 hx;omega⟩
def Off (ord:List Nat):Prop:=∃ j,j<ord.length/\ord.getD j 0≠j
theorem Off.app {ord:List Nat} (h:Off ord) (t:List Nat):Off (ord++t):=by
 obtain⟨j,h1,h2⟩:=h
 refine⟨j,by rw[List.length_append];omega,?_⟩
 rw[List.getD_eq_getElem?_getD,List.getElem?_append_left h1,<- List.getD_eq_getElem?_getD]
 exact h2
theorem Off.ne {n:Nat} (h:Off (List.range n)):False:=by
 obtain⟨j,h1,h2⟩:=h
 rw[List.length_range]at h1
 rw[List.getD_eq_getElem?_getD,List.getElem?_range h1]at h2
 exact h2 rfl
theorem Vh (x:DS2×Int×Int×Unit):Mo fun s=>BN s x.1 x.2.1 x.2.2.1:=by
 unfold BN;(repeat' (first|exact Mo.const _|exact Mo.self _|apply Mo.bind|apply Mo.cond|apply Mo.map|apply Mo.join|apply Mo.loop|(intro _)))
theorem a0c {ns:List DS1} {rk:Nat->Nat} (hR:lT ns rk) (hn:ns.length<=1000000) (root:Int) (r:Int) (met:Nat) (hr:r < (ns.length:Int)) (hmet:met<=ns.length) :
  T (m62 (ns,root,()) r (met:Int)) (fun y=>∃ M:Nat,y.1=(M:Int)/\(y.2.1=true->M<=ns.length/\∀ f,rkI rk r<=f->aL ns f (List.range met) r=List.range M)/\(y.2.1=false->∀ f,rkI rk r<=f->Off (aL ns f (List.range met) r))):=by
 unfold m62
 refine AP (ι:=Int×Nat) Vh (fun g=>((ns,root,()),g.1,(g.2:Int),())) (fun g=>g.1<(ns.length:Int)/\g.2<=ns.length)
  (fun g y=>∃ M:Nat,y.1=(M:Int)/\(y.2.1=true->M<=ns.length/\∀ f,rkI rk g.1<=f->aL ns f (List.range g.2) g.1=List.range M)/\(y.2.1=false->∀ f,rkI rk g.1<=f->Off (aL ns f (List.range g.2) g.1)))
  (fun g=>rkI rk g.1) ?_ (r,met) ⟨hr,hmet⟩
 rintro⟨r,met⟩ ⟨hr,hmet⟩ s ih
 dsimp only at hr hmet ih ⊢
 unfold BN
 have hN:=aB ns
 refine T.cnd (fun hc=>?_) (fun hc=>?_)<;>simp only[aG,aD]at hc
 ·refine T.ret ⟨met,rfl,fun _=>⟨hmet,fun f _=>?_⟩,fun h=>(by cases h)⟩
  rcases Int.lt_or_le r 0 with q|q
  ·exact iY f _ q
  ·exact lW f _ (List.mem_range.2 (by omega))
 refine T.cnd (fun hc2=>?_) (fun hc2=>?_)<;>simp only[aG,aD]at hc2
 ·refine T.ret ⟨met,rfl,fun h=>(by cases h),fun _ f hf=>?_⟩
  obtain⟨f',_,_,e⟩:=wP (ns:=ns) (ord:=List.range met) (by omega) (fun q=>by have:=List.mem_range.1 q;omega) hf
  rw[e]
  have hk:=(hR r.toNat (by omega)).2
  obtain⟨_,t,e2⟩:=yh hR f' (kids ns r.toNat) (fun c hc=>(hk c hc).1) (List.range met++[r.toNat]) ((zi _ _ hmet).snoc (by omega) (fun q=>by have:=List.mem_range.1 q;omega))
  rw[e2]
  refine Off.app ⟨met,by simp,?_⟩ t
  rw[List.getD_eq_getElem?_getD,List.getElem?_append_right (by simp),List.length_range,Nat.sub_self]
  simp
  omega
 obtain rfl:r=(met:Int):=by omega
 have hlt:met<ns.length:=by omega
 obtain⟨hkl,hk⟩:=hR met hlt
 have ek:(atI ns (met:Int) (0,[],[],())).2.2.1=kids ns met:=by rw[bT];rfl
 have hK:=aB (kids ns met)
 refine T.grd (by rw[aH];dsimp only;omega) ?_
 dsimp only
 rw[ek,hK,aF (by omega) (by omega)]
 have hro:gU ns.length (List.range met):=zi _ _ hmet
 have en:met∉List.range met:=fun q=>by have:=List.mem_range.1 q;omega
 have unf:∀ f,rkI rk (met:Int)<=f->∃ f',rk met<=f'/\aL ns f (List.range met) (met:Int)=(kids ns met).foldl (aL ns f') (List.range (met+1)):=fun f hf=>by
  obtain⟨f',_,h2,h3⟩:=wP (ns:=ns) (rk:=rk) (ord:=List.range met) (r:=(met:Int)) (by omega) (by rw[Int.toNat_natCast];exact en) hf
  rw[Int.toNat_natCast]at h2 h3
  exact⟨f',h2,by rw[h3,List.range_succ]⟩
 refine T.loop (fun q=>∃ (i M:Nat),i<=(kids ns met).length/\M<=ns.length/\(∀ f',rk met<=f'->((kids ns met).take i).foldl (aL ns f') (List.range (met+1))=List.range M)/\q=((M:Int),kids ns met,((kids ns met).length:Int),(i:Int),ns,root,())) (fun q=>(kids ns met).length-q.2.2.2.1.toNat) ⟨0,met+1,by omega,by omega,fun f' _=>by simp,rfl⟩ ?_
 rintro _ ⟨i,M,hi,hM,og,rfl⟩
 dsimp only
 rw[hK,bT]
 refine T.cnd (fun hc3=>?_) (fun hc3=>?_)<;>simp only[aG,aD]at hc3
 ·have hil:i<(kids ns met).length:=by omega
  have ec:=getD_eq (kids ns met) i 0 hil
  rw[ec]
  have hcm:=List.getElem_mem hil
  obtain⟨k1,k2⟩:=hk _ hcm
  have hrk:rkI rk (kids ns met)[i]<=rk met:=by
   unfold rkI
   split
   ·omega
   ·rename_i q;exact k2 (by omega)
  have hlt2:rkI rk (kids ns met)[i]<rkI rk (met:Int):=by
   have:rkI rk (met:Int)=rk met+1:=by unfold rkI;rw[if_neg (by omega),Int.toNat_natCast]
   omega
  have etk:∀ f',((kids ns met).take (i+1)).foldl (aL ns f') (List.range (met+1))=aL ns f' (((kids ns met).take i).foldl (aL ns f') (List.range (met+1))) (kids ns met)[i]:=fun f'=>by
   rw[List.take_succ_eq_append_getElem hil,List.foldl_append];rfl
  refine T.grd (by rw[aH];omega) (T.call (ih ((kids ns met)[i],M) ⟨k1,hM⟩ hlt2) ?_)
  rintro⟨y1,y2,⟨⟩⟩ ⟨M',rfl,y3,y4⟩
  dsimp only at y3 y4 ⊢
  refine T.cnd (fun hc4=>?_) (fun hc4=>?_)<;>simp only[bF,dJ]at hc4
  ·refine T.out ⟨M',rfl,fun h=>(by cases h),fun _ f hf=>?_⟩
   obtain⟨f',h1,h2⟩:=unf f hf
   rw[h2,<- List.take_append_drop (i+1) (kids ns met),List.foldl_append,etk,og f' h1]
   have ho:=(l9 hR f' _ (List.range M) k1 (zi _ _ hM)).1
   obtain⟨_,t,e⟩:=yh hR f' ((kids ns met).drop (i+1)) (fun c hc=>(hk c (List.mem_of_mem_drop hc)).1) _ ho
   rw[e]
   exact (y4 hc4 f' (by omega)).app t
  ·obtain⟨y5,y6⟩:=y3 hc4
   refine T.go ⟨i+1,M',by omega,y5,fun f' h1=>?_,by rw[aF (by omega) (by omega)];rfl⟩ (by dsimp only;rw[aF (by omega) (by omega)];omega)
   rw[etk,og f' h1]
   exact y6 f' (by omega)
 ·obtain rfl:i=(kids ns met).length:=by omega
  refine T.out ⟨M,rfl,fun _=>⟨hM,fun f hf=>?_⟩,fun h=>(by cases h)⟩
  obtain⟨f',h1,h2⟩:=unf f hf
  rw[h2]
  have:=og f' h1
  rwa [List.take_length]at this
end Abs
end Go.Proofs.YtgfnhpadmifiiaaDoor
end
section
namespace Go.Proofs.YtgfnhpadmifiiaaDoor
namespace Abs
def eu (n:Nat) (ord:List Nat):List Int:=(List.range n).map fun r=>if r∈ord then (ord.idxOf r:Int) else -1
def lK (ns:List DS1) (ord:List Nat):List DS1:=ord.map fun i=>ns.getD i zN
theorem iJ (n:Nat) (ord:List Nat):(eu n ord).length=n:=by simp[eu]
theorem zm (ns:List DS1) (ord:List Nat):(lK ns ord).length=ord.length:=by simp[lK]
theorem CP (ns:List DS1) (ord:List Nat) (r:Nat):lK ns (ord++[r])=lK ns ord++[ns.getD r zN]:=by simp[lK]
theorem qM {n:Nat} {ord:List Nat} {r:Nat} (h:r<n):(eu n ord).getD r 0=if r∈ord then (ord.idxOf r:Int) else -1:=by
 rw[getD_eq _ _ _ (by rw[iJ];exact h)];simp[eu]
theorem yH {n:Nat} {ord:List Nat} {r:Nat} (hr:r<n) (hm:r∉ord):(eu n ord).set r (ord.length:Int)=eu n (ord++[r]):=by
 apply List.ext_getElem (by simp[eu])
 intro j h1 h2
 have hj:j<n:=by rw[iJ]at h2;exact h2
 by_cases e:r=j
 ·subst e
  rw[List.getElem_set_self]
  simp[eu,List.idxOf_append,hm]
 ·rw[List.getElem_set_ne e]
  simp only[eu,List.getElem_map,List.getElem_range,List.mem_append,List.mem_singleton]
  by_cases q:j∈ord
  ·rw[if_pos q,if_pos (.inl q),List.idxOf_append,if_pos q]
  ·rw[if_neg q,if_neg (by rintro (q'|q');exact q q';exact e q'.symm)]
theorem K6 (n:Nat):eu n []=List.replicate n (-1):=by
 apply List.ext_getElem (by simp[eu])
 intro j h1 h2
 simp[eu]
section
variable {ns:List DS1} {rk:Nat->Nat}
theorem tQ (hR:lT ns rk):∀ (m f f':Nat) (c:Int) (ord:List Nat),rkI rk c<=m->m<=f->m<=f'->c<(ns.length:Int)->aL ns f ord c=aL ns f' ord c:=by
 intro m
 induction m with
 |zero =>
  intro f f' c ord h _ _ _
  have:c<0:=by unfold rkI at h;split at h;assumption;omega
  rw[iY f ord this,iY f' ord this]
 |succ m ih =>
  intro f f' c ord h h1 h2 hc
  rcases Int.lt_or_le c 0 with q|q
  ·rw[iY f ord q,iY f' ord q]
  by_cases hm:c.toNat∈ord
  ·rw[lW f ord hm,lW f' ord hm]
  have hk:=(hR c.toNat (by omega)).2
  unfold rkI at h
  rw[if_neg (by omega)]at h
  obtain⟨g,rfl⟩:∃ g,f=g+1:=⟨f-1,by omega⟩
  obtain⟨g',rfl⟩:∃ g',f'=g'+1:=⟨f'-1,by omega⟩
  simp only[aL]
  have hq:¬ (c<0\/c.toNat∈ord):=by rintro (r|r);omega;exact hm r
  rw[if_neg hq,if_neg hq]
  have key:∀ (cs:List Int),(∀ x∈cs,x∈kids ns c.toNat)->∀ o,cs.foldl (aL ns g) o=cs.foldl (aL ns g') o:=by
   intro cs
   induction cs with
   |nil=>intro _ o;rfl
   |cons x cs ih2 =>
    intro hx o
    obtain⟨k1,k2⟩:=hk x (hx x (by simp))
    rw[List.foldl_cons,List.foldl_cons,ih g g' x o (by unfold rkI;split;omega;rename_i q;have:=k2 (by omega);omega) (by omega) (by omega) k1]
    exact ih2 (fun y hy=>hx y (by simp[hy])) _
  exact key _ (fun _ q=>q) _
theorem yI (hR:lT ns rk) {F:Nat} (hF:∀ r,r<ns.length->rk r+1<=F) {r:Int} {ord:List Nat} (h0:0<=r) (hr:r<(ns.length:Int)) (hm:r.toNat∉ord):aL ns F ord r=(kids ns r.toNat).foldl (aL ns F) (ord++[r.toNat]):=by
 have hf:=hF r.toNat (by omega)
 obtain⟨f',rfl,h2,e⟩:=wP (ns:=ns) (rk:=rk) (f:=F) h0 hm (by unfold rkI;rw[if_neg (by omega)];exact hf)
 rw[e]
 have hk:=(hR r.toNat (by omega)).2
 have key:∀ (cs:List Int),(∀ x∈cs,x∈kids ns r.toNat)->∀ o,cs.foldl (aL ns f') o=cs.foldl (aL ns (f'+1)) o:=by
  intro cs
  induction cs with
  |nil=>intro _ o;rfl
  |cons x cs ih2 =>
   intro hx o
   obtain⟨k1,k2⟩:=hk x (hx x (by simp))
   rw[List.foldl_cons,List.foldl_cons,tQ hR f' f' (f'+1) x o (by unfold rkI;split;omega;rename_i q;have:=k2 (by omega);omega) (by omega) (by omega) k1]
   exact ih2 (fun y hy=>hx y (by simp[hy])) _
 exact key _ (fun _ q=>q) _
end
end Abs
end Go.Proofs.YtgfnhpadmifiiaaDoor
end
namespace Go.Proofs.YtgfnhpadmifiiaaDoor
namespace Abs
def vDg (l:List UInt8):Nat:=l.foldl (fun a c=>a*10+(c.toNat-48)) 0
theorem OC (l:List UInt8) (c:UInt8):vDg (l++[c])=vDg l*10+(c.toNat-48):=by unfold vDg;rw[List.foldl_append];rfl
theorem dg8 {k:Nat} (h:k<10):(UInt8.ofNat (48+k)).toNat=48+k:=by rw[UInt8.toNat_ofNat'];omega
theorem xL (u:Nat):vDg (Lib.decDigits u)=u:=by
 induction u using Nat.strongRecOn with
 |_ u ih =>
  rw[Lib.decDigits]
  split
  ·rename_i h
   show 0*10+((UInt8.ofNat (48+u)).toNat-48)=u
   rw[dg8 h];omega
  ·rename_i h
   rw[OC,ih (u/10) (by omega),dg8 (by omega)];omega
theorem zJ (u:Nat):∀ b∈Lib.decDigits u,48<=b.toNat/\b.toNat<=57:=by
 induction u using Nat.strongRecOn with
 |_ u ih =>
  rw[Lib.decDigits]
  split
  ·rename_i h
   intro b hb
   obtain rfl:=List.mem_singleton.1 hb
   rw[dg8 h];omega
  ·rename_i h
   intro b hb
   rcases List.mem_append.1 hb with q|q
   ·exact ih (u/10) (by omega) b q
   ·obtain rfl:=List.mem_singleton.1 q
    rw[dg8 (by omega)];omega
theorem sQ (n:Int):∀ b∈Lib.itoa n,b≠44/\b≠59:=by
 have key:∀ b:UInt8,(48<=b.toNat/\b.toNat<=57)->b≠44/\b≠59:=fun b h=>⟨fun e=>by subst e;simp at h,fun e=>by subst e;simp at h⟩
 intro b hb
 unfold Lib.itoa at hb
 split at hb
 ·rcases List.mem_cons.1 hb with rfl|q
  ·decide
  ·exact key b (zJ _ b q)
 ·exact key b (zJ _ b hb)
theorem FW {a b:Int} (h:Lib.itoa a=Lib.itoa b):a=b:=by
 have ne:∀ u,Lib.decDigits u≠[]:=fun u e=>by
  have:(Lib.decDigits u).length=0:=by rw[e];rfl
  rw[Lib.decDigits]at this
  split at this<;>simp at this
 have hd:∀ (u:Nat) (t:List UInt8),Lib.decDigits u≠45::t:=fun u t e=>by
  have:=(zJ u 45 (by rw[e];simp)).1
  simp at this
 unfold Lib.itoa at h
 split at h<;>split at h
 ·have h2:=(List.cons.inj h).2
  have:=congrArg vDg h2
  rw[xL,xL]at this
  omega
 ·exact absurd h.symm (hd _ _)
 ·exact absurd h (hd _ _)
 ·have:=congrArg vDg h
  rw[xL,xL]at this
  omega
def Sep (y:List UInt8):Prop:=y=[]\/∃ t,y=44::t\/y=59::t
theorem Cw:∀ (x x' y y':List UInt8),(∀ b∈x,b≠44/\b≠59)->(∀ b∈x',b≠44/\b≠59)->Sep y->Sep y'->x++y=x'++y'->x=x'/\y=y':=by
 intro x
 induction x with
 |nil =>
  intro x' y y' _ h' hy hy' e
  cases x' with
  |nil=>exact⟨rfl,e⟩
  |cons b x' =>
   obtain⟨h1,h2⟩:=h' b (by simp)
   have e:y=b::(x'++y'):=e
   rcases hy with rfl|⟨t,rfl|rfl⟩
   ·cases e
   ·exact absurd (List.cons.inj e).1.symm h1
   ·exact absurd (List.cons.inj e).1.symm h2
 |cons a x ih =>
  intro x' y y' h h' hy hy' e
  cases x' with
  |nil =>
   obtain⟨h1,h2⟩:=h a (by simp)
   have e:a::(x++y)=y':=e
   rcases hy' with rfl|⟨t,rfl|rfl⟩
   ·cases e
   ·exact absurd (List.cons.inj e).1 h1
   ·exact absurd (List.cons.inj e).1 h2
  |cons b x' =>
   have e:a::(x++y)=b::(x'++y'):=e
   obtain⟨e1,e2⟩:=List.cons.inj e
   obtain⟨r1,r2⟩:=ih x' y y' (fun c hc=>h c (by simp[hc])) (fun c hc=>h' c (by simp[hc])) hy hy' e2
   exact⟨by rw[e1,r1],r2⟩
def pL (cs:List Int):List UInt8:=cs.flatMap fun c=>44::Lib.itoa c
theorem xS (c:Int) (cs:List Int):pL (c::cs)=44::(Lib.itoa c++pL cs):=by simp[pL]
def Lp (t:List UInt8):Prop:=t=[]\/∃ u,t=59::u
theorem Aj (cs:List Int) {t:List UInt8} (h:Lp t):Sep (pL cs++t):=by
 cases cs with
 |nil=>rcases h with rfl|⟨u,rfl⟩;exact .inl rfl;exact .inr ⟨u,.inr rfl⟩
 |cons c cs=>rw[xS];exact .inr ⟨_,.inl rfl⟩
theorem Mf:∀ (cs cs':List Int) (t t':List UInt8),Lp t->Lp t'->pL cs++t=pL cs'++t'->cs=cs'/\t=t':=by
 have bad:∀ {c:Int} {cs:List Int} {t t':List UInt8},Lp t'->pL (c::cs)++t=t'->False:=by
  intro c cs t t' h e
  rw[xS]at e
  rcases h with rfl|⟨u,rfl⟩
  ·cases e
  ·have:=(List.cons.inj e).1;revert this;decide
 intro cs
 induction cs with
 |nil =>
  intro cs' t t' h h' e
  cases cs' with
  |nil=>exact⟨rfl,e⟩
  |cons c cs'=>exact (bad h e.symm).elim
 |cons c cs ih =>
  intro cs' t t' h h' e
  cases cs' with
  |nil=>exact (bad h' e).elim
  |cons c' cs' =>
   rw[xS,xS]at e
   have e:(Lib.itoa c++pL cs)++t=(Lib.itoa c'++pL cs')++t':=(List.cons.inj e).2
   rw[List.append_assoc,List.append_assoc]at e
   obtain⟨e1,e2⟩:=Cw _ _ _ _ (sQ c) (sQ c') (Aj cs h) (Aj cs' h') e
   obtain⟨r1,r2⟩:=ih cs' t t' h h' e2
   exact⟨by rw[FW e1,r1],r2⟩
theorem IJ (a:Int) (cs ns:List Int):oU a cs ns=Lib.itoa a++(pL cs++59::(pL ns++[])):=by unfold oU pL;rw[List.append_nil,List.append_assoc]
theorem Q7 {a a':Int} {cs cs' ns ns':List Int} (h:oU a cs ns=oU a' cs' ns'):a=a'/\cs=cs'/\ns=ns':=by
 rw[IJ,IJ]at h
 obtain⟨e1,e2⟩:=Cw _ _ _ _ (sQ a) (sQ a') (Aj cs (.inr ⟨_,rfl⟩)) (Aj cs' (.inr ⟨_,rfl⟩)) h
 obtain⟨e3,e4⟩:=Mf _ _ _ _ (.inr ⟨_,rfl⟩) (.inr ⟨_,rfl⟩) e2
 obtain⟨e5,_⟩:=Mf _ _ _ _ (.inl rfl) (.inl rfl) (List.cons.inj e4).2
 exact⟨FW e1,e3,e5⟩
def nD (x:DS1):ByteArray:=⟨(oU x.1 x.2.1 x.2.2.1).toArray⟩
theorem zx {x y:DS1} (h:nD x=nD y):x=y:=by
 obtain⟨a,cs,ns,⟨⟩⟩:=x
 obtain⟨a',cs',ns',⟨⟩⟩:=y
 have h1:=ByteArray.mk.inj h
 have h2:(oU a cs ns).toArray.toList=(oU a' cs' ns').toArray.toList:=congrArg Array.toList h1
 have h2:oU a cs ns=oU a' cs' ns':=h2
 obtain⟨rfl,rfl,rfl⟩:=Q7 h2
 rfl
def VD (dm:List DS3) (ns:List DS1) (root:Int):Prop :=
 ns.length<=1000/\fJ ns.length root/\(∀ i,i<ns.length->jo dm ns (ns.getD i zN))/\(∀ i,i<ns.length->∀ k,k<i->ns.getD k zN≠ns.getD i zN)/\aL ns 8 [] root=List.range ns.length
def SzN (ns:List DS1):Prop:=ns.length<=9223372036854775807/\∀ x∈ns,x.2.1.length<=9223372036854775807/\x.2.2.1.length<=9223372036854775807
theorem SzN.at {ns:List DS1} (h:SzN ns) {i:Nat} (hi:i<ns.length):(ns.getD i zN).2.1.length<=9223372036854775807/\(ns.getD i zN).2.2.1.length<=9223372036854775807:=by
 rw[getD_eq _ _ _ hi];exact h.2 _ (List.getElem_mem hi)
theorem RU {dm:List DS3} {ns:List DS1} {x:DS1} (hd:dI dm) (hn:ns.length<=1000) (h:jo dm ns x):zo x.1 x.2.1 x.2.2.1=some (nD x,()):=by
 obtain⟨l1,l2⟩:=h.len hd
 obtain⟨h1,h2,h3,h4,h5,h6⟩:=h
 have d2:=hd.2.1
 have hb:=hd.at (i:=x.1.toNat) (by omega)
 unfold zo
 rw[if_pos]
 ·rfl
 ·refine⟨?_,?_,?_,by omega⟩
  ·unfold tX;rw[decide_eq_true_eq];omega
  ·refine List.all_eq_true.2 fun c hc=>?_
   obtain⟨k,hk,rfl⟩:=List.getElem_of_mem hc
   have:=h5 k hk
   rw[getD_eq _ _ _ hk]at this
   unfold tX;rw[decide_eq_true_eq];omega
  ·refine List.all_eq_true.2 fun c hc=>?_
   obtain⟨k,hk,rfl⟩:=List.getElem_of_mem hc
   have:=(h6 k hk).1
   rw[getD_eq _ _ _ hk]at this
   unfold fJ at this
   unfold tX;rw[decide_eq_true_eq];omega
def rkA (ns:List DS1) (r:Nat):Nat:=(6-(ns.getD r zN).1).toNat
theorem iR {dm:List DS3} {ns:List DS1} (hd:dI dm) (h:∀ i,i<ns.length->jo dm ns (ns.getD i zN)):lT ns (rkA ns)/\∀ r,r<ns.length->rkA ns r+1<=8:=by
 have d2:=hd.2.1
 refine⟨fun r hr=>⟨((h r hr).len hd).2,fun c hc=>?_⟩,fun r hr=>?_⟩
 ·obtain⟨k,hk,rfl⟩:=List.getElem_of_mem hc
  have h6:=(h r hr).2.2.2.2.2 k hk
  have e:(ns.getD r zN).2.2.1.getD k 0=(kids ns r)[k]:=getD_eq (kids ns r) k 0 hk
  rw[e]at h6
  refine⟨h6.1.2,fun h0=>?_⟩
  have hc':(kids ns r)[k].toNat<ns.length:=by have:=h6.1.2;omega
  have h7:=h6.2.2 h0
  have h8:=(h _ hc').2.1
  unfold rkA
  omega
 ·have:=(h r hr).1
  unfold rkA;omega
theorem MQ (g:Nat->ByteArray) (k:ByteArray):∀ (L:List Nat),(iM sEq k (L.map fun x=>(g x,true,()))=some true/\∃ x∈L,k=g x)\/(iM sEq k (L.map fun x=>(g x,true,()))=none/\∀ x∈L,k≠g x):=by
 intro L
 induction L with
 |nil=>exact .inr ⟨rfl,fun x hx=>by cases hx⟩
 |cons x L ih =>
  simp only[List.map_cons,iM]
  cases q:sEq k (g x) with
  |true=>exact .inl ⟨rfl,x,by simp,by rwa [Ag]at q⟩
  |false =>
   rw[Ah]at q
   rcases ih with ⟨h1,y,h2,h3⟩|⟨h1,h2⟩
   ·exact .inl ⟨h1,y,by simp[h2],h3⟩
   ·exact .inr ⟨h1,fun y hy=>by rcases List.mem_cons.1 hy with rfl|hy;exact q;exact h2 y hy⟩
theorem FC {α β:Type} {eq:α->α->Bool} (k:α) (v:β):∀ (es:List (α×β×Unit)),(∀ e∈es,eq k e.1=false)->jJ eq k v es=es++[(k,v,())]:=by
 intro es
 induction es with
 |nil=>intro _;rfl
 |cons e es ih=>intro h;simp only[jJ];rw[h e (by simp),ih (fun x hx=>h x (by simp[hx]))];rfl
theorem xg (l:List DS0) (ns:List DS1) (root:Int) (hz:SzN ns):T (m31 (l,()) (ns,root,())) (fun y=>y.1=true↔gy l=0/\VD (doms l) ns root):=by
 unfold m31
 refine T.aX (Dz _) ?_
 dsimp only
 have hN:=aB ns
 rw[hN]
 refine T.cnd (fun hc=>?_) (fun hc=>?_)<;>simp only[bV,bW,dx,dK,aG,aD]at hc
 ·refine T.ret ⟨fun h=>(by cases h),fun h=>?_⟩
  have h1:=h.1
  have h2:=h.2.1
  omega
 obtain⟨hv,hn⟩:=hc
 have hd:=nM hv
 refine T.aX (Rj _ _) ?_
 dsimp only
 refine T.cnd (fun hc=>?_) (fun hc=>?_)<;>simp only[bF,dJ,decide_eq_true_eq,decide_eq_false_iff_not]at hc
 ·exact T.ret ⟨fun h=>(by cases h),fun h=>absurd h.2.2.1 hc⟩
 refine T.aX (Gx l hv) ?_
 dsimp only
 generalize doms l=dm at hd ⊢
 refine T.loop (fun q=>∃ i:Nat,i<=ns.length/\(∀ k,k<i->jo dm ns (ns.getD k zN))/\(∀ k,k<i->∀ j,j<k->ns.getD j zN≠ns.getD k zN)/\q=(dm,ns,(ns.length:Int),(i:Int),ns,root,(List.range i).map (fun k=>(nD (ns.getD k zN),true,())),())) (fun q=>ns.length-q.2.2.2.1.toNat) ⟨0,by omega,fun k hk=>by omega,fun k hk=>by omega,rfl⟩ ?_
 rintro _ ⟨i,hi,hs,hne,rfl⟩
 dsimp only
 have eN:atI ns (i:Int) (0,[],[],())=ns.getD i zN:=by rw[bT];rfl
 rw[eN,hN]
 refine T.cnd (fun hc2=>?_) (fun hc2=>?_)<;>simp only[aG,aD]at hc2
 ·have hlt:i<ns.length:=by omega
  obtain⟨z1,z2⟩:=hz.at hlt
  refine T.grd (by rw[aH];omega) (T.call (U8 hd ns root (ns.getD i zN) z1 z2 hz.1) ?_)
  rintro⟨y,⟨⟩⟩ hy
  dsimp only at hy ⊢
  refine T.cnd (fun hc3=>?_) (fun hc3=>?_)<;>simp only[bF,dJ]at hc3
  ·refine T.out ⟨fun h=>(by cases h),fun h=>?_⟩
   rw[hy.2 (h.2.2.2.1 i hlt)]at hc3
   cases hc3
  have hsi:=hy.1 hc3
  refine T.aX (RU hd (by omega) hsi) ?_
  dsimp only
  unfold jw
  rcases MQ (fun k=>nD (ns.getD k zN)) (nD (ns.getD i zN)) (List.range i) with ⟨h1,x,h2,h3⟩|⟨h1,h2⟩
  ·rw[h1]
   refine T.ct rfl (T.out ⟨fun h=>(by cases h),fun h=>?_⟩)
   exact absurd (zx h3).symm (h.2.2.2.2.1 i hlt x (List.mem_range.1 h2))
  ·rw[h1]
   refine T.cf rfl (T.go ⟨i+1,by omega,fun k hk=>?_,fun k hk j hj=>?_,?_⟩ (by dsimp only;rw[aF (by omega) (by omega)];omega))
   ·rcases Nat.lt_or_ge k i with r|r
    ·exact hs k r
    ·obtain rfl:k=i:=by omega
     exact hsi
   ·rcases Nat.lt_or_ge k i with r|r
    ·exact hne k r j hj
    ·obtain rfl:k=i:=by omega
     intro e
     exact h2 j (List.mem_range.2 hj) (congrArg nD e.symm)
   ·rw[aF (by omega) (by omega),FC _ _ _ (fun e he=>?_),List.range_succ,List.map_append]
    ·rfl
    ·obtain⟨k,hk,rfl⟩:=List.mem_map.1 he
     rw[Ah];exact h2 k hk
 ·obtain rfl:i=ns.length:=by omega
  refine T.kX ?_
  obtain⟨hR,hF⟩:=iR hd hs
  refine T.call (a0c hR (by omega) root root 0 hc.2 (by omega)) ?_
  rintro⟨y1,y2,⟨⟩⟩ ⟨M,e1,h1,h2⟩
  dsimp only at e1 h1 h2 ⊢
  subst e1
  have hf8:rkI (rkA ns) root<=8:=by
   unfold rkI
   split
   ·omega
   ·exact hF _ (by have:=hc.2;omega)
  refine T.ret ?_
  dsimp only
  rw[bg,bf]
  refine⟨fun ⟨q1,q2⟩=>⟨hv,by omega,hc,hs,hne,?_⟩,fun h=>?_⟩
  ·have:=(h1 q1).2 8 hf8
   rw[show List.range 0=([]:List Nat) from rfl]at this
   rw[this,show M=ns.length by omega]
  ·have h5:=h.2.2.2.2.2
   cases q:y2 with
   |false =>
    have:=h2 q 8 hf8
    rw[show List.range 0=([]:List Nat) from rfl,h5]at this
    exact this.ne.elim
   |true =>
    have:=(h1 q).2 8 hf8
    rw[show List.range 0=([]:List Nat) from rfl,h5]at this
    have:=congrArg List.length this
    rw[List.length_range,List.length_range]at this
    exact⟨rfl,by omega⟩
theorem Xr (x y:DS2) (hx:SzN x.1):m14 x y=some (decide (x.1=y.1/\x.2.1=y.2.1),()):=by
 obtain⟨a,ra,⟨⟩⟩:=x
 obtain⟨b,rb,⟨⟩⟩:=y
 refine T.eq ?_
 unfold m14
 have hA:=aB a
 have hB:=aB b
 dsimp only at hx ⊢
 refine T.cnd (fun hc=>?_) (fun hc=>?_)<;>simp only[bV,bW,dx,dK]at hc
 ·refine T.ret ?_
  rw[decide_eq_false (fun e=>?_)]
  obtain⟨rfl,rfl⟩:=e
  exact hc.elim (fun q=>q rfl) (fun q=>q rfl)
 obtain⟨rfl,hl⟩:=hc
 have hlen:b.length=a.length:=by omega
 refine T.loop (fun q=>∃ i:Nat,i<=a.length/\(∀ j,j<i->a.getD j zN=b.getD j zN)/\q=((i:Int),a,ra,b,ra,())) (fun q=>a.length-q.1.toNat) ⟨0,by omega,fun j hj=>by omega,rfl⟩ ?_
 rintro _ ⟨i,hi,hg,rfl⟩
 dsimp only
 have hsz:=hx.1
 have eA:atI a (i:Int) (0,[],[],())=a.getD i zN:=by rw[bT];rfl
 have eB:atI b (i:Int) (0,[],[],())=b.getD i zN:=by rw[bT];rfl
 rw[eA,eB,hA,hB]
 refine T.cnd (fun hc=>?_) (fun hc=>?_)<;>simp only[aG,aD]at hc
 ·have hlt:i<a.length:=by omega
  obtain⟨z1,z2⟩:=hx.at hlt
  have bad:a.getD i zN≠b.getD i zN->decide (a=b/\ra=ra)=false:=fun h=>decide_eq_false fun e=>h (by rw[e.1])
  have b1:bnd (i:Int) (a.length:Int)=true:=by rw[aH];omega
  have b2:bnd (i:Int) (b.length:Int)=true:=by rw[aH];omega
  refine T.grd b1 (T.grd b2 (T.grd (by rw[bY];exact .inl b1) (T.grd (by rw[bY];exact .inl b2) (T.cnd (fun hd=>?_) (fun hd=>?_)))))<;>simp only[dx,dK]at hd
  ·refine T.grd (by rw[bY];exact .inl b1) (T.grd (by rw[bY];exact .inl b2) (T.out ?_))
   rw[bad (fun e=>hd (by rw[e]))]
  refine T.aX (Ae _ _ z1) ?_
  refine T.grd (by rw[bY];exact .inl b1) (T.grd (by rw[bY];exact .inl b2) (T.cnd (fun he=>?_) (fun he=>?_)))<;>simp only[bF,dJ,decide_eq_true_eq,decide_eq_false_iff_not]at he
  ·refine T.out ?_
   rw[bad (fun e=>he (by rw[e]))]
  refine T.aX (Ae _ _ z2) ?_
  dsimp only
  refine T.cnd (fun hf=>?_) (fun hf=>?_)<;>simp only[bF,dJ,decide_eq_true_eq,decide_eq_false_iff_not]at hf
  ·refine T.out ?_
   rw[bad (fun e=>hf (by rw[e]))]
  refine T.go ⟨i+1,by omega,fun j hj=>?_,by rw[aF (by omega) (by omega)];rfl⟩ (by dsimp only;rw[aF (by omega) (by omega)];omega)
  rcases Nat.lt_or_ge j i with r|r
  ·exact hg j r
  ·obtain rfl:j=i:=by omega
   exact Prod.ext hd (Prod.ext he (Prod.ext hf rfl))
 ·refine T.out ?_
  rw[decide_eq_true]
  refine⟨?_,rfl⟩
  apply List.ext_getElem (by omega)
  intro j h1 h2
  have:=hg j (by omega)
  rwa [getD_eq _ _ _ h1,getD_eq _ _ _ h2]at this
end Abs
end Go.Proofs.YtgfnhpadmifiiaaDoor
section
namespace Go.Proofs.YtgfnhpadmifiiaaDoor
namespace Abs
def sat (n:Int):Int:=min n 17592186044416
theorem Ic {x w:Int} (hx:0<=x) (hw:0<=w):sat (sat x*w)=sat (x*w):=by
 unfold sat
 rcases Int.le_total x 17592186044416 with h|h
 ·rw[Int.min_eq_left h]
 ·rw[Int.min_eq_right h]
  rcases Int.lt_or_le 0 w with q|q
  ·have h1:17592186044416*1<=17592186044416*w:=Int.mul_le_mul_of_nonneg_left (by omega) (by omega)
   have h2:17592186044416*w<=x*w:=Int.mul_le_mul_of_nonneg_right h hw
   rw[Int.min_eq_right (by omega),Int.min_eq_right (by omega)]
  ·obtain rfl:w=0:=by omega
   simp
theorem Ur {x y:Int} (hx:0<=x) (hy:0<=y):sat (sat x+sat y)=sat (x+y):=by unfold sat;omega
theorem Ad {x:Int} (hx:0<=x):0<=sat x/\sat x<=17592186044416:=by unfold sat;omega
theorem EM {x:Int}:sat x=0↔x=0:=by unfold sat;omega
theorem I9 {a b:Int} (ha:0<=a/\a<=17592186044416) (hb:0<=b/\b<=4611686018427387904):m82 a b=some (sat (a*b),()):=by
 refine T.eq ?_
 unfold m82
 refine T.grd ?_ (T.cnd (fun hc=>?_) (fun hc=>?_))
 ·rw[bY,dx,bF,bP,aD];omega
 ·rw[bg,aG,aG]at hc
  have hq:qD .i64 17592186044416 a=17592186044416/a:=by
   unfold qD
   rw[Int.tdiv_eq_ediv_of_nonneg (by omega),wrap64]
   ·have:=Int.ediv_nonneg (show (0:Int)<=17592186044416 by omega) ha.1;omega
   ·have:=Int.ediv_le_self a (show (0:Int)<=17592186044416 by omega);omega
  rw[hq]at hc
  refine T.ret ?_
  have h1:17592186044416<a*b:=by
   have:=(Int.ediv_lt_iff_lt_mul hc.1).1 hc.2
   rw[Int.mul_comm]at this;exact this
  unfold sat
  rw[Int.min_eq_right (by omega)]
 ·rw[bq,aD,aD]at hc
  have h1:a*b<=17592186044416:=by
   rcases Int.lt_or_le 0 a with q|q
   ·have hq:qD .i64 17592186044416 a=17592186044416 / a:=by
     unfold qD
     rw[Int.tdiv_eq_ediv_of_nonneg (by omega),wrap64]
     ·have:=Int.ediv_nonneg (show (0:Int)<=17592186044416 by omega) ha.1;omega
     ·have:=Int.ediv_le_self a (show (0:Int)<=17592186044416 by omega);omega
    rw[hq]at hc
    rcases hc with r|r
    ·omega
    ·have:=(Int.le_ediv_iff_mul_le q).1 r
     rw[Int.mul_comm]at this;exact this
   ·obtain rfl:a=0:=by omega
    simp
  have h0:0<=a*b:=Int.mul_nonneg ha.1 hb.1
  refine T.ret ?_
  rw[fK (by omega) (by omega)]
  unfold sat
  rw[Int.min_eq_left h1]
def wid (d:DS3):Int:=d.2.1-d.1+1
def qL (dm:List DS3) (a b:Nat):Int:=((dm.take b).drop a).foldl (fun p d=>p*wid d) 1
theorem Gg (l:List DS3):∀ p:Int,l.foldl (fun p d=>p*wid d) p=p*l.foldl (fun p d=>p*wid d) 1:=by
 induction l with
 |nil=>intro p;simp
 |cons d l ih=>intro p;rw[List.foldl_cons,List.foldl_cons,ih,ih (1*wid d),Int.one_mul,Int.mul_assoc]
theorem Ev {dm:List DS3} (hd:dI dm) {d:DS3} (h:d∈dm):1<=wid d/\wid d<=2000000001:=by
 have:=hd.2.2 d h;unfold wid;omega
theorem CJ {dm:List DS3} (hd:dI dm) (a b:Nat):1<=qL dm a b:=by
 have key:∀ l:List DS3,(∀ d∈l,d∈dm)->1<=l.foldl (fun p d=>p*wid d) 1:=by
  intro l
  induction l with
  |nil=>intro _;simp
  |cons d l ih =>
   intro h
   rw[List.foldl_cons,Gg,Int.one_mul]
   have h1:=(Ev hd (h d (by simp))).1
   have h2:=ih (fun x hx=>h x (by simp[hx]))
   have:1*1<=wid d*l.foldl (fun p d=>p*wid d) 1:=Int.mul_le_mul h1 h2 (by omega) (by omega)
   omega
 exact key _ fun d h=>List.mem_of_mem_take (List.mem_of_mem_drop h)
theorem Gd {dm:List DS3} (hd:dI dm) {n:Int} (hn:0<=n) (a b:Nat) (hab:a<=b) (hb:b<=dm.length) (ns:List DS1) (leaf:Int) (me:List DS3) :
  m81 (sat n) (a:Int) (b:Int) ns dm leaf me=some (sat (n*qL dm a b),ns,dm,leaf,me,()):=by
 refine T.eq ?_
 unfold m81
 refine T.grd (by rw[dU];omega) ?_
 have eC:nG (a:Int) (b:Int) dm=(dm.take b).drop a:=by unfold nG;rw[Int.toNat_natCast,Int.toNat_natCast]
 rw[eC]
 generalize hl:(dm.take b).drop a=l
 have hll:l.length<=6:=by
  have:=hd.2.1
  rw[<- hl,List.length_drop,List.length_take];omega
 have hmem:∀ d∈l,d∈dm:=fun d h=>by rw[<- hl]at h;exact List.mem_of_mem_take (List.mem_of_mem_drop h)
 have hL:=aB l
 rw[hL]
 have fin:qL dm a b=l.foldl (fun p d=>p*wid d) 1:=by unfold qL;rw[hl]
 have pos:∀ k,0<=(l.take k).foldl (fun p d=>p*wid d) 1:=by
  intro k
  have key:∀ l':List DS3,(∀ d∈l',d∈dm)->0<=l'.foldl (fun p d=>p*wid d) 1:=by
   intro l'
   induction l' with
   |nil=>intro _;simp
   |cons d l' ih =>
    intro h
    rw[List.foldl_cons,Gg,Int.one_mul]
    exact Int.mul_nonneg (by have:=(Ev hd (h d (by simp))).1;omega) (ih (fun x hx=>h x (by simp[hx])))
  exact key _ fun d h=>hmem d (List.mem_of_mem_take h)
 refine T.loop (fun q=>∃ k:Nat,k<=l.length/\q=(sat (n*(l.take k).foldl (fun p d=>p*wid d) 1),l,(l.length:Int),(k:Int),ns,dm,leaf,me,())) (fun q=>l.length-q.2.2.2.1.toNat) ⟨0,by omega,by simp⟩ ?_
 rintro _ ⟨k,hk,rfl⟩
 dsimp only
 rw[hL]
 have eA:atI l (k:Int) (0,0,())=l.getD k zS:=by rw[bT];rfl
 rw[eA]
 refine T.cnd (fun hc=>?_) (fun hc=>?_)<;>simp only[aG,aD]at hc
 ·have hkl:k<l.length:=by omega
  have hw:=Ev hd (hmem _ (List.getElem_mem hkl))
  have hb3:=hd.2.2 _ (hmem _ (List.getElem_mem hkl))
  rw[getD_eq _ _ _ hkl]
  refine T.grd (by rw[aH];omega) ?_
  rw[bS (by omega) (by omega),aF (by omega) (by omega)]
  have h0:=Int.mul_nonneg hn (pos k)
  refine T.aX (I9 (Ad h0) ⟨by unfold wid at hw;omega,by unfold wid at hw;omega⟩) ?_
  dsimp only
  refine T.go ⟨k+1,by omega,?_⟩ (by dsimp only;rw[aF (by omega) (by omega)];omega)
  rw[aF (by omega) (by omega),List.take_succ_eq_append_getElem hkl,List.foldl_append]
  have:l[k].2.1-l[k].1+1=wid l[k]:=rfl
  rw[this,Ic h0 (by omega),Int.mul_assoc]
  rfl
 ·obtain rfl:k=l.length:=by omega
  refine T.out ?_
  rw[List.take_length,fin]
def hiK (dm:List DS3) (x:DS1) (k:Nat):Int:=if k<x.2.1.length then x.2.1.getD k 0 else (dm.getD x.1.toNat zS).2.1+1
def loK (dm:List DS3) (x:DS1) (k:Nat):Int:=if k=0 then (dm.getD x.1.toNat zS).1 else hiK dm x (k-1)
def kJ (g:Nat->Int):Nat->Int
 |0=>0
 |k+1=>kJ g k+g k
def fT (dm:List DS3) (ns:List DS1) (leaf:Int):Nat->Int->Nat->Int
 |0,_,_=>0
 | f + 1,r,a=>if r < 0 then (if -1 - r=leaf then qL dm a dm.length else 0) else
   kJ (fun k=>fT dm ns leaf f ((kids ns r.toNat).getD k 0) ((ns.getD r.toNat zN).1.toNat+1)*(hiK dm (ns.getD r.toNat zN) k-loK dm (ns.getD r.toNat zN) k)) (kids ns r.toNat).length*qL dm a (ns.getD r.toNat zN).1.toNat
def rF (dm:List DS3) (ns:List DS1) (leaf:Int) (f:Nat) (r:Nat):Int :=
 kJ (fun k=>fT dm ns leaf f ((kids ns r).getD k 0) ((ns.getD r zN).1.toNat+1)*(hiK dm (ns.getD r zN) k-loK dm (ns.getD r zN) k)) (kids ns r).length
theorem qd (dm:List DS3) (ns:List DS1) (leaf:Int) (f:Nat) {r:Int} (h:0<=r) (a:Nat):fT dm ns leaf (f+1) r a=rF dm ns leaf f r.toNat*qL dm a (ns.getD r.toNat zN).1.toNat:=by
 simp only[fT,rF];rw[if_neg (by omega)]
theorem nN (dm:List DS3) (ns:List DS1) (leaf:Int) (f:Nat) {r:Int} (h:r<0) (a:Nat):fT dm ns leaf (f+1) r a=if -1-r=leaf then qL dm a dm.length else 0:=by
 simp only[fT];rw[if_pos h]
theorem JI {g g':Nat->Int}:∀ n,(∀ k,k<n->g k=g' k)->kJ g n=kJ g' n:=by
 intro n
 induction n with
 |zero=>intro _;rfl
 |succ n ih=>intro h;simp only[kJ];rw[ih (fun k hk=>h k (by omega)),h n (by omega)]
theorem Ia {g:Nat->Int}:∀ n,(∀ k,k<n->0<=g k)->0<=kJ g n:=by
 intro n
 induction n with
 |zero=>intro _;simp[kJ]
 |succ n ih=>intro h;simp only[kJ];have:=ih (fun k hk=>h k (by omega));have:=h n (by omega);omega
def dY (dm:List DS3) (ns:List DS1):Prop:=∀ i,i<ns.length->jo dm ns (ns.getD i zN)
section
variable {dm:List DS3} {ns:List DS1} {leaf:Int}
theorem dY.wid (hs:dY dm ns) {r:Nat} (hr:r<ns.length) {k:Nat} (hk:k<(kids ns r).length) (hd:dI dm):1<=hiK dm (ns.getD r zN) k-loK dm (ns.getD r zN) k/\-1000000000<=loK dm (ns.getD r zN) k/\hiK dm (ns.getD r zN) k<=1000000001:=by
 obtain⟨h1,h2,h3,h4,h5,h6⟩:=hs r hr
 have hb:=hd.at (i:=(ns.getD r zN).1.toNat) (by omega)
 have hk':k<(ns.getD r zN).2.1.length+1:=by rw[<- h4];exact hk
 have e1:¬ k=0->hiK dm (ns.getD r zN) (k-1)=(ns.getD r zN).2.1.getD (k-1) 0:=fun q=>by unfold hiK;rw[if_pos (by omega)]
 unfold loK
 split
 ·unfold hiK
  split
  ·have:=h5 k (by omega);omega
  ·omega
 ·rename_i q
  rw[e1 q]
  unfold hiK
  split
  ·have:=h5 k (by omega);have:=h5 (k-1) (by omega);have:=(h5 k (by omega)).2.2 (by omega);omega
  ·have:=h5 (k-1) (by omega);omega
theorem Ja (hd:dI dm) (hs:dY dm ns):∀ (f:Nat) (r:Int) (a:Nat),r<(ns.length:Int)->0<=fT dm ns leaf f r a:=by
 intro f
 induction f with
 |zero=>intro r a _;simp[fT]
 |succ f ih =>
  intro r a hr
  rcases Int.lt_or_le r 0 with h|h
  ·rw[nN _ _ _ _ h]
   split
   ·have:=CJ hd a dm.length;omega
   ·omega
  ·rw[qd _ _ _ _ h]
   refine Int.mul_nonneg ?_ (by have:=CJ hd a (ns.getD r.toNat zN).1.toNat;omega)
   refine Ia _ fun k hk=>Int.mul_nonneg (ih _ _ ?_) (by have:=hs.wid (show r.toNat<ns.length by omega) hk hd;omega)
   rw[getD_eq _ _ _ hk]
   exact ((iR hd hs).1 r.toNat (by omega)).2 _ (List.getElem_mem hk) |>.1
theorem I8 (hd:dI dm) (hs:dY dm ns) (f:Nat) {r:Nat} (hr:r<ns.length) (n:Nat) (hn:n<=(kids ns r).length):0<=kJ (fun k=>fT dm ns leaf f ((kids ns r).getD k 0) ((ns.getD r zN).1.toNat+1)*(hiK dm (ns.getD r zN) k-loK dm (ns.getD r zN) k)) n:=by
 refine Ia _ fun k hk=>Int.mul_nonneg (Ja hd hs _ _ _ ?_) (by have:=hs.wid hr (show k<(kids ns r).length by omega) hd;omega)
 rw[getD_eq _ _ _ (by omega)]
 exact ((iR hd hs).1 r hr).2 _ (List.getElem_mem (by omega)) |>.1
theorem Hy (hd:dI dm) (hs:dY dm ns):∀ (m f f':Nat) (r:Int) (a:Nat),rkI (rkA ns) r<=m->m+1<=f->m+1<=f'->r<(ns.length:Int)->fT dm ns leaf f r a=fT dm ns leaf f' r a:=by
 intro m
 induction m with
 |zero =>
  intro f f' r a h h1 h2 hr
  have hneg:r<0:=by unfold rkI at h;split at h;assumption;omega
  obtain⟨g,rfl⟩:∃ g,f=g+1:=⟨f-1,by omega⟩
  obtain⟨g',rfl⟩:∃ g',f'=g'+1:=⟨f'-1,by omega⟩
  rw[nN _ _ _ _ hneg,nN _ _ _ _ hneg]
 |succ m ih =>
  intro f f' r a h h1 h2 hr
  obtain⟨g,rfl⟩:∃ g,f=g+1:=⟨f-1,by omega⟩
  obtain⟨g',rfl⟩:∃ g',f'=g'+1:=⟨f'-1,by omega⟩
  rcases Int.lt_or_le r 0 with q|q
  ·rw[nN _ _ _ _ q,nN _ _ _ _ q]
  ·rw[qd _ _ _ _ q,qd _ _ _ _ q]
   congr 1
   refine JI _ fun k hk=>?_
   have hk2:=((iR hd hs).1 r.toNat (by omega)).2 _ (List.getElem_mem hk)
   rw[getD_eq _ _ _ hk]
   rw[ih g g' _ _ ?_ (by omega) (by omega) hk2.1]
   unfold rkI at h ⊢
   rw[if_neg (by omega)]at h
   split
   ·omega
   ·rename_i q2;have:=hk2.2 (by omega);omega
theorem GA (hd:dI dm) (hs:dY dm ns) {r:Nat} (hr:r<ns.length) {k:Nat} (hk:k<(kids ns r).length) (a:Nat):fT dm ns leaf 8 ((kids ns r).getD k 0) a=fT dm ns leaf 9 ((kids ns r).getD k 0) a:=by
 have hk2:=((iR hd hs).1 r hr).2 _ (List.getElem_mem hk)
 rw[getD_eq _ _ _ hk]
 refine Hy hd hs 7 8 9 _ _ ?_ (by omega) (by omega) hk2.1
 unfold rkI
 split
 ·omega
 ·rename_i q2
  have:=hk2.2 (by omega)
  have:=(iR hd hs).2 r hr
  omega
end
def mU (dm:List DS3) (ns:List DS1) (leaf:Int) (me:List DS3):Prop:=∀ r t,iM iEq r me=some t->t=sat (rF dm ns leaf 8 r.toNat)
theorem PX {β:Type} (k k':Int) (v:β):∀ es:List (Int×β×Unit),iM iEq k (jJ iEq k' v es)=if k=k' then some v else iM iEq k es:=by
 intro es
 induction es with
 |nil =>
  simp only[jJ,iM]
  by_cases h:k=k'
  ·rw[E8 h,if_pos h];rfl
  ·rw[AB h,if_neg h];rfl
 |cons e es ih =>
  simp only[jJ]
  by_cases h1:k'=e.1
  ·rw[E8 h1]
   simp only[cond_true,iM]
   by_cases h:k=k'
   ·rw[E8 h,if_pos h];rfl
   ·rw[AB h,if_neg h,AB (fun q=>h (q.trans h1.symm))]
    rfl
  ·rw[AB h1]
   simp only[cond_false,iM,ih]
   by_cases h:k=e.1
   ·have hne:¬ k=k':=fun q=>h1 (q.symm.trans h)
    rw[E8 h,if_neg hne,if_neg hne]
   ·rw[AB h];rfl
theorem Vk (x:Int×Int×(List DS1)×(List DS3)×Int×(List DS3)×Unit):Mo fun s=>BP s x.1 x.2.1 x.2.2.1 x.2.2.2.1 x.2.2.2.2.1 x.2.2.2.2.2.1:=by
 unfold BP;(repeat' (first|exact Mo.const _|exact Mo.self _|apply Mo.bind|apply Mo.cond|apply Mo.map|apply Mo.join|apply Mo.loop|(intro _)))
end Abs
end Go.Proofs.YtgfnhpadmifiiaaDoor
end
section
namespace Go.Proofs.YtgfnhpadmifiiaaDoor
namespace Abs
section
variable {dm:List DS3} {ns:List DS1} {leaf:Int}
def lvl (dm:List DS3) (ns:List DS1) (r:Int):Nat:=if r<0 then dm.length else (ns.getD r.toNat zN).1.toNat
theorem FL (hd:dI dm) (hs:dY dm ns) {r:Int} (hr:r<(ns.length:Int)):lvl dm ns r<=dm.length:=by
 unfold lvl
 split
 ·omega
 ·have:=(hs r.toNat (by omega)).2.1;omega
theorem jQ (hd:dI dm) (hs:dY dm ns) {r:Nat} (hr:r<ns.length) {k:Nat} (hk:k<(kids ns r).length):(ns.getD r zN).1.toNat+1<=lvl dm ns ((kids ns r).getD k 0):=by
 obtain⟨h1,h2,_,_,_,h6⟩:=hs r hr
 have h7:=h6 k hk
 unfold lvl
 split
 ·omega
 ·rename_i q
  have:=h7.2.2 (by show 0<=(kids ns r).getD k 0;omega)
  have e:(ns.getD r zN).2.2.1.getD k 0=(kids ns r).getD k 0:=rfl
  rw[e]at this
  omega
theorem Cg (hd:dI dm) (hs:dY dm ns) (hn:ns.length<=1000) (r:Int) (a:Nat) (me:List DS3) (hr:fJ ns.length r) (ha:a<=lvl dm ns r) (hm:mU dm ns leaf me) :
  T (m51 r (a:Int) ns dm leaf me) (fun y=>∃ me',y=(sat (fT dm ns leaf 9 r a),ns,dm,leaf,me',())/\mU dm ns leaf me'):=by
 unfold m51
 refine AP (ι:=Int×Nat×List DS3) Vk (fun g=>(g.1,(g.2.1:Int),ns,dm,leaf,g.2.2,())) (fun g=>fJ ns.length g.1/\g.2.1<=lvl dm ns g.1/\mU dm ns leaf g.2.2)
  (fun g y=>∃ me',y=(sat (fT dm ns leaf 9 g.1 g.2.1),ns,dm,leaf,me',())/\mU dm ns leaf me') (fun g=>rkI (rkA ns) g.1) ?_ (r,a,me) ⟨hr,ha,hm⟩
 rintro⟨r,a,me⟩ ⟨hr,ha,hm⟩ s ih
 dsimp only at hr ha hm ih ⊢
 unfold BP
 have hD:=aB dm
 have hN:=aB ns
 have hd2:=hd.2.1
 have hll:=FL hd hs hr.2
 refine T.cnd (fun hc=>?_) (fun hc=>?_)<;>simp only[aG,aD]at hc
 ·have hr1:=hr.1
  refine T.aX (v:=(-1-r,())) (by show some (dS .i64 (-1) r,())=_;rw[bS (by omega) (by omega)]) ?_
  dsimp only
  rw[nN _ _ _ _ hc]
  refine T.cnd (fun hc2=>?_) (fun hc2=>?_)<;>simp only[dx,dK]at hc2
  ·rw[if_neg hc2]
   exact T.ret ⟨me,rfl,hm⟩
  ·rw[if_pos hc2,hD]
   have h1:=Gd (n:=1) hd (by omega) a dm.length (by omega) (by omega) ns leaf me
   rw[show sat 1=1 by decide,Int.one_mul]at h1
   refine T.aX h1 (T.ret ⟨me,rfl,hm⟩)
 have hrt:r.toNat<ns.length:=by have:=hr.2;omega
 have hsr:=hs r.toNat hrt
 have eN:atI ns r (0,[],[],())=ns.getD r.toNat zN:=rfl
 have hlv:lvl dm ns r=(ns.getD r.toNat zN).1.toNat:=by unfold lvl;rw[if_neg (by omega)]
 rw[hlv]at ha
 have h1:=hsr.1
 have h2:=hsr.2.1
 have h3:=hsr.2.2.1
 have h4:=hsr.2.2.2.1
 have h5:=hsr.2.2.2.2.1
 have eA:(ns.getD r.toNat zN).1=(((ns.getD r.toNat zN).1.toNat:Nat):Int):=by omega
 have hlen:=hsr.len hd
 have hkl:(kids ns r.toNat).length<=2000000001:=hlen.2
 have eK:(ns.getD r.toNat zN).2.2.1=kids ns r.toNat:=rfl
 have e48:rF dm ns leaf 8 r.toNat=kJ (fun k=>fT dm ns leaf 8 ((kids ns r.toNat).getD k 0) ((ns.getD r.toNat zN).1.toNat+1)*(hiK dm (ns.getD r.toNat zN) k-loK dm (ns.getD r.toNat zN) k)) (kids ns r.toNat).length:=rfl
 have ht0:0<=rF dm ns leaf 8 r.toNat:=I8 hd hs 8 hrt _ (Nat.le_refl _)
 rw[eN,qd _ _ _ _ hc]
 refine T.grd (by rw[aH];have:=hr.2;omega) (T.cnd (fun hc2=>?_) (fun hc2=>?_))
 ·have hno:jw iEq r me 0=0:=by
   unfold qA at hc2
   unfold jw
   cases q:iM iEq r me with
   |none=>rfl
   |some t=>rw[q]at hc2;cases hc2
  rw[hno]
  refine T.grd (by rw[aH,hD];omega) ?_
  rw[eK]
  have hK:=aB (kids ns r.toNat)
  have hC:=aB (ns.getD r.toNat zN).2.1
  rw[hK]
  have eD:atI dm (ns.getD r.toNat zN).1 (0,0,())=dm.getD (ns.getD r.toNat zN).1.toNat zS:=rfl
  refine T.loop (fun q=>∃ (k:Nat) (me':List DS3),k<=(kids ns r.toNat).length/\mU dm ns leaf me'/\q=(r,(a:Int),sat (kJ (fun k=>fT dm ns leaf 8 ((kids ns r.toNat).getD k 0) ((ns.getD r.toNat zN).1.toNat+1)*(hiK dm (ns.getD r.toNat zN) k-loK dm (ns.getD r.toNat zN) k)) k),loK dm (ns.getD r.toNat zN) k,kids ns r.toNat,((kids ns r.toNat).length:Int),(k:Int),ns,dm,leaf,me',(ns.getD r.toNat zN).1,(ns.getD r.toNat zN).2.1,kids ns r.toNat,())) (fun q=>(kids ns r.toNat).length-q.2.2.2.2.2.2.1.toNat) ⟨0,me,by omega,hm,?_⟩ ?_
  ·rw[eD];unfold loK;rw[if_pos rfl];rfl
  rintro _ ⟨k,me',hk,hm',rfl⟩
  dsimp only
  rw[hC,hD,eD,bT,bT]
  refine T.cnd (fun hc3=>?_) (fun hc3=>?_)<;>simp only[aG,aD]at hc3
  ·have hkk:k<(kids ns r.toNat).length:=by omega
   have hw:=hs.wid hrt hkk hd
   have hb:=hd.at (i:=(ns.getD r.toNat zN).1.toNat) (by omega)
   have Qg:=hsr.2.2.2.2.2 k hkk
   have vJ:fJ ns.length ((kids ns r.toNat).getD k 0):=Qg.1
   have YH:=jQ hd hs hrt hkk
   have hrk:rkI (rkA ns) ((kids ns r.toNat).getD k 0)<rkI (rkA ns) r:=by
    have hk2:=((iR hd hs).1 r.toNat hrt).2 _ (List.getElem_mem hkk)
    rw[getD_eq _ _ _ hkk]
    unfold rkI
    rw[if_neg (show ¬ r<0 by omega)]
    split
    ·omega
    ·have:=hk2.2 (by omega);omega
   have hcn:0<=fT dm ns leaf 8 ((kids ns r.toNat).getD k 0) ((ns.getD r.toNat zN).1.toNat+1):=Ja hd hs _ _ _ vJ.2
   have eqc:=GA (leaf:=leaf) hd hs hrt hkk ((ns.getD r.toNat zN).1.toNat+1)
   have hps:0<=kJ (fun k=>fT dm ns leaf 8 ((kids ns r.toNat).getD k 0) ((ns.getD r.toNat zN).1.toNat+1)*(hiK dm (ns.getD r.toNat zN) k-loK dm (ns.getD r.toNat zN) k)) k:=I8 hd hs 8 hrt k (by omega)
   have ei:aM .i64 (ns.getD r.toNat zN).1 1=(((ns.getD r.toNat zN).1.toNat+1:Nat):Int):=by rw[aF (by omega) (by omega)];omega
   have nxt:∀ me2,mU dm ns leaf me2->∀ hi:Int,hi=hiK dm (ns.getD r.toNat zN) k->T ((m82 (sat (fT dm ns leaf 9 ((kids ns r.toNat).getD k 0) ((ns.getD r.toNat zN).1.toNat + 1))) (dS .i64 hi (loK dm (ns.getD r.toNat zN) k))).bind fun yR =>
     some (Sum.inl (β:=Int×(List DS1)×(List DS3)×Int×(List DS3)×Unit) (r,(a:Int),kP (aM .i64 (sat (kJ (fun k=>fT dm ns leaf 8 ((kids ns r.toNat).getD k 0) ((ns.getD r.toNat zN).1.toNat+1)*(hiK dm (ns.getD r.toNat zN) k-loK dm (ns.getD r.toNat zN) k)) k)) yR.1) 17592186044416,hi,kids ns r.toNat,((kids ns r.toNat).length:Int),aM .i64 (k:Int) 1,ns,dm,leaf,me2,(ns.getD r.toNat zN).1,(ns.getD r.toNat zN).2.1,kids ns r.toNat,())))
     (LQ (fun q=>∃ (k:Nat) (me':List DS3),k<=(kids ns r.toNat).length/\mU dm ns leaf me'/\q=(r,(a:Int),sat (kJ (fun k=>fT dm ns leaf 8 ((kids ns r.toNat).getD k 0) ((ns.getD r.toNat zN).1.toNat+1)*(hiK dm (ns.getD r.toNat zN) k-loK dm (ns.getD r.toNat zN) k)) k),loK dm (ns.getD r.toNat zN) k,kids ns r.toNat,((kids ns r.toNat).length:Int),(k:Int),ns,dm,leaf,me',(ns.getD r.toNat zN).1,(ns.getD r.toNat zN).2.1,kids ns r.toNat,())) (fun q=>(kids ns r.toNat).length-q.2.2.2.2.2.2.1.toNat) ((kids ns r.toNat).length-(k:Int).toNat) (fun y=>∃ me',y=(sat (rF dm ns leaf 8 r.toNat*qL dm a (ns.getD r.toNat zN).1.toNat),ns,dm,leaf,me',())/\mU dm ns leaf me')):=by
    rintro me2 hm2 _ rfl
    rw[bS (by omega) (by omega),<- eqc]
    refine T.aX (I9 (Ad hcn) ⟨by omega,by omega⟩) ?_
    dsimp only
    have hpr:=Int.mul_nonneg hcn (show 0<=hiK dm (ns.getD r.toNat zN) k-loK dm (ns.getD r.toNat zN) k by omega)
    refine T.go ⟨k+1,me2,by omega,hm2,?_⟩ (by dsimp only;rw[aF (by omega) (by omega)];omega)
    have b1:=Ad hps
    have b2:=Ad hpr
    rw[Ic hcn (by omega),aF (by omega) (by omega),aF (by omega) (by omega)]
    have:kP (sat (kJ (fun k=>fT dm ns leaf 8 ((kids ns r.toNat).getD k 0) ((ns.getD r.toNat zN).1.toNat+1)*(hiK dm (ns.getD r.toNat zN) k-loK dm (ns.getD r.toNat zN) k)) k)+sat (fT dm ns leaf 8 ((kids ns r.toNat).getD k 0) ((ns.getD r.toNat zN).1.toNat+1)*(hiK dm (ns.getD r.toNat zN) k-loK dm (ns.getD r.toNat zN) k))) 17592186044416=sat (kJ (fun k=>fT dm ns leaf 8 ((kids ns r.toNat).getD k 0) ((ns.getD r.toNat zN).1.toNat+1)*(hiK dm (ns.getD r.toNat zN) k-loK dm (ns.getD r.toNat zN) k)) (k+1)):=by
     simp only[kJ]
     rw[<- Ur hps hpr]
     unfold kP sat;omega
    rw[this]
    have el:loK dm (ns.getD r.toNat zN) (k+1)=hiK dm (ns.getD r.toNat zN) k:=by
     unfold loK
     rw[if_neg (by omega),Nat.add_sub_cancel]
    rw[el]
    rfl
   refine T.grd (by rw[aH];omega) (T.grd (by rw[aH];omega) (T.cnd (fun hc4=>?_) (fun hc4=>?_)))<;>simp only[aG,aD]at hc4
   ·refine T.grd (by rw[aH];omega) ?_
    rw[ei]
    refine T.call (ih ((kids ns r.toNat).getD k 0,(ns.getD r.toNat zN).1.toNat+1,me') ⟨vJ,YH,hm'⟩ hrk) ?_
    rintro _ ⟨me2,rfl,hm2⟩
    exact nxt me2 hm2 _ (by unfold hiK;rw[if_pos (by omega)])
   ·rw[ei,aF (by omega) (by omega)]
    refine T.call (ih ((kids ns r.toNat).getD k 0,(ns.getD r.toNat zN).1.toNat+1,me') ⟨vJ,YH,hm'⟩ hrk) ?_
    rintro _ ⟨me2,rfl,hm2⟩
    exact nxt me2 hm2 _ (by unfold hiK;rw[if_neg (by omega)])
  ·obtain rfl:k=(kids ns r.toNat).length:=by omega
   rw[<- e48]
   refine T.kX ?_
   have hf:=Gd (n:=rF dm ns leaf 8 r.toNat) hd ht0 a (ns.getD r.toNat zN).1.toNat (by omega) (by omega) ns leaf (jJ iEq r (sat (rF dm ns leaf 8 r.toNat)) me')
   rw[<- eA]at hf
   refine T.aX hf (T.ret ⟨_,rfl,fun r' t h=>?_⟩)
   rw[PX]at h
   split at h
   ·rename_i q;subst q;cases h;rfl
   ·exact hm' r' t h
 ·obtain ⟨t,ht⟩:∃ t,iM iEq r me=some t:=by
   unfold qA at hc2
   cases q:iM iEq r me with
   |none=>rw[q]at hc2;cases hc2
   |some t=>exact⟨t,rfl⟩
  have hg:jw iEq r me 0=sat (rF dm ns leaf 8 r.toNat):=by unfold jw;rw[ht];exact hm r t ht
  rw[hg]
  have hf:=Gd (n:=rF dm ns leaf 8 r.toNat) hd ht0 a (ns.getD r.toNat zN).1.toNat (by omega) (by omega) ns leaf me
  rw[<- eA]at hf
  exact T.aX hf (T.ret ⟨me,rfl,hm⟩)
end
end Abs
end Go.Proofs.YtgfnhpadmifiiaaDoor
end
section
namespace Go.Proofs.YtgfnhpadmifiiaaDoor
namespace Abs
theorem CX (r:Int):iM iEq r ([]:List DS3)=none:=rfl
theorem VD.ug {dm:List DS3} {ns:List DS1} {root:Int} (h:VD dm ns root):dY dm ns:=h.2.2.1
theorem VW (l:List DS0) (ns:List DS1) (root:Int) (leaf:Int) (hz:SzN ns):T (m26 (l,()) (ns,root,()) leaf) (fun y=>(0<=leaf/\leaf<=255/\gy l=0/\VD (doms l) ns root->y.1=sat (fT (doms l) ns leaf 9 root 0))/\(¬ (0<=leaf/\leaf<=255/\gy l=0/\VD (doms l) ns root)->y.1=0)):=by
 unfold m26
 refine T.cnd (fun hc=>?_) (fun hc=>?_)<;>simp only[bV,bW,aG,aD]at hc
 ·exact T.ret ⟨fun h=>by omega,fun _=>rfl⟩
 refine T.call (xg l ns root hz) ?_
 rintro⟨y,⟨⟩⟩ hy
 dsimp only at hy ⊢
 refine T.cnd (fun hc2=>?_) (fun hc2=>?_)<;>simp only[bF,dJ]at hc2
 ·refine T.ret ⟨fun h=>?_,fun _=>rfl⟩
  rw[hy.2 ⟨h.2.2.1,h.2.2.2⟩]at hc2
  cases hc2
 obtain⟨hv,hV⟩:=hy.1 hc2
 have hd:=nM hv
 refine T.aX (Gx l hv) ?_
 dsimp only
 refine T.call (Cg hd hV.ug hV.1 root 0 [] hV.2.1 (by omega) (fun r t h=>by rw[CX]at h;cases h)) ?_
 rintro _ ⟨me',rfl,_⟩
 exact T.ret ⟨fun _=>rfl,fun h=>absurd ⟨by omega,by omega,hv,hV⟩ h⟩
def AQ (p:Nat->Bool):Nat->Nat->Nat
 |0,i=>i
 |n+1,i=>if p i=true then i else AQ p n (i+1)
theorem Nl {p:Nat->Bool}:∀ (n i k:Nat),i<=k->k<i+n->(∀ j,i<=j->j<k->p j=false)->p k=true->AQ p n i=k:=by
 intro n
 induction n with
 |zero=>intro i k h1 h2 _ _;omega
 |succ n ih =>
  intro i k h1 h2 h3 h4
  simp only[AQ]
  by_cases e:i=k
  ·subst e;rw[if_pos h4]
  ·rw[if_neg (by rw[h3 i (by omega) (by omega)];decide)]
   exact ih (i+1) k (by omega) (by omega) (fun j a b=>h3 j (by omega) b) h4
section
variable {dm:List DS3} {ns:List DS1} {leaf:Int}
def uG (dm:List DS3) (ns:List DS1) (leaf:Int) (r:Nat):Nat:=AQ (fun k=>decide (fT dm ns leaf 9 ((kids ns r).getD k 0) ((ns.getD r zN).1.toNat+1)≠0)) (kids ns r).length 0
def kN (dm:List DS3) (ns:List DS1) (leaf:Int):Nat->Int->List Int->List Int
 |0,_,fs=>fs
 | f + 1,r,fs=>if r < 0 then fs else
   kN dm ns leaf f ((kids ns r.toNat).getD (uG dm ns leaf r.toNat) 0) (if 0<uG dm ns leaf r.toNat then fs.set (ns.getD r.toNat zN).1.toNat ((ns.getD r.toNat zN).2.1.getD (uG dm ns leaf r.toNat-1) 0) else fs)
theorem Hl (f:Nat) {r:Int} (h:r<0) (fs:List Int):kN dm ns leaf f r fs=fs:=by
 cases f with
 |zero=>rfl
 |succ f=>simp only[kN];rw[if_pos h]
theorem U7 {g:Nat->Int}:∀ n,kJ g n≠0->∃ k,k<n/\g k≠0:=by
 intro n
 induction n with
 |zero=>intro h;exact absurd rfl h
 |succ n ih =>
  intro h
  simp only[kJ]at h
  by_cases q:g n=0
  ·obtain⟨k,h1,h2⟩:=ih (by omega);exact⟨k,by omega,h2⟩
  ·exact⟨n,by omega,q⟩
theorem Yl (hd:dI dm) (hs:dY dm ns) {r:Int} {a:Nat} (h0:0<=r) (hr:r<(ns.length:Int)) (h:fT dm ns leaf 9 r a≠0):∃ k,k<(kids ns r.toNat).length/\fT dm ns leaf 9 ((kids ns r.toNat).getD k 0) ((ns.getD r.toNat zN).1.toNat+1)≠0:=by
 rw[qd _ _ _ _ h0]at h
 have h1:rF dm ns leaf 8 r.toNat≠0:=fun e=>h (by rw[e,Int.zero_mul])
 obtain⟨k,k1,k2⟩:=U7 _ h1
 refine⟨k,k1,fun e=>k2 ?_⟩
 rw[GA hd hs (by omega) k1,e,Int.zero_mul]
theorem Na {r:Nat} {k:Nat} (hk:k<(kids ns r).length) (h1:∀ j,j<k->fT dm ns leaf 9 ((kids ns r).getD j 0) ((ns.getD r zN).1.toNat+1)=0) (h2:fT dm ns leaf 9 ((kids ns r).getD k 0) ((ns.getD r zN).1.toNat+1)≠0):uG dm ns leaf r=k:=by
 unfold uG
 exact Nl _ 0 k (by omega) (by omega) (fun j _ hj=>by simpa using h1 j hj) (by simpa using h2)
end
theorem Vq (l:List DS0) (ns:List DS1) (root:Int) (leaf:Int) (hz:SzN ns):T (m21 (l,()) (ns,root,()) leaf) (fun y=>(0<=leaf/\leaf<=255/\gy l=0/\VD (doms l) ns root/\fT (doms l) ns leaf 9 root 0≠0->y=(kN (doms l) ns leaf 9 root ((doms l).map fun d=>d.1),true,()))/\(¬ (0<=leaf/\leaf<=255/\gy l=0/\VD (doms l) ns root/\fT (doms l) ns leaf 9 root 0≠0)->y=([],false,()))):=by
 unfold m21
 refine T.cnd (fun hc=>?_) (fun hc=>?_)<;>simp only[bV,bW,aG,aD]at hc
 ·exact T.ret ⟨fun h=>by omega,fun _=>rfl⟩
 refine T.call (xg l ns root hz) ?_
 rintro⟨y,⟨⟩⟩ hy
 dsimp only at hy ⊢
 refine T.cnd (fun hc2=>?_) (fun hc2=>?_)<;>simp only[bF,dJ]at hc2
 ·refine T.ret ⟨fun h=>?_,fun _=>rfl⟩
  rw[hy.2 ⟨h.2.2.1,h.2.2.2.1⟩]at hc2
  cases hc2
 obtain⟨hv,hV⟩:=hy.1 hc2
 have hd:=nM hv
 refine T.aX (Gx l hv) ?_
 dsimp only
 generalize hdm:doms l=dm at hd hV
 have hs:=hV.ug
 have hn:=hV.1
 refine T.call (Cg hd hs hn root 0 [] hV.2.1 (by omega) (fun r t h=>by rw[CX]at h;cases h)) ?_
 rintro _ ⟨me',rfl,hme⟩
 dsimp only
 refine T.cnd (fun hc3=>?_) (fun hc3=>?_)<;>simp only[bf,bn,EM]at hc3
 ·exact T.ret ⟨fun h=>absurd hc3 h.2.2.2.2,fun _=>rfl⟩
 have hD:=aB dm
 have hd2:=hd.2.1
 rw[hD]
 refine T.grd (by rw[dM];omega) ?_
 rw[Int.toNat_natCast]
 have good:∀ y:List Int×Bool×Unit,y=(kN dm ns leaf 9 root (dm.map fun d=>d.1),true,())->((0<=leaf/\leaf<=255/\gy l=0/\VD dm ns root/\fT dm ns leaf 9 root 0≠0->y=(kN dm ns leaf 9 root (dm.map fun d=>d.1),true,()))/\(¬ (0<=leaf/\leaf<=255/\gy l=0/\VD dm ns root/\fT dm ns leaf 9 root 0≠0)->y=([],false,()))):=fun y e=>⟨fun _=>e,fun h=>absurd ⟨by omega,by omega,hv,hV,hc3⟩ h⟩
 refine T.mono (Q:=fun y=>y=(kN dm ns leaf 9 root (dm.map fun d=>d.1),true,())) ?_ good
 refine T.loop (fun q=>∃ (i:Nat) (fs:List Int),i<=dm.length/\fs.length=dm.length/\(∀ j,j<i->fs.getD j 0=(dm.getD j zS).1)/\q=(dm,(dm.length:Int),(i:Int),ns,root,ns,dm,leaf,fs,me',())) (fun q=>dm.length-q.2.2.1.toNat) ⟨0,_,by omega,by simp,fun j hj=>by omega,rfl⟩ ?_
 rintro _ ⟨i,fs,hi,hfs,hg,rfl⟩
 dsimp only
 have hF:=aB fs
 have eD:atI dm (i:Int) (0,0,())=dm.getD i zS:=by rw[bT];rfl
 rw[hD,eD]
 refine T.cnd (fun hc4=>?_) (fun hc4=>?_)<;>simp only[aG,aD]at hc4
 ·refine T.grd (by rw[aH];omega) (T.grd (by rw[aH];omega) (T.grd (by rw[cu];omega) (T.go ⟨i+1,fs.set i (dm.getD i zS).1,by omega,by rw[List.length_set];exact hfs,fun j hj=>?_,by rw[aF (by omega) (by omega)];rfl⟩ (by dsimp only;rw[aF (by omega) (by omega)];omega))))
  rw[List.getD_eq_getElem?_getD]
  by_cases e:i=j
  ·subst e
   rw[List.getElem?_set_self (by omega)];rfl
  ·rw[List.getElem?_set_ne e,<- List.getD_eq_getElem?_getD]
   exact hg j (by omega)
 obtain rfl:i=dm.length:=by omega
 obtain rfl:fs=dm.map fun d=>d.1:=by
  apply List.ext_getElem (by rw[hfs,List.length_map])
  intro j h1 h2
  have:=hg j (by omega)
  rw[getD_eq _ _ _ h1,getD_eq _ _ _ (by omega)]at this
  rw[this,List.getElem_map]
 refine T.kX ?_
 have hN:=aB ns
 refine T.loop (fun q=>∃ (f:Nat) (r:Int) (a:Nat) (fs:List Int) (me:List DS3),fJ ns.length r/\rkI (rkA ns) r<=f/\fT dm ns leaf 9 r a≠0/\fs.length=dm.length/\mU dm ns leaf me/\kN dm ns leaf 9 root (dm.map fun d=>d.1)=kN dm ns leaf f r fs/\q=(r,ns,root,ns,dm,leaf,fs,me,())) (fun q=>rkI (rkA ns) q.1) ⟨9,root,0,_,me',hV.2.1,?_,hc3,by simp,hme,rfl,rfl⟩ ?_
 ·unfold rkI
  split
  ·omega
  ·have:=(iR hd hs).2 root.toNat (by have:=hV.2.1.2;omega);omega
 rintro _ ⟨f,r,a,fs,me,hr,hf,hcn,hfs,hm,hfin,rfl⟩
 dsimp only
 refine T.cnd (fun hc5=>?_) (fun hc5=>?_)<;>simp only[dL,dN]at hc5
 ·have hrt:r.toNat<ns.length:=by have:=hr.2;omega
  have hsr:=hs r.toNat hrt
  have h1:=hsr.1
  have h2:=hsr.2.1
  have h4:=hsr.2.2.2.1
  have eN:atI ns r (0,[],[],())=ns.getD r.toNat zN:=rfl
  have eK:(ns.getD r.toNat zN).2.2.1=kids ns r.toNat:=rfl
  have hK:=aB (kids ns r.toNat)
  have hC:=aB (ns.getD r.toNat zN).2.1
  have hlen:=hsr.len hd
  have hkl:(kids ns r.toNat).length<=2000000001:=hlen.2
  rw[eN,eK,hK]
  refine T.grd (by rw[aH];have:=hr.2;omega) ?_
  obtain⟨k0,k01,k02⟩:=Yl hd hs hc5 hr.2 hcn
  obtain⟨f',rfl⟩:∃ f',f=f'+1:=⟨f-1,by unfold rkI at hf;rw[if_neg (by omega)]at hf;omega⟩
  refine T.loop (fun q=>∃ (i:Nat) (me:List DS3),i<=k0/\mU dm ns leaf me/\(∀ j,j<i->fT dm ns leaf 9 ((kids ns r.toNat).getD j 0) ((ns.getD r.toNat zN).1.toNat+1)=0)/\q=(r,kids ns r.toNat,((kids ns r.toNat).length:Int),(i:Int),ns,root,ns,dm,leaf,fs,(ns.getD r.toNat zN).1,(ns.getD r.toNat zN).2.1,kids ns r.toNat,me,())) (fun q=>(kids ns r.toNat).length-q.2.2.2.1.toNat) ⟨0,me,by omega,hm,fun j hj=>by omega,rfl⟩ ?_
  rintro _ ⟨i,me1,hi,hm1,hz0,rfl⟩
  dsimp only
  have hil:i<(kids ns r.toNat).length:=by omega
  have hFs:=aB fs
  have ei:aM .i64 (ns.getD r.toNat zN).1 1=(((ns.getD r.toNat zN).1.toNat+1:Nat):Int):=by rw[aF (by omega) (by omega)];omega
  have Qg:=hsr.2.2.2.2.2 i hil
  have vJ:fJ ns.length ((kids ns r.toNat).getD i 0):=Qg.1
  have hrk:rkI (rkA ns) ((kids ns r.toNat).getD i 0)<rkI (rkA ns) r:=by
   have hk2:=((iR hd hs).1 r.toNat hrt).2 _ (List.getElem_mem hil)
   rw[getD_eq _ _ _ hil]
   unfold rkI
   rw[if_neg (show ¬ r<0 by omega)]
   split
   ·omega
   ·have:=hk2.2 (by omega);omega
  rw[hK,hC,hFs,ei,bT]
  refine T.ct (by rw[aG];omega) (T.grd (by rw[aH];omega) (T.call (Cg hd hs hn _ _ me1 vJ (jQ hd hs hrt hil) hm1) ?_))
  rintro _ ⟨me2,rfl,hm2⟩
  dsimp only
  refine T.cnd (fun hc6=>?_) (fun hc6=>?_)<;>simp only[bf,bn,EM]at hc6
  ·refine T.go ⟨i+1,me2,?_,hm2,fun j hj=>?_,by rw[aF (by omega) (by omega)];rfl⟩ (by dsimp only;rw[aF (by omega) (by omega)];omega)
   ·rcases Nat.lt_or_ge i k0 with q|q
    ·omega
    ·obtain rfl:i=k0:=by omega
     exact absurd hc6 k02
   ·rcases Nat.lt_or_ge j i with q|q
    ·exact hz0 j q
    ·obtain rfl:j=i:=by omega
     exact hc6
  have hkL:uG dm ns leaf r.toNat=i:=Na hil hz0 hc6
  have E9:kN dm ns leaf 9 root (dm.map fun d=>d.1)=kN dm ns leaf f' ((kids ns r.toNat).getD i 0) (if 0<i then fs.set (ns.getD r.toNat zN).1.toNat ((ns.getD r.toNat zN).2.1.getD (i-1) 0) else fs):=by
   rw[hfin]
   simp only[kN]
   rw[if_neg (by omega),hkL]
  refine T.cnd (fun hc7=>?_) (fun hc7=>?_)<;>simp only[aG,aD]at hc7
  ·have ej:dS .i64 (i:Int) 1=((i-1:Nat):Int):=by rw[bS (by omega) (by omega)];omega
   rw[ej,bT]
   have hik:i<(ns.getD r.toNat zN).2.1.length+1:=by rw[<- h4];exact hil
   refine T.grd (by rw[aH];omega) (T.grd (by rw[aH];omega) (T.grd (by rw[cu];omega) ?_))
   refine T.out (show LQ _ _ _ _ (Sum.inl _) from ⟨⟨f',_,_,_,me2,vJ,by omega,hc6,by rw[List.length_set];exact hfs,hm2,?_,rfl⟩,by exact hrk⟩)
   rw[E9,if_pos (by omega)]
  ·refine T.out (show LQ _ _ _ _ (Sum.inl _) from ⟨⟨f',_,_,_,me2,vJ,by omega,hc6,hfs,hm2,?_,rfl⟩,by exact hrk⟩)
   rw[E9,if_neg (by omega)]
 ·refine T.out ?_
  rw[hfin,Hl f hc5]
end Abs
end Go.Proofs.YtgfnhpadmifiiaaDoor
end
namespace Go.Proofs.YtgfnhpadmifiiaaDoor
namespace Abs
def I64 (n:Int):Prop:=-9223372036854775808<=n/\n<=9223372036854775807
def DC (l:List DS0) (i lo hi:Int):DS2×Int×Unit :=
 if gy l≠0 then (([],0,()),gy l,()) else if i<0\/(l.length:Int)<=i then (([],0,()),7,()) else
 if hi<lo\/(gQ (l.getD i.toNat zA)).2<lo\/hi<(gQ (l.getD i.toNat zA)).1 then (([],-1,()),0,())
 else if lo<=(gQ (l.getD i.toNat zA)).1/\(gQ (l.getD i.toNat zA)).2<=hi then (([],-2,()),0,())
 else if lo<=(gQ (l.getD i.toNat zA)).1 then (([(i,[hi+1],[-2,-1],())],0,()),0,())
 else if (gQ (l.getD i.toNat zA)).2<=hi then (([(i,[lo],[-1,-2],())],0,()),0,())
 else (([(i,[lo,hi+1],[-1,-2,-1],())],0,()),0,())
theorem FR (v:Int):m17 v=some (([],-1-max 0 (min v 255),()),()):=by
 show some ((([]:List DS1),dS .i64 (-1) (o7 0 (kP v 255)),()),())=_
 unfold o7 kP
 rw[bS (by omega) (by omega)]
theorem Ki (v:Int) (h:0<=v/\v<=255):m40 v=some (-1-v,()):=by
 show some (dS .i64 (-1) v,())=_
 rw[bS (by omega) (by omega)]
theorem Xg (l:List DS0) (i lo hi:Int):m12 (l,()) i lo hi=some (DC l i lo hi):=by
 refine T.eq ?_
 unfold m12 DC
 refine T.aX (Dz _) ?_
 dsimp only
 have hL:=aB l
 refine T.cnd (fun hc=>?_) (fun hc=>?_)<;>simp only[dx,dK]at hc
 ·rw[if_pos hc];exact T.ret rfl
 rw[if_neg (by omega)]
 have v:=val_ok hc
 refine T.cnd (fun hc2=>?_) (fun hc2=>?_)<;>simp only[bV,bW,aG,aD,dL,dN,hL]at hc2
 ·rw[if_pos hc2];exact T.ret rfl
 rw[if_neg (by omega)]
 have hil:i.toNat<l.length:=by omega
 have ei:i=(i.toNat:Int):=by omega
 have hb:=Gy (v.2.2 _ (List.getElem_mem hil)).2
 refine T.aX (v:=((gQ l[i.toNat]).1,(gQ l[i.toNat]).2,())) (by have q:=Nw l i.toNat hil hc;rwa [<- ei]at q) ?_
 dsimp only
 rw[getD_eq l i.toNat zA hil]
 generalize gQ l[i.toNat]=d at hb ⊢
 obtain⟨d1,d2⟩:=d
 dsimp only at hb ⊢
 unfold kP o7
 refine T.cnd (fun hc3=>?_) (fun hc3=>?_)<;>simp only[aG,aD]at hc3
 ·rw[if_pos (by omega)]
  refine T.aX (FR 0) (T.ret rfl)
 rw[if_neg (by omega)]
 refine T.aX (Ki 1 (by omega)) ?_
 dsimp only
 refine T.join (fun j=>j=(i,min hi d2,d2,0,(if d1<lo then [lo] else []),(if d1<lo then [-1,-2] else [-2]),())) ?_ ?_
 ·refine T.cnd (fun hc4=>?_) (fun hc4=>?_)<;>simp only[aG,aD]at hc4
  ·refine T.grd (by rw[bG];exact⟨by simp,by simp⟩) (T.aX (Ki 0 (by omega)) (T.aX (Ki 1 (by omega)) (T.jgo ?_)))
   rw[if_pos (by omega),if_pos (by omega),show max lo d1=lo by omega]
   rfl
  ·refine T.jgo ?_
   rw[if_neg (by omega),if_neg (by omega)]
   rfl
 rintro _ rfl
 dsimp only
 refine T.cnd (fun hc5=>?_) (fun hc5=>?_)<;>simp only[aG,aD]at hc5
 ·rw[aF (by omega) (by omega),show min hi d2=hi by omega,if_neg (show ¬ (lo<=d1/\d2<=hi) by omega)]
  refine T.grd (by rw[bG];split<;>exact⟨by simp,by simp⟩) (T.aX (Ki 0 (by omega)) (T.grd (by rw[bG];split<;>exact⟨by simp,by simp⟩) (T.cf ?_ ?_)))
  ·rw[bn,aB];split<;>simp
  ·refine T.ret ?_
   by_cases q:d1<lo
   ·rw[if_pos q,if_pos q,if_neg (show ¬ lo<=d1 by omega),if_neg (show ¬ d2<=hi by omega)];rfl
   ·rw[if_neg q,if_neg q,if_pos (show lo<=d1 by omega)];rfl
 ·refine T.cnd (fun hc6=>?_) (fun hc6=>?_)<;>simp only[bf,bn,aB]at hc6
  ·have q:¬ d1<lo:=fun q=>by rw[if_pos q]at hc6;simp at hc6
   refine T.aX (FR 1) (T.ret ?_)
   rw[if_pos (show lo<=d1/\d2<=hi by omega)];rfl
  ·have q:d1 < lo:=by
    rcases Int.lt_or_le d1 lo with q|q
    ·exact q
    ·rw[if_neg (by omega)]at hc6;simp at hc6
   refine T.ret ?_
   rw[if_neg (show ¬ (lo<=d1/\d2<=hi) by omega),if_neg (show ¬ lo<=d1 by omega),if_pos (show d2<=hi by omega),if_pos q,if_pos q]
def l0:List DS0:=[((bs [120]),2,[],1,9,())]
def n0:List DS1:=[(0,[3],[-1,-2],())]
theorem OB:gy l0=0:=by kernel_rfl
theorem QF:doms l0=[(1,9,())]:=rfl
theorem ZV:DC l0 0 3 20=((n0,0,()),0,()):=by
 unfold DC
 rw[if_neg (by rw[OB];omega)]
 rfl
theorem Xl:jo [(1,9,())] n0 (0,[3],[-1,-2],()):=by
 refine⟨by decide,by decide,by decide,by decide,fun k hk=>?_,fun k hk=>?_⟩
 ·have:k=0:=by have:k<1:=hk;omega
  subst this
  exact⟨by decide,by decide,fun q=>by omega⟩
 ·have:k=0\/k=1:=by have:k<2:=hk;omega
  rcases this with rfl|rfl
  ·exact⟨⟨by decide,by decide⟩,fun q=>by omega,fun q=>by revert q;decide⟩
  ·exact⟨⟨by decide,by decide⟩,fun _=>by decide,fun q=>by revert q;decide⟩
theorem vd0:VD (doms l0) n0 0:=by
 rw[QF]
 refine⟨by decide,⟨by decide,by decide⟩,fun i hi=>?_,fun i hi k hk=>?_,by rfl⟩
 ·have:i=0:=by have:i<1:=hi;omega
  subst this
  exact Xl
 ·have:i<1:=hi
  omega
theorem Zj:fT (doms l0) n0 1 9 0 0=7:=by rw[QF];kernel_rfl
theorem Yk:kN (doms l0) n0 1 9 0 ((doms l0).map fun d=>d.1)=[3]:=by rw[QF];kernel_rfl
theorem sz0:SzN n0:=⟨by decide,fun x hx=>by obtain rfl:=List.mem_singleton.1 hx;exact⟨by simp,by simp⟩⟩
theorem WE:m11=some (true,()):=by
 refine T.eq ?_
 unfold m11
 refine T.aX (show m12 (l0,()) 0 3 20=some ((n0,0,()),0,()) by rw[Xg,ZV]) ?_
 dsimp only
 refine T.call (Vq l0 n0 0 1 sz0) ?_
 intro y hy
 obtain rfl:=hy.1 ⟨by omega,by omega,OB,vd0,by rw[Zj];omega⟩
 rw[Yk]
 refine T.grd (by rfl) (T.ct (by rfl) (T.call (VW l0 n0 0 1 sz0) ?_))
 rintro⟨y,⟨⟩⟩ hy
 have e:=hy.1 ⟨by omega,by omega,OB,vd0⟩
 rw[Zj]at e
 dsimp only at e
 subst e
 exact T.ret rfl
theorem uM {Q:Bool×Unit->Prop} (h:Q (true,())):T ((m11).bind fun y=>some (y.1,())) Q:=T.aX WE (T.ret h)
theorem EO {x y:DS2} (hx:SzN x.1) (h:x=y):m14 x y=some (true,()):=by
 subst h
 rw[Xr x x hx,decide_eq_true ⟨rfl,rfl⟩]
def oC (lo hi:Int) (r:List Int):Prop:=r.head?=some lo/\r.Pairwise (·<·)/\∀ x∈r,x<=hi
def GOk (dm:List DS3) (g:List (List Int)):Prop:=g.length=dm.length/\∀ i,i<dm.length->oC (dm.getD i zS).1 (dm.getD i zS).2.1 (g.getD i [])
def d9:List (List Int)->Nat
 |[]=>1
 |r::g=>r.length*d9 g
def excess:List (List Int)->Nat
 |[]=>0
 |r::g=>(r.length-1)+excess g
def je:List Int->Int->List Int
 |[],n=>[n]
 |x::xs,n=>if n<x then n::x::xs else if n=x then x::xs else x::je xs n
theorem QZ:∀ (l:List Int) (n:Int),l.length<=(je l n).length/\(je l n).length<=l.length+1:=by
 intro l
 induction l with
 |nil=>intro n;simp[je]
 |cons x xs ih =>
  intro n
  simp only[je]
  split
  ·simp
  ·split
   ·simp
   ·have:=ih n;simp;omega
theorem GR:∀ (l:List Int) (n:Int),∀ y∈je l n,y=n\/y∈l:=by
 intro l
 induction l with
 |nil=>intro n y hy;simp[je]at hy;exact .inl hy
 |cons x xs ih =>
  intro n y hy
  simp only[je]at hy
  split at hy
  ·rcases List.mem_cons.1 hy with q|q;exact .inl q;exact .inr q
  ·split at hy
   ·exact .inr hy
   ·rcases List.mem_cons.1 hy with q|q
    ·exact .inr (by simp[q])
    ·rcases ih n y q with r|r;exact .inl r;exact .inr (by simp[r])
theorem HY:∀ (l:List Int) (n:Int),l.Pairwise (·<·)->(je l n).Pairwise (·<·):=by
 intro l
 induction l with
 |nil=>intro n _;simp[je]
 |cons x xs ih =>
  intro n h
  obtain⟨h1,h2⟩:=List.pairwise_cons.1 h
  simp only[je]
  split
  ·rename_i q
   refine List.pairwise_cons.2 ⟨fun y hy=>?_,h⟩
   rcases List.mem_cons.1 hy with r|r
   ·omega
   ·have:=h1 y r;omega
  ·split
   ·exact h
   ·refine List.pairwise_cons.2 ⟨fun y hy=>?_,ih n h2⟩
    rcases GR xs n y hy with r|r
    ·omega
    ·exact h1 y r
theorem QY {lo hi n:Int} {r:List Int} (h:oC lo hi r) (h1:lo<n) (h2:n<=hi):oC lo hi (je r n):=by
 obtain⟨a,b,c⟩:=h
 refine⟨?_,HY _ _ b,fun x hx=>?_⟩
 ·cases r with
  |nil=>cases a
  |cons x xs =>
   obtain rfl:=Option.some.inj a
   simp only[je]
   rw[if_neg (by omega),if_neg (by omega)];rfl
 ·rcases GR _ _ _ hx with q|q
  ·omega
  ·exact c x q
theorem a2e (l:List Int) (n:Int) (hl:l.length<=3000000000):m79 l n=some (je l n,()):=by
 refine T.eq ?_
 unfold m79
 refine T.aX (v:=(je l n,())) ?_ (T.ret rfl)
 refine T.eq ?_
 unfold m96
 have hL:=aB l
 refine T.loop (fun q=>∃ (d:Bool) (i:Nat) (o:List Int),i<=l.length/\o.length<=i+d.toNat/\(if d=true then o++l.drop i else o++je (l.drop i) n)=je l n/\q=(l,n,d,(i:Int),o,())) (fun q=>l.length-q.2.2.2.1.toNat) ⟨false,0,[],by omega,by simp,by simp,rfl⟩ ?_
 rintro _ ⟨d,i,o,hi,ho,hg,rfl⟩
 dsimp only
 have hdt:d.toNat<=1:=by cases d<;>decide
 rw[hL,bT]
 refine T.cnd (fun hc=>?_) (fun hc=>?_)<;>simp only[aG,aD]at hc
 ·have hil:i<l.length:=by omega
  have b1:bnd (i:Int) (l.length:Int)=true:=by rw[aH];omega
  have hdr:l.drop i=l[i]::l.drop (i+1):=List.drop_eq_getElem_cons hil
  rw[getD_eq _ _ _ hil]
  have next:∀ (d':Bool) (o':List Int),o'.length<=i+1+d'.toNat->(if d'=true then o'++l.drop (i+1) else o'++je (l.drop (i+1)) n)=je l n->T (some (Sum.inl (β:=(List Int)×Unit) (l,n,d',aM .i64 (i:Int) 1,o',()))) (LQ (fun q=>∃ (d:Bool) (i:Nat) (o:List Int),i<=l.length/\o.length<=i+d.toNat/\(if d=true then o++l.drop i else o++je (l.drop i) n)=je l n/\q=(l,n,d,(i:Int),o,())) (fun q=>l.length-q.2.2.2.1.toNat) (l.length-(i:Int).toNat) (fun x=>x=(je l n,()))):=fun d' o' h1 h2 =>
   T.go ⟨d',i+1,o',by omega,by omega,h2,by rw[aF (by omega) (by omega)];rfl⟩ (by dsimp only;rw[aF (by omega) (by omega)];omega)
  refine T.grd (by rw[bY];exact .inl b1) (T.cnd (fun hc2=>?_) (fun hc2=>?_))
  ·rw[bg,bF,dL]at hc2
   obtain⟨rfl,hle⟩:=hc2
   rw[if_neg (by decide),hdr]at hg
   refine T.grd b1 (T.cnd (fun hc3=>?_) (fun hc3=>?_))<;>simp only[aG,aD]at hc3
   ·refine T.grd (by rw[bG,List.length_singleton];omega) (T.grd b1 (T.grd (by rw[bG,List.length_append,List.length_singleton,List.length_singleton];omega) (next true _ (by rw[List.length_append,List.length_append,List.length_singleton,List.length_singleton];simp only[Bool.toNat_false,Bool.toNat_true]at ho ⊢;omega) ?_)))
    rw[if_pos rfl,<- hg]
    simp only[je]
    rw[if_pos hc3]
    simp
   ·refine T.grd b1 (T.grd (by rw[bG,List.length_singleton];omega) (next true _ (by rw[List.length_append,List.length_singleton];simp only[Bool.toNat_false,Bool.toNat_true]at ho ⊢;omega) ?_))
    rw[if_pos rfl,<- hg]
    simp only[je]
    rw[if_neg (by omega),if_pos (by omega)]
    simp
  ·refine T.grd b1 (T.grd (by rw[bG,List.length_singleton];omega) (next d _ (by rw[List.length_append,List.length_singleton];omega) ?_))
   rw[bq,dJ,dN]at hc2
   cases d with
   |true=>rw[if_pos rfl,hdr]at hg;rw[if_pos rfl,<- hg];simp
   |false =>
    rw[if_neg (by decide),hdr]at hg
    rw[if_neg (by decide),<- hg]
    have hlt:l[i]<n:=by rcases hc2 with q|q;cases q;exact q
    simp only[je]
    rw[if_neg (by omega),if_neg (by omega)]
    simp
 ·obtain rfl:i=l.length:=by omega
  rw[List.drop_length]at hg
  refine T.kX (T.cnd (fun hc2=>?_) (fun hc2=>?_))<;>simp only[bF,dJ]at hc2<;>subst hc2
  ·rw[if_neg (by decide)]at hg
   refine T.grd (by rw[bG,List.length_singleton];omega) (T.ret ?_)
   rw[<- hg];rfl
  ·rw[if_pos rfl,List.append_nil]at hg
   exact T.ret (by rw[<- hg])
theorem OG (l:List DS0) (hv:gy l=0):m44 (l,())=some ((doms l).map fun d=>[d.1],()):=by
 refine T.eq ?_
 unfold m44
 have hL:=aB l
 have v:=val_ok hv
 refine T.loop (fun q=>∃ i:Nat,i<=l.length/\q=((i:Int),l,((doms l).take i).map (fun d=>[d.1]),())) (fun q=>l.length-q.1.toNat) ⟨0,by omega,rfl⟩ ?_
 rintro _ ⟨i,hi,rfl⟩
 dsimp only
 rw[hL]
 refine T.cnd (fun hc=>?_) (fun hc=>?_)<;>simp only[aG,aD]at hc
 ·have hil:i<l.length:=by omega
  refine T.aX (KU l i hil hv) (T.grd ?_ (T.go ⟨i+1,by omega,?_⟩ (by dsimp only;rw[aF (by omega) (by omega)];omega)))
  ·rw[bG,List.length_map,List.length_take,List.length_singleton];omega
  ·rw[aF (by omega) (by omega),List.take_succ_eq_append_getElem (by rw[lS];exact hil),List.map_append]
   have:=vT l i hil
   rw[getD_eq _ _ _ (by rw[lS];exact hil)]at this
   simp only[List.map_cons,List.map_nil,this]
   rfl
 ·obtain rfl:i=l.length:=by omega
  refine T.out ?_
  rw[<- lS l,List.take_length]
theorem LM {dm:List DS3} (hd:dI dm):GOk dm (dm.map fun d=>[d.1])/\excess (dm.map fun d=>[d.1])=0:=by
 refine⟨⟨by simp,fun i hi=>?_⟩,?_⟩
 ·have:=hd.at hi
  have e1:(dm.map fun d=>[d.1]).getD i []=[dm[i].1]:=by rw[getD_eq _ _ _ (by simpa using hi),List.getElem_map]
  rw[getD_eq _ _ _ hi]at this
  rw[e1,getD_eq _ _ _ hi]
  exact⟨rfl,by simp,fun x hx=>by obtain rfl:=List.mem_singleton.1 hx;exact this.1⟩
 ·generalize dm=l
  induction l with
  |nil=>rfl
  |cons d l ih=>simp only[List.map_cons,excess,ih];rfl
def Gb (dm:List DS3) (g:List (List Int)) (i:Nat) (v:Int):List (List Int):=if v<=(dm.getD i zS).1\/(dm.getD i zS).2.1<v then g else g.set i (je (g.getD i []) v)
theorem a18 (l:List DS0) (hv:gy l=0) (g:List (List Int)) (hg:g.length=l.length) (hgl:∀ r∈g,r.length<=3000000000) (i:Nat) (hi:i<l.length) (v:Int):m46 (l,()) g (i:Int) v=some (Gb (doms l) g i v,()):=by
 refine T.eq ?_
 unfold m46 Gb
 have vo:=val_ok hv
 rw[vT l i hi]
 refine T.aX (KU l i hi hv) ?_
 dsimp only
 have hG:=aB g
 refine T.cnd (fun hc=>?_) (fun hc=>?_)<;>simp only[bV,bW,dL,dN,aG,aD]at hc
 ·rw[if_pos hc];exact T.ret rfl
 ·rw[if_neg (by omega)]
  have e:atI g (i:Int) []=g.getD i []:=by rw[bT]
  have hgi:i<g.length:=by omega
  rw[e,List.nil_append,hG,Int.toNat_natCast]
  refine T.grd (by rw[bG,List.length_nil];omega) (T.grd (by rw[aH];omega) (T.aX (a2e _ _ (by rw[getD_eq _ _ _ hgi];exact hgl _ (List.getElem_mem hgi))) (T.grd (by rw[aH];omega) (T.grd (by rw[cu];omega) (T.ret rfl)))))
theorem KN:∀ (g:List (List Int)) (i:Nat) (r:List Int),i<g.length->r.length<=(g.getD i []).length+1->excess (g.set i r)<=excess g+1:=by
 intro g
 induction g with
 |nil=>intro i r h;cases h
 |cons x g ih =>
  intro i r h hr
  cases i with
  |zero=>simp only[List.set_cons_zero,excess];simp at hr;omega
  |succ i=>simp only[List.set_cons_succ,excess];have:=ih i r (by simpa using h) (by simpa using hr);omega
theorem nu {α:Type} (g:List α) (i j:Nat) (r z:α) (h:i<g.length):(g.set i r).getD j z=if i=j then r else g.getD j z:=by
 rw[List.getD_eq_getElem?_getD]
 by_cases e:i=j
 ·subst e;rw[List.getElem?_set_self h,if_pos rfl];rfl
 ·rw[List.getElem?_set_ne e,if_neg e,<- List.getD_eq_getElem?_getD]
theorem Zh {dm:List DS3} {g:List (List Int)} (hg:GOk dm g) {i:Nat} (hi:i<dm.length) (v:Int):GOk dm (Gb dm g i v)/\excess (Gb dm g i v)<=excess g+1:=by
 unfold Gb
 split
 ·exact⟨hg,by omega⟩
 ·rename_i q
  have hgi:i<g.length:=by rw[hg.1];exact hi
  refine⟨⟨by rw[List.length_set];exact hg.1,fun j hj=>?_⟩,KN g i _ hgi (QZ _ _).2⟩
  rw[nu g i j _ _ hgi]
  split
  ·rename_i e;subst e
   exact QY (hg.2 i hj) (by omega) (by omega)
  ·exact hg.2 j hj
theorem UA:∀ g:List (List Int),d9 g<=2^excess g:=by
 intro g
 induction g with
 |nil=>simp[d9,excess]
 |cons r g ih =>
  simp only[d9,excess]
  rw[Nat.pow_add]
  refine Nat.mul_le_mul ?_ ih
  have:∀ n:Nat,n<=2^(n-1):=by
   intro n
   induction n with
   |zero=>simp
   |succ n ihn =>
    cases n with
    |zero=>simp
    |succ n =>
     simp only[Nat.add_sub_cancel]at ihn ⊢
     rw[Nat.pow_succ];omega
  exact this _
theorem GOk.row {dm:List DS3} {g:List (List Int)} (hg:GOk dm g) {i:Nat} (hi:i<g.length):oC (dm.getD i zS).1 (dm.getD i zS).2.1 g[i]:=by
 have:=hg.2 i (by rw[<- hg.1];exact hi)
 rwa [getD_eq _ _ _ hi]at this
theorem oC.pos {lo hi:Int} {r:List Int} (h:oC lo hi r):1<=r.length:=by
 cases r with
 |nil=>cases h.1
 |cons x xs=>simp
theorem K3:∀ (g:List (List Int)),∀ r∈g,r.length<=excess g+1:=by
 intro g
 induction g with
 |nil=>intro r h;cases h
 |cons x g ih =>
  intro r h
  simp only[excess]
  rcases List.mem_cons.1 h with rfl|q
  ·omega
  ·have:=ih r q;omega
theorem wJ (g:List (List Int)) (i:Nat) (h:i<g.length):d9 (g.drop i)=g[i].length*d9 (g.drop (i+1)):=by
 rw[List.drop_eq_getElem_cons h];rfl
theorem Wi (g:List (List Int)) (hl:g.length<=6) (hp:∀ r∈g,1<=r.length) (hc:d9 g<=8192):m47 g=some ((d9 g:Int),()):=by
 refine T.eq ?_
 unfold m47
 have hG:=aB g
 have pd:∀ g':List (List Int),(∀ r∈g',1<=r.length)->1<=d9 g':=by
  intro g'
  induction g' with
  |nil=>intro _;simp[d9]
  |cons r g' ih=>intro h;simp only[d9];exact Nat.mul_le_mul (h r (by simp)) (ih fun x hx=>h x (by simp[hx]))
 refine T.loop (fun q=>∃ (i n:Nat),i<=g.length/\n*d9 (g.drop i)=d9 g/\q=(g,(n:Int),(i:Int),())) (fun q=>g.length-q.2.2.1.toNat) ⟨0,1,by omega,by simp,rfl⟩ ?_
 rintro _ ⟨i,n,hi,hn,rfl⟩
 dsimp only
 rw[hG,bT]
 refine T.cnd (fun hc2=>?_) (fun hc2=>?_)<;>simp only[aG,aD]at hc2
 ·have hil:i<g.length:=by omega
  rw[getD_eq _ _ _ hil,aB]
  rw[wJ g i hil,<- Nat.mul_assoc]at hn
  have h1:1<=d9 (g.drop (i+1)):=pd _ fun r hr=>hp r (List.mem_of_mem_drop hr)
  have h2:n*g[i].length<=8192:=by
   have:n*g[i].length*1<=n*g[i].length*d9 (g.drop (i+1)):=Nat.mul_le_mul (Nat.le_refl _) h1
   omega
  have e:((n:Int)*(g[i].length:Int))=((n*g[i].length:Nat):Int):=by push_cast;rfl
  refine T.grd (by rw[aH];omega) (T.go ⟨i+1,n*g[i].length,by omega,hn,?_⟩ (by dsimp only;rw[aF (by omega) (by omega)];omega))
  rw[aF (by omega) (by omega),fK (by omega) (by omega),e]
  unfold kP
  rw[Int.min_eq_left (by omega)]
  rfl
 ·obtain rfl:i=g.length:=by omega
  refine T.out ?_
  rw[List.drop_length]at hn
  simp only[d9,Nat.mul_one]at hn
  rw[hn]
def jC (dm:List DS3) (lo:Int) (ns:List DS1):Prop:=dY dm ns/\(∀ i,i<ns.length->∀ k,k<i->ns.getD k zN≠ns.getD i zN)/\∀ x∈ns,∀ c∈x.2.2.1,lo<=c
def Rf (ns:List DS1) (lo:Int) (i:Nat) (r:Int):Prop:=lo<=r/\r<(ns.length:Int)/\(0<=r->(i:Int)<=(ns.getD r.toNat zN).1)
theorem eY {α:Type} (a b:List α) (z:α) {i:Nat} (h:i<a.length):(a++b).getD i z=a.getD i z:=by
 rw[List.getD_eq_getElem?_getD,List.getElem?_append_left h,<- List.getD_eq_getElem?_getD]
theorem Rf.app {ns:List DS1} {lo:Int} {i:Nat} {r:Int} (h:Rf ns lo i r) (t:List DS1):Rf (ns++t) lo i r:=by
 obtain⟨h1,h2,h3⟩:=h
 refine⟨h1,by rw[List.length_append];omega,fun q=>?_⟩
 rw[eY _ _ _ (by omega)];exact h3 q
theorem Rf.weak {ns:List DS1} {lo:Int} {i j:Nat} {r:Int} (h:Rf ns lo i r) (hj:j<=i):Rf ns lo j r:=⟨h.1,h.2.1,fun q=>by have:=h.2.2 q;omega⟩
theorem jo.app {dm:List DS3} {ns:List DS1} {x:DS1} (h:jo dm ns x) (t:List DS1):jo dm (ns++t) x:=by
 obtain⟨h1,h2,h3,h4,h5,h6⟩:=h
 refine⟨h1,h2,h3,h4,h5,fun k hk=>?_⟩
 obtain⟨a,b,c⟩:=h6 k hk
 refine⟨⟨a.1,by rw[List.length_append];have:=a.2;omega⟩,b,fun q=>?_⟩
 rw[eY _ _ _ (by have:=a.2;omega)];exact c q
theorem jC.nil (dm:List DS3) (lo:Int):jC dm lo []:=⟨fun i hi=>(by cases hi),fun i hi=>(by cases hi),fun x hx=>(by cases hx)⟩
theorem jC.snoc {dm:List DS3} {lo:Int} {ns:List DS1} (h:jC dm lo ns) {x:DS1} (hs:jo dm (ns++[x]) x) (hx:∀ c∈x.2.2.1,lo<=c) (hn:∀ k,k<ns.length->ns.getD k zN≠x):jC dm lo (ns++[x]):=by
 obtain⟨h1,h2,h3⟩:=h
 have el:(ns++[x]).getD ns.length zN=x:=by rw[List.getD_eq_getElem?_getD,List.getElem?_append_right (Nat.le_refl _)];simp
 refine⟨fun i hi=>?_,fun i hi k hk=>?_,fun y hy=>?_⟩
 ·rw[List.length_append,List.length_singleton]at hi
  rcases Nat.lt_or_ge i ns.length with q|q
  ·rw[eY _ _ _ q];exact (h1 i q).app _
  ·obtain rfl:i=ns.length:=by omega
   rw[el];exact hs
 ·rw[List.length_append,List.length_singleton]at hi
  rcases Nat.lt_or_ge i ns.length with q|q
  ·rw[eY _ _ _ q,eY _ _ _ (by omega)];exact h2 i q k hk
  ·obtain rfl:i=ns.length:=by omega
   rw[el,eY _ _ _ hk];exact hn k hk
 ·rcases List.mem_append.1 hy with q|q
  ·exact h3 y q
  ·obtain rfl:=List.mem_singleton.1 q;exact hx
theorem wI {lo hi:Int} {r:List Int} (h:oC lo hi r):∀ k,0<k->k<r.length->lo<r.getD k 0/\r.getD k 0<=hi/\r.getD (k-1) 0<r.getD k 0:=by
 intro k h0 hk
 obtain⟨a,b,c⟩:=h
 have hp:=List.pairwise_iff_getElem.1 b
 rw[getD_eq _ _ _ hk,getD_eq _ _ _ (by omega)]
 have e0:r[0]'(by omega)=lo:=by
  cases r with
  |nil=>cases a
  |cons x xs=>exact Option.some.inj a
 refine⟨?_,c _ (List.getElem_mem hk),hp (k-1) k (by omega) hk (by omega)⟩
 have:=hp 0 k (by omega) hk h0
 omega
theorem Xw {lo hi:Int} {r:List Int} (h:oC lo hi r):r.getD 0 0=lo/\∀ k,k<r.length->lo<=r.getD k 0:=by
 have e0:r.getD 0 0=lo:=by
  cases r with
  |nil=>cases h.1
  |cons x xs=>exact Option.some.inj h.1
 refine⟨e0,fun k hk=>?_⟩
 rcases Nat.eq_zero_or_pos k with rfl|q
 ·omega
 ·have:=(wI h k q hk).1;omega
theorem jd {α:Type} (a:List α) (x z:α):(a++[x]).getD a.length z=x:=by rw[List.getD_eq_getElem?_getD,List.getElem?_append_right (Nat.le_refl _)];simp
theorem MB {dm:List DS3} {lo:Int} (hd:dI dm) (hlo:-256<=lo) (hlo0:lo<=0) {i:Nat} (hi:i < dm.length) {cuts next:List Int} {ns:List DS1} (hr:oC (dm.getD i zS).1 (dm.getD i zS).2.1 cuts) (hl:next.length=cuts.length) (hcl:cuts.length<=1000000)
  (hnx:∀ c∈next,Rf ns lo (i+1) c) (hN:jC dm lo ns) (hn:ns.length<=1000000) (gg:List (List Int)) (vv:List Int) :
  T (xW (i:Int) cuts gg vv next ns) (fun y=>∃ t,y=(y.1,gg,vv,next,ns++t,())/\jC dm lo (ns++t)/\Rf (ns++t) lo i y.1/\t.length<=1/\(next.length=1->t=[])):=by
 have hp:=hr.pos
 unfold xW
 have hX:=aB next
 refine T.grd (by rw[aH];omega) (T.grd (by rw[cu];simp;omega) ?_)
 have e0:next.getD (Int.toNat 0) 0=next[0]'(by omega):=getD_eq next 0 0 (by omega)
 rw[e0]
 refine T.loop (fun q=>∃ (k:Nat) (c n:List Int),1<=k/\k<=next.length/\n.length=c.length+1/\c.length+1<=k/\(∀ j,j<c.length->(dm.getD i zS).1<c.getD j 0/\c.getD j 0<=(dm.getD i zS).2.1/\(0<j->c.getD (j-1) 0<c.getD j 0))/\(∀ x∈c,x<=cuts.getD (k-1) 0)/\
  (∀ x∈n,Rf ns lo (i+1) x)/\(∀ j,j<n.length->0<j->n.getD j 0≠n.getD (j-1) 0)/\q=((i:Int),cuts,(k:Int),gg,vv,next,ns,c,n,())) (fun q=>next.length-q.2.2.1.toNat)
  ⟨1,[],[next[0]'(by omega)],by omega,by omega,rfl,by simp,fun j hj=>(by cases hj),fun x hx=>(by cases hx),fun x hx=>(by obtain rfl:=List.mem_singleton.1 hx;exact hnx _ (List.getElem_mem _)),fun j hj q=>(by simp at hj;omega),rfl⟩ ?_
 rintro _ ⟨k,c,n,hk1,hk,hnl,hck,hc,hcx,hnr,hna,rfl⟩
 dsimp only
 have hCl:=aB n
 have hCu:=aB cuts
 rw[hX,hCl,hCu]
 refine T.cnd (fun hc1=>?_) (fun hc1=>?_)<;>simp only[aG,aD]at hc1
 ·have hkl:k<next.length:=by omega
  have en1:dS .i64 (n.length:Int) 1=((n.length-1:Nat):Int):=by rw[bS (by omega) (by omega)];omega
  rw[en1,Int.toNat_natCast,Int.toNat_natCast,bT]
  refine T.grd (by rw[aH];omega) (T.grd (by rw[cu];omega) (T.grd (by rw[aH];omega) (T.grd (by rw[cu];omega) (T.cnd (fun hc2=>?_) (fun hc2=>?_)))))<;>simp only[dx,dK]at hc2
  ·refine T.grd (by rw[aH];omega) (T.grd (by rw[bG,List.length_singleton];omega) (T.grd (by rw[aH];omega) (T.grd (by rw[cu];omega) (T.grd (by rw[bG,List.length_singleton];omega) ?_))))
   have hrk:=wI hr k (by omega) (by omega)
   refine T.go ⟨k+1,c++[cuts.getD k 0],n++[next.getD k 0],by omega,by omega,by rw[List.length_append,List.length_append,List.length_singleton,List.length_singleton];omega,by rw[List.length_append,List.length_singleton];omega,fun j hj=>?_,fun x hx=>?_,fun x hx=>?_,fun j hj hj0=>?_,by rw[aF (by omega) (by omega)];rfl⟩ (by dsimp only;rw[aF (by omega) (by omega)];omega)
   ·rw[List.length_append,List.length_singleton]at hj
    rcases Nat.lt_or_ge j c.length with q|q
    ·rw[eY _ _ _ q]
     have:=hc j q
     refine⟨this.1,this.2.1,fun q0=>?_⟩
     rw[eY _ _ _ (by omega)];exact this.2.2 q0
    ·obtain rfl:j=c.length:=by omega
     rw[jd]
     refine⟨hrk.1,hrk.2.1,fun q0=>?_⟩
     rw[eY _ _ _ (by omega),getD_eq c _ _ (by omega)]
     have:=hcx _ (List.getElem_mem (show c.length-1<c.length by omega))
     omega
   ·rw[Nat.add_sub_cancel]
    rcases List.mem_append.1 hx with q|q
    ·have:=hcx x q;omega
    ·obtain rfl:=List.mem_singleton.1 q;omega
   ·rcases List.mem_append.1 hx with q|q
    ·exact hnr x q
    ·obtain rfl:=List.mem_singleton.1 q
     rw[getD_eq _ _ _ hkl];exact hnx _ (List.getElem_mem hkl)
   ·rw[List.length_append,List.length_singleton]at hj
    rcases Nat.lt_or_ge j n.length with q|q
    ·rw[eY _ _ _ q,eY _ _ _ (by omega)];exact hna j q hj0
    ·obtain rfl:j=n.length:=by omega
     rw[jd,eY _ _ _ (by omega)];exact hc2
  ·have hrk:=wI hr k (by omega) (by omega)
   refine T.go ⟨k+1,c,n,by omega,by omega,hnl,by omega,hc,fun x hx=>?_,hnr,hna,by rw[aF (by omega) (by omega)];rfl⟩ (by dsimp only;rw[aF (by omega) (by omega)];omega)
   rw[Nat.add_sub_cancel]
   have:=hcx x hx;omega
 ·obtain rfl:k=next.length:=by omega
  refine T.kX (T.cnd (fun hc2=>?_) (fun hc2=>?_))<;>simp only[bf,bn]at hc2
  ·refine T.grd (by rw[aH];omega) (T.grd (by rw[cu];simp;omega) (T.ret ⟨[],by rw[List.append_nil],by rw[List.append_nil];exact hN,?_,by simp,fun _=>rfl⟩))
   have en:n.getD (Int.toNat 0) 0=n[0]'(by omega):=getD_eq n 0 0 (by omega)
   rw[List.append_nil]
   show Rf ns lo i (n.getD (Int.toNat 0) 0)
   rw[en]
   exact (hnr _ (List.getElem_mem _)).weak (by omega)
  have hNs:=aB ns
  refine T.loop (fun q=>∃ j:Nat,j<=ns.length/\(∀ j',j'<j->ns.getD j' zN≠((i:Int),c,n,()))/\q=((i:Int),(j:Int),gg,vv,next,ns,c,n,())) (fun q=>ns.length-q.2.1.toNat) ⟨0,by omega,fun j hj=>by omega,rfl⟩ ?_
  rintro _ ⟨j,hj,hjn,rfl⟩
  dsimp only
  rw[hNs,Int.toNat_natCast]
  refine T.cnd (fun hc3=>?_) (fun hc3=>?_)<;>simp only[aG,aD]at hc3
  ·have hjl:j<ns.length:=by omega
   have hsj:=(hN.1 j hjl).len hd
   have Kg:ns.getD j zN ≠ ((i:Int),c,n,())->T (some (Sum.inl (β:=Int × (List (List Int)) × (List Int) × (List Int) × (List DS1) × Unit) ((i:Int),aM .i64 (j:Int) 1,gg,vv,next,ns,c,n,()))) (LQ (fun q=>∃ j:Nat,j<=ns.length/\(∀ j',j' < j->ns.getD j' zN ≠ ((i:Int),c,n,()))/\q=((i:Int),(j:Int),gg,vv,next,ns,c,n,())) (fun q=>ns.length - q.2.1.toNat) (ns.length - (j:Int).toNat)
     (fun y=>∃ t,y=(y.1,gg,vv,next,ns++t,())/\jC dm lo (ns++t)/\Rf (ns++t) lo i y.1/\t.length<=1/\(next.length=1->t=[]))):=fun hx=>by
    refine T.go ⟨j+1,by omega,fun j' hj'=>?_,by rw[aF (by omega) (by omega)];rfl⟩ (by dsimp only;rw[aF (by omega) (by omega)];omega)
    rcases Nat.lt_or_ge j' j with q|q
    ·exact hjn j' q
    ·obtain rfl:j'=j:=by omega
     exact hx
   have ez:ns.getD j (0,[],[],())=ns.getD j zN:=rfl
   rw[ez]
   refine T.grd (by rw[aH];omega) (T.grd (by rw[cu];omega) (T.cnd (fun hc4=>?_) (fun hc4=>?_)))<;>simp only[bf,bn]at hc4
   ·refine T.aX (Ae _ _ (by omega)) ?_
    dsimp only
    refine T.cnd (fun hc5=>?_) (fun hc5=>?_)<;>simp only[decide_eq_true_eq,decide_eq_false_iff_not]at hc5
    ·refine T.aX (Ae _ _ (by omega)) ?_
     dsimp only
     refine T.cnd (fun hc6=>?_) (fun hc6=>?_)<;>simp only[decide_eq_true_eq,decide_eq_false_iff_not]at hc6
     ·refine T.out ⟨[],by rw[List.append_nil],by rw[List.append_nil];exact hN,?_,by simp,fun _=>rfl⟩
      rw[List.append_nil]
      exact⟨by show lo<=(j:Int);omega,by show (j:Int)<_;omega,fun _=>by show (i:Int)<=(ns.getD (j:Int).toNat zN).1;rw[Int.toNat_natCast,hc4];omega⟩
     ·exact Kg fun e=>hc6 (by rw[e])
    ·exact Kg fun e=>hc5 (by rw[e])
   ·exact Kg fun e=>hc4 (by rw[e])
  ·obtain rfl:j=ns.length:=by omega
   refine T.kX (T.grd (by rw[bG,List.length_singleton];omega) (T.ret ⟨[((i:Int),c,n,())],?_,hN.snoc ?_ ?_ hjn,?_,by simp,fun q=>?_⟩))
   ·have e1:dS .i64 (aj (ns++[((i:Int),c,n,())])) 1=(ns.length:Int):=by rw[aB,List.length_append,List.length_singleton,bS (by omega) (by omega)];omega
    rw[e1]
   ·refine⟨by show (0:Int)<=i;omega,by show (i:Int)<_;omega,by show 0<c.length;omega,hnl,fun k hk=>?_,fun k hk=>?_⟩
    ·have:=hc k hk
     show (dm.getD (i:Int).toNat zS).1<_/\_<=(dm.getD (i:Int).toNat zS).2.1/\_
     rw[Int.toNat_natCast];exact this
    ·have hk':k<n.length:=hk
     have hm:=hnr (n.getD k 0) (by rw[getD_eq _ _ _ hk'];exact List.getElem_mem hk')
     refine⟨⟨by show -256<=n.getD k 0;have:=hm.1;omega,(hm.app _).2.1⟩,fun q=>hna k hk' q,fun q=>?_⟩
     have:=(hm.app [((i:Int),c,n,())]).2.2 q
     show (i:Int)<((ns++[((i:Int),c,n,())]).getD (n.getD k 0).toNat zN).1
     omega
   ·intro x hx
    exact (hnr x hx).1
   ·have e1:dS .i64 (aj (ns++[((i:Int),c,n,())])) 1=(ns.length:Int):=by rw[aB,List.length_append,List.length_singleton,bS (by omega) (by omega)];omega
    show Rf _ lo i (dS .i64 (aj (ns++[((i:Int),c,n,())])) 1)
    rw[e1]
    refine⟨by omega,by rw[List.length_append,List.length_singleton];omega,fun _=>?_⟩
    rw[Int.toNat_natCast,jd]
    exact Int.le_refl _
   ·omega
theorem Vf (x:Int×Int×Int×(List (List Int))×(List Int)×(List DS1)×Unit):Mo fun s=>BL s x.1 x.2.1 x.2.2.1 x.2.2.2.1 x.2.2.2.2.1 x.2.2.2.2.2.1:=by
 unfold BL;(repeat' (first|exact Mo.const _|exact Mo.self _|apply Mo.bind|apply Mo.cond|apply Mo.map|apply Mo.join|apply Mo.loop|(intro _)))
theorem Wn {dm:List DS3} {lo:Int} (hd:dI dm) (hlo:-256<=lo) (hlo0:lo<=0) {g:List (List Int)} (hg:GOk dm g) (hgl:∀ r ∈ g,r.length<=1000000) (hP:d9 g<=1000000) {v:List Int} (hv:∀ x ∈ v,0<=x/\lo<=-1 - x) (hvl:v.length<=1000000) (i at_:Nat) (ns:List DS1) (hi:i<=g.length) (hat:at_ + d9 (g.drop i)<=v.length) (hN:jC dm lo ns) (hns:ns.length + d9 (g.drop i)<=1000000) :
  T (m80 (i:Int) (at_:Int) (d9 (g.drop i):Int) g v ns) (fun y=>∃ t,y=(y.1,g,v,ns++t,())/\jC dm lo (ns++t)/\Rf (ns++t) lo i y.1/\t.length+1<=d9 (g.drop i)):=by
 unfold m80
 refine AP (ι:=Nat×Nat×List DS1) Vf (fun q=>((q.1:Int),(q.2.1:Int),(d9 (g.drop q.1):Int),g,v,q.2.2,())) (fun q=>q.1<=g.length/\q.2.1+d9 (g.drop q.1)<=v.length/\jC dm lo q.2.2/\q.2.2.length+d9 (g.drop q.1)<=1000000)
  (fun q y=>∃ t,y=(y.1,g,v,q.2.2++t,())/\jC dm lo (q.2.2++t)/\Rf (q.2.2++t) lo q.1 y.1/\t.length+1<=d9 (g.drop q.1)) (fun q=>g.length-q.1) ?_ (i,at_,ns) ⟨hi,hat,hN,hns⟩
 rintro⟨i,at_,ns⟩ ⟨hi,hat,hN,hns⟩ s ih
 dsimp only at hi hat hN hns ih ⊢
 unfold BL
 have hG:=aB g
 have hV:=aB v
 have hd2:=hd.2.1
 have hgd:=hg.1
 rw[hG,hV]
 refine T.cnd (fun hc=>?_) (fun hc=>?_)<;>simp only[bf,bn]at hc
 ·obtain rfl:i=g.length:=by omega
  rw[List.drop_length]at hat ⊢
  simp only[d9]at hat ⊢
  have hal:at_<v.length:=by omega
  rw[bT,getD_eq _ _ _ hal]
  have hx:=hv _ (List.getElem_mem hal)
  refine T.grd (by rw[aH];omega) (T.ret ⟨[],by rw[List.append_nil],by rw[List.append_nil];exact hN,?_,by simp⟩)
  rw[List.append_nil,bS (by omega) (by omega)]
  exact⟨hx.2,by show -1-v[at_]<_;omega,fun q=>absurd q (by show ¬ 0<=-1-v[at_];omega)⟩
 have hil:i<g.length:=by omega
 have hrow:=hg.row hil
 have hrp:=hrow.pos
 have hpd:=wJ g i hil
 have KP:qD .i64 (d9 (g.drop i):Int) (g[i].length:Int)=(d9 (g.drop (i+1)):Int):=by
  unfold qD
  rw[hpd,Int.tdiv_eq_ediv_of_nonneg (by omega)]
  have:((g[i].length*d9 (g.drop (i+1)):Nat):Int)/(g[i].length:Int)=(d9 (g.drop (i+1)):Int):=by
   rw[<- Int.natCast_ediv,Nat.mul_div_cancel_left _ (by omega)]
  rw[this]
  have h1:d9 (g.drop (i+1))<=d9 (g.drop i):=by
   rw[hpd]
   have:1*d9 (g.drop (i+1))<=g[i].length*d9 (g.drop (i+1)):=Nat.mul_le_mul hrp (Nat.le_refl _)
   omega
  rw[wrap64]<;>omega
 have hgi:=hgl _ (List.getElem_mem hil)
 have hR:=aB g[i]
 rw[bT,getD_eq _ _ _ hil,hR,KP]
 generalize hpt:d9 (g.drop (i+1))=part at hpd
 refine T.grd (by rw[aH];omega) (T.grd (by rw[dx];omega) ?_)
 refine T.loop (fun q=>∃ (k:Nat) (t:List DS1) (nx:List Int),k<=g[i].length/\nx.length=k/\jC dm lo (ns++t)/\(∀ c∈nx,Rf (ns++t) lo (i+1) c)/\t.length+k<=k*part/\q=((i:Int),(at_:Int),(part:Int),(k:Int),g,v,ns++t,nx,())) (fun q=>g[i].length-q.2.2.2.1.toNat) ⟨0,[],[],by omega,rfl,by rw[List.append_nil];exact hN,fun c hc=>(by cases hc),by simp,by rw[List.append_nil];rfl⟩ ?_
 rintro _ ⟨k,t,nx,hk,hnx,hNt,hrf,htl,rfl⟩
 dsimp only
 rw[hG,bT,getD_eq _ _ _ hil,hR]
 refine T.grd (by rw[aH];omega) (T.cnd (fun hc2=>?_) (fun hc2=>?_))<;>simp only[aG,aD]at hc2
 ·have hkl:k<g[i].length:=by omega
  have hkp:(k+1)*part<=g[i].length*part:=Nat.mul_le_mul hkl (Nat.le_refl _)
  rw[Nat.add_mul,Nat.one_mul]at hkp
  have e1:aM .i64 (i:Int) 1=((i+1:Nat):Int):=by rw[aF (by omega) (by omega)];omega
  have ekp:(k:Int)*(part:Int)=((k*part:Nat):Int):=by push_cast;rfl
  have e2:aM .i64 (at_:Int) (wX .i64 (k:Int) (part:Int))=((at_+k*part:Nat):Int):=by
   rw[fK (by omega) (by omega),ekp,aF (by omega) (by omega)];omega
  rw[e1,e2]
  have hcall:=ih (i+1,at_+k*part,ns++t) ⟨by omega,by dsimp only;rw[hpt];omega,hNt,by dsimp only;rw[hpt,List.length_append];omega⟩ (by dsimp only;omega)
  dsimp only at hcall
  rw[hpt]at hcall
  refine T.call hcall ?_
  rintro⟨r,q1,q2,q3,⟨⟩⟩ ⟨t2,heq,hN2,hr2,ht2⟩
  obtain⟨rfl,rfl,rfl⟩:g=q1/\v=q2/\ns++t++t2=q3:=by
   simp only[Prod.mk.injEq]at heq
   exact⟨heq.2.1.symm,heq.2.2.1.symm,heq.2.2.2.1.symm⟩
  dsimp only at hr2 ⊢
  rw[List.append_assoc]at hN2 hr2
  rw[List.append_assoc]
  refine T.grd (by rw[bG,List.length_singleton];omega) (T.go ⟨k+1,t++t2,nx++[r],by omega,by rw[List.length_append,List.length_singleton,hnx],hN2,fun c hc=>?_,?_,by rw[aF (by omega) (by omega)];rfl⟩ (by dsimp only;rw[aF (by omega) (by omega)];omega))
  ·rcases List.mem_append.1 hc with q|q
   ·have:=(hrf c q).app t2
    rwa [List.append_assoc]at this
   ·obtain rfl:=List.mem_singleton.1 q;exact hr2
  ·rw[List.length_append,Nat.add_mul,Nat.one_mul];omega
 ·obtain rfl:k=g[i].length:=by omega
  refine T.kX (T.grd (by rw[aH];omega) (T.call (MB hd hlo hlo0 (by omega) (cuts:=g[i]) (next:=nx) (ns:=ns++t) hrow (by omega) hgi hrf hNt (by rw[List.length_append];omega) g v) ?_))
  rintro⟨r,q1,q2,q3,q4,⟨⟩⟩ ⟨t2,heq,hN2,hr2,ht2,ht3⟩
  obtain⟨rfl,rfl,rfl,rfl⟩:g=q1/\v=q2/\nx=q3/\ns++t++t2=q4:=by
   simp only[Prod.mk.injEq]at heq
   exact⟨heq.2.1.symm,heq.2.2.1.symm,heq.2.2.2.1.symm,heq.2.2.2.2.1.symm⟩
  dsimp only at hr2 ⊢
  rw[List.append_assoc]at hN2 hr2
  rw[List.append_assoc]
  refine T.grd (by rw[eF];exact⟨Nat.beq_refl _,rfl⟩) (T.ret ⟨t++t2,rfl,hN2,hr2,?_⟩)
  rw[List.length_append,hpd]
  have hlx:g[i].length=nx.length:=hnx.symm
  rw[hlx]at htl ⊢
  rw[hlx]at hrp
  by_cases h1:nx.length=1
  ·rw[ht3 h1,List.length_nil];omega
  ·omega
end Abs
end Go.Proofs.YtgfnhpadmifiiaaDoor
section
namespace Go.Proofs.YtgfnhpadmifiiaaDoor
namespace Abs
section
variable {ns:List DS1} {rk:Nat->Nat}
theorem mJ (hR:lT ns rk):∀ (m f:Nat) (c:Int) (o:List Nat),rkI rk c<=m->m<=f->c<(ns.length:Int)->gU ns.length o->(0<=c->c.toNat∈aL ns f o c)/\∀ r∈aL ns f o c,r∉o->∀ k∈kids ns r,0<=k->k.toNat∈aL ns f o c:=by
 intro m
 induction m with
 |zero =>
  intro f c o h _ hc ho
  have hneg:c<0:=by unfold rkI at h;split at h;assumption;omega
  rw[iY f o hneg]
  exact⟨fun q=>by omega,fun r hr hn=>absurd hr hn⟩
 |succ m ih =>
  intro f c o h hf hc ho
  rcases Int.lt_or_le c 0 with q|q
  ·rw[iY f o q]
   exact⟨fun q=>by omega,fun r hr hn=>absurd hr hn⟩
  by_cases hm:c.toNat∈o
  ·rw[lW f o hm]
   exact⟨fun _=>hm,fun r hr hn=>absurd hr hn⟩
  obtain⟨g,rfl⟩:∃ g,f=g+1:=⟨f-1,by omega⟩
  unfold rkI at h
  rw[if_neg (by omega)]at h
  have hk:=(hR c.toNat (by omega)).2
  have e:aL ns (g+1) o c=(kids ns c.toNat).foldl (aL ns g) (o++[c.toNat]):=by
   simp only[aL]
   rw[if_neg (by rintro (r|r);omega;exact hm r)]
  rw[e]
  have key:∀ (cs:List Int),(∀ x∈cs,x∈kids ns c.toNat)->∀ o',gU ns.length o'->(∀ x∈cs,0<=x->x.toNat∈cs.foldl (aL ns g) o')/\∀ r∈cs.foldl (aL ns g) o',r∉o'->∀ k∈kids ns r,0<=k->k.toNat∈cs.foldl (aL ns g) o':=by
   intro cs
   induction cs with
   |nil=>intro _ o' _;exact⟨fun x hx=>(by cases hx),fun r hr hn=>absurd hr hn⟩
   |cons x cs ih2 =>
    intro hx o' ho'
    obtain⟨k1,k2⟩:=hk x (hx x (by simp))
    have hrx:rkI rk x<=m:=by unfold rkI;split;omega;rename_i q2;have:=k2 (by omega);omega
    obtain⟨a1,a2⟩:=ih g x o' hrx (by omega) k1 ho'
    obtain⟨ho2,t1,e1⟩:=l9 hR g x o' k1 ho'
    obtain⟨b1,b2⟩:=ih2 (fun y hy=>hx y (by simp[hy])) _ ho2
    obtain⟨_,t2,e2⟩:=yh hR g cs (fun y hy=>(hk y (hx y (by simp[hy]))).1) _ ho2
    rw[List.foldl_cons]
    have up:∀ z,z∈aL ns g o' x->z∈cs.foldl (aL ns g) (aL ns g o' x):=fun z hz=>by rw[e2];exact List.mem_append_left _ hz
    refine⟨fun y hy h0=>?_,fun r hr hn k hk' h0=>?_⟩
    ·rcases List.mem_cons.1 hy with rfl|hy
     ·exact up _ (a1 h0)
     ·exact b1 y hy h0
    ·by_cases hin:r∈aL ns g o' x
     ·exact up _ (a2 r hin hn k hk' h0)
     ·exact b2 r hr hin k hk' h0
  have hso:=ho.snoc (show c.toNat<ns.length by omega) hm
  obtain⟨c1,c2⟩:=key (kids ns c.toNat) (fun _ q=>q) _ hso
  obtain⟨_,t,e2⟩:=yh hR g (kids ns c.toNat) (fun y hy=>(hk y hy).1) _ hso
  refine⟨fun _=>?_,fun r hr hn k hk' h0=>?_⟩
  ·rw[e2];simp
  ·by_cases hin:r∈o++[c.toNat]
   ·rcases List.mem_append.1 hin with q2|q2
    ·exact absurd q2 hn
    ·obtain rfl:=List.mem_singleton.1 q2
     exact c1 k hk' h0
   ·exact c2 r hr hin k hk' h0
end
theorem iW (ns:List DS1) (O:List Nat):(gX ns O).length=O.length:=by simp[gX]
theorem xQ (ns:List DS1) (O:List Nat) {r:Nat} (h:r∈O):(gX ns O).getD (O.idxOf r) zN=imN ns O r:=by
 have hl:=List.idxOf_lt_length_of_mem h
 rw[getD_eq _ _ _ (by rw[iW];exact hl)]
 simp only[gX,List.getElem_map,List.getElem_idxOf]
theorem zh {O:List Nat} {c:Int}:aY O c<0↔c<0:=by unfold aY;split<;>omega
theorem IY {O:List Nat} {a b:Nat} (ha:a∈O) (hb:b∈O) (h:O.idxOf a=O.idxOf b):a=b:=by
 have h1:=List.getElem_idxOf (List.idxOf_lt_length_of_mem ha)
 have h2:=List.getElem_idxOf (List.idxOf_lt_length_of_mem hb)
 simp only[h]at h1
 rw[<- h1,h2]
theorem EY {O:List Nat} {a b:Int} (ha:0<=a->a.toNat∈O) (hb:0<=b->b.toNat∈O) (h:aY O a=aY O b):a=b:=by
 unfold aY at h
 split at h<;>split at h
 ·exact h
 ·omega
 ·omega
 ·have:=IY (ha (by omega)) (hb (by omega)) (by omega)
  omega
theorem PN (ns:List DS1) (O:List Nat) (hcl:∀ r ∈ O,∀ k ∈ kids ns r,0<=k->k.toNat ∈ O):∀ (f:Nat) (c:Int) (o:List Nat),(0<=c->c.toNat ∈ O)->(∀ x ∈ o,x ∈ O) ->
  aL (gX ns O) f (o.map O.idxOf) (aY O c)=(aL ns f o c).map O.idxOf/\∀ x∈aL ns f o c,x∈O:=by
 intro f
 induction f with
 |zero=>intro c o _ ho;exact⟨rfl,ho⟩
 |succ f ih =>
  intro c o hc ho
  rcases Int.lt_or_le c 0 with q|q
  ·rw[iY _ _ q,iY _ _ (zh.2 q)];exact⟨rfl,ho⟩
  have e:(aY O c).toNat=O.idxOf c.toNat:=by unfold aY;rw[if_neg (by omega)];rfl
  by_cases hm:c.toNat∈o
  ·rw[lW _ _ hm,lW _ _ (by rw[e];exact List.mem_map_of_mem hm)];exact⟨rfl,ho⟩
  have hcO:=hc q
  have hnm:(aY O c).toNat∉o.map O.idxOf:=fun h=>by
   rw[e]at h
   obtain⟨x,hx,hxe⟩:=List.mem_map.1 h
   have:=IY (ho x hx) hcO hxe
   exact hm (this▸hx)
  have e1:aL ns (f+1) o c=(kids ns c.toNat).foldl (aL ns f) (o++[c.toNat]):=by
   simp only[aL];rw[if_neg (by rintro (r|r);omega;exact hm r)]
  have e2:aL (gX ns O) (f+1) (o.map O.idxOf) (aY O c)=(kids (gX ns O) (aY O c).toNat).foldl (aL (gX ns O) f) (o.map O.idxOf++[(aY O c).toNat]):=by
   simp only[aL];rw[if_neg (by rintro (r|r);exact absurd (zh.1 r) (by omega);exact hnm r)]
  rw[e1,e2,e]
  have e3:kids (gX ns O) (O.idxOf c.toNat)=(kids ns c.toNat).map (aY O):=by
   unfold kids
   rw[xQ ns O hcO];rfl
  have e4:o.map O.idxOf++[O.idxOf c.toNat]=(o++[c.toNat]).map O.idxOf:=by simp
  rw[e3,e4,List.foldl_map]
  have key:∀ (cs:List Int),(∀ x∈cs,x∈kids ns c.toNat)->∀ o',(∀ x∈o',x∈O)->cs.foldl (fun x y=>aL (gX ns O) f x (aY O y)) (o'.map O.idxOf)=(cs.foldl (aL ns f) o').map O.idxOf/\∀ x∈cs.foldl (aL ns f) o',x∈O:=by
   intro cs
   induction cs with
   |nil=>intro _ o' ho';exact⟨rfl,ho'⟩
   |cons x cs ih2 =>
    intro hx o' ho'
    obtain⟨a1,a2⟩:=ih x o' (fun h0=>hcl c.toNat hcO x (hx x (by simp)) h0) ho'
    rw[List.foldl_cons,List.foldl_cons,a1]
    exact ih2 (fun y hy=>hx y (by simp[hy])) _ a2
  exact key (kids ns c.toNat) (fun _ h=>h) _ (fun x hx=>by
   rcases List.mem_append.1 hx with r|r
   ·exact ho x r
   ·obtain rfl:=List.mem_singleton.1 r;exact hcO)
theorem Vl {O:List Nat} (h:O.Nodup):O.map O.idxOf=List.range O.length:=by
 apply List.ext_getElem (by simp)
 intro i h1 h2
 rw[List.getElem_map,List.getElem_range,h.idxOf_getElem]
theorem Md {dm:List DS3} {lo:Int} {ns:List DS1} {root:Int} (hd:dI dm) (hN:jC dm lo ns) (hlo:-256<=lo) (hlo0:lo<=0) (hroot:root < (ns.length:Int)) (hrl:lo<=root) (hlen:ns.length<=1000) :
  VD dm (gX ns (aL ns 8 [] root)) (aY (aL ns 8 [] root) root)/\(∀ x∈gX ns (aL ns 8 [] root),∀ c∈x.2.2.1,lo<=c)/\lo<=aY (aL ns 8 [] root) root:=by
 obtain⟨hs,hdi,hlw⟩:=hN
 obtain⟨hR,hF⟩:=iR hd hs
 have h0:gU ns.length []:=⟨List.nodup_nil,fun x hx=>by cases hx⟩
 have hO:=(l9 hR 8 root [] hroot h0).1
 have hr8:rkI (rkA ns) root<=8:=by
  unfold rkI
  split
  ·omega
  ·exact hF _ (by omega)
 obtain⟨hcr,hcl0⟩:=mJ hR 8 8 root [] hr8 (Nat.le_refl _) hroot h0
 have a01:=PN ns (aL ns 8 [] root)
 generalize hOe:aL ns 8 [] root=O at *
 have hcl:∀ r∈O,∀ k∈kids ns r,0<=k->k.toNat∈O:=fun r hr=>hcl0 r hr (fun q=>by cases q)
 have YC:=(a01 hcl 8 root [] hcr (fun x hx=>by cases hx)).1
 rw[hOe,Vl hO.1]at YC
 have hOl:=hO.len
 have Kz:∀ c:Int,lo<=c->lo<=aY O c:=fun c h=>by unfold aY;split;exact h;omega
 have YI:∀ c:Int,(0<=c->c.toNat∈O)->aY O c<(O.length:Int):=fun c h=>by
  unfold aY
  split
  ·omega
  ·have:=List.idxOf_lt_length_of_mem (h (by omega));omega
 have at_:∀ j (hj:j<O.length),(gX ns O).getD j zN=imN ns O O[j]:=fun j hj=>by
  rw[getD_eq _ _ _ (by rw[iW];exact hj)];simp[gX]
 have kl:∀ r,r<ns.length->∀ c∈kids ns r,lo<=c:=fun r hr c hc=>hlw (ns.getD r zN) (by rw[getD_eq _ _ _ hr];exact List.getElem_mem hr) c hc
 refine⟨⟨by rw[iW];omega,⟨by have:=Kz root hrl;omega,by rw[iW];exact YI root hcr⟩,fun i hi=>?_,fun i hi k hk=>?_,by rw[iW];exact YC⟩,fun x hx c hc=>?_,Kz root hrl⟩
 ·rw[iW]at hi
  rw[at_ i hi]
  have hrm:=List.getElem_mem hi
  have hrn:=hO.2 _ hrm
  generalize O[i]=r at hrm hrn
  obtain⟨s1,s2,s3,s4,s5,s6⟩:=hs r hrn
  have s6':∀ k,k<(kids ns r).length->fJ ns.length ((kids ns r).getD k 0)/\(0<k->(kids ns r).getD k 0≠(kids ns r).getD (k-1) 0)/\(0<=(kids ns r).getD k 0->(ns.getD r zN).1<(ns.getD ((kids ns r).getD k 0).toNat zN).1):=s6
  have eg:∀ k,k<(kids ns r).length->((kids ns r).map (aY O)).getD k 0=aY O ((kids ns r).getD k 0):=fun k hk=>by
   rw[getD_eq _ _ _ (by rw[List.length_map];exact hk),List.getElem_map,getD_eq _ _ _ hk]
  have km:∀ k,k<(kids ns r).length->(kids ns r).getD k 0∈kids ns r:=fun k hk=>by rw[getD_eq _ _ _ hk];exact List.getElem_mem hk
  refine⟨s1,s2,s3,by show ((kids ns r).map (aY O)).length=_;rw[List.length_map];exact s4,s5,fun k hk=>?_⟩
  have hk':k<(kids ns r).length:=by
   have:k<((kids ns r).map (aY O)).length:=hk
   rwa [List.length_map]at this
  show fJ (gX ns O).length (((kids ns r).map (aY O)).getD k 0)/\(0<k->((kids ns r).map (aY O)).getD k 0≠((kids ns r).map (aY O)).getD (k-1) 0)/\(0<=((kids ns r).map (aY O)).getD k 0->(ns.getD r zN).1<((gX ns O).getD (((kids ns r).map (aY O)).getD k 0).toNat zN).1)
  rw[eg k hk',iW]
  have hc0:0<=(kids ns r).getD k 0->((kids ns r).getD k 0).toNat∈O:=fun q=>hcl r hrm _ (km k hk') q
  refine⟨⟨by have:=Kz _ (kl r hrn _ (km k hk'));omega,YI _ hc0⟩,fun q e=>?_,fun q=>?_⟩
  ·rw[eg (k-1) (by omega)]at e
   exact (s6' k hk').2.1 q (EY hc0 (fun q2=>hcl r hrm _ (km (k-1) (by omega)) q2) e)
  ·have hc1:0<=(kids ns r).getD k 0:=by
    rcases Int.lt_or_le ((kids ns r).getD k 0) 0 with r2|r2
    ·have:=zh (O:=O).2 r2;omega
    ·exact r2
   have e:(aY O ((kids ns r).getD k 0)).toNat=O.idxOf ((kids ns r).getD k 0).toNat:=by
    unfold aY;rw[if_neg (by omega)];rfl
   rw[e,xQ ns O (hc0 hc1)]
   exact (s6' k hk').2.2 hc1
 ·rw[iW]at hi
  have hkl:k<O.length:=by omega
  rw[at_ i hi,at_ k hkl]
  intro e
  have hi2:=hO.2 _ (List.getElem_mem hi)
  have hk2:=hO.2 _ (List.getElem_mem hkl)
  have hne:O[k]≠O[i]:=fun q=>by have:=(List.getElem_inj hO.1).1 q;omega
  have hmi:=List.getElem_mem hi
  have hmk:=List.getElem_mem hkl
  generalize O[i]=a at e hi2 hne hmi
  generalize O[k]=b at e hk2 hne hmk
  have e1:=congrArg Prod.fst e
  have e2:=congrArg (fun x:DS1=>x.2.1) e
  have e3:=congrArg (fun x:DS1=>x.2.2.1) e
  have e1:(ns.getD b zN).1=(ns.getD a zN).1:=e1
  have e2:(ns.getD b zN).2.1=(ns.getD a zN).2.1:=e2
  have e3:(kids ns b).map (aY O)=(kids ns a).map (aY O):=e3
  have inj:∀ (xs ys:List Int),(∀ x∈xs,0<=x->x.toNat∈O)->(∀ x∈ys,0<=x->x.toNat∈O)->xs.map (aY O)=ys.map (aY O)->xs=ys:=by
   intro xs
   induction xs with
   |nil=>intro ys _ _ h;cases ys with
    |nil=>rfl
    |cons y ys=>cases h
   |cons x xs ih =>
    intro ys hx hy h
    cases ys with
    |nil=>cases h
    |cons y ys =>
     rw[List.map_cons,List.map_cons]at h
     obtain⟨h1,h2⟩:=List.cons.inj h
     rw[EY (hx x (by simp)) (hy y (by simp)) h1,ih ys (fun z hz=>hx z (by simp[hz])) (fun z hz=>hy z (by simp[hz])) h2]
  have e4:kids ns b=kids ns a:=inj _ _ (hcl b hmk) (hcl a hmi) e3
  have e5:ns.getD b zN=ns.getD a zN:=Prod.ext e1 (Prod.ext e2 (Prod.ext e4 rfl))
  rcases Nat.lt_trichotomy a b with q|q|q
  ·exact hdi b hk2 a q e5.symm
  ·exact hne q.symm
  ·exact hdi a hi2 b q e5
 ·obtain⟨r,hr,rfl⟩:=List.mem_map.1 hx
  have hc:c∈(kids ns r).map (aY O):=hc
  obtain⟨k,hk,rfl⟩:=List.mem_map.1 hc
  exact Kz k (kl r (hO.2 r hr) k hk)
end Abs
end Go.Proofs.YtgfnhpadmifiiaaDoor
end
namespace Go.Proofs.YtgfnhpadmifiiaaDoor
namespace Abs
theorem Vj (x:Int×(List (List Int))×(List Int)×(List DS1)×(List Int)×(List DS1)×Unit):Mo fun s=>BO s x.1 x.2.1 x.2.2.1 x.2.2.2.1 x.2.2.2.2.1 x.2.2.2.2.2.1:=by
 unfold BO;(repeat' (first|exact Mo.const _|exact Mo.self _|apply Mo.bind|apply Mo.cond|apply Mo.map|apply Mo.join|apply Mo.loop|(intro _)))
theorem Ye {ns:List DS1} {rk:Nat->Nat} (hR:lT ns rk) (hn:ns.length<=1000000) {F:Nat} (hF:∀ r,r < ns.length->rk r + 1<=F) (g:List (List Int)) (v:List Int) (r:Int) (ord:List Nat) (hr:r < (ns.length:Int)) (ho:gU ns.length ord) :
  T (m58 r g v (lK ns ord) (eu ns.length ord) ns) (fun y=>y=(g,v,lK ns (aL ns F ord r),eu ns.length (aL ns F ord r),ns,())):=by
 unfold m58
 refine AP (ι:=Int×List Nat) Vj (fun q=>(q.1,g,v,lK ns q.2,eu ns.length q.2,ns,())) (fun q=>q.1<(ns.length:Int)/\gU ns.length q.2)
  (fun q y=>y=(g,v,lK ns (aL ns F q.2 q.1),eu ns.length (aL ns F q.2 q.1),ns,())) (fun q=>rkI rk q.1) ?_ (r,ord) ⟨hr,ho⟩
 rintro⟨r,ord⟩ ⟨hr,ho⟩ s ih
 dsimp only at hr ho ih ⊢
 unfold BO
 have hN:=aB ns
 have hP:=aB (eu ns.length ord)
 have hPl:=iJ ns.length ord
 have hO:=ho.len
 rcases Int.lt_or_le r 0 with h0|h0
 ·refine T.grd (by rw[bY,bF,fA,aG];exact .inr h0) (T.grd (by rw[bY,bF,fA,aG];exact .inr h0) (T.ct (by rw[bV,aG];exact .inl h0) (T.ret ?_)))
  rw[iY F ord h0]
 have hrt:r.toNat<ns.length:=by omega
 refine T.grd (by rw[bY,aH];left;omega) (T.grd (by rw[bY,cu];left;omega) (T.cnd (fun hc=>?_) (fun hc=>?_)))
 ·rw[bV,aG,dL,qM hrt]at hc
  have hin:r.toNat∈ord:=by
   rcases hc with q|q
   ·omega
   ·split at q
    ·assumption
    ·omega
  refine T.ret ?_
  rw[lW F ord hin]
 rw[bW,aD,dN,qM hrt]at hc
 have hni:r.toNat∉ord:=fun q=>by
  rw[if_pos q]at hc
  omega
 obtain⟨hkl,hk⟩:=hR r.toNat hrt
 have hun:=yI hR hF h0 hr hni
 have hso:=ho.snoc hrt hni
 have hOl:=zm ns ord
 have hlO:=aB (lK ns ord)
 have hrI:bnd r (aj ns)=true:=by rw[aH];omega
 have hrB:inB r.toNat ns=true:=by rw[cu];omega
 refine T.grd (by rw[aH];omega) (T.grd (by rw[cu];omega) (T.grd hrI (T.grd hrB (T.grd (by rw[bG,List.length_singleton];omega) ?_))))
 have eN:ns.getD r.toNat (0,[],[],())=ns.getD r.toNat zN:=rfl
 have eK:(ns.getD r.toNat zN).2.2.1=kids ns r.toNat:=rfl
 have e1:List.set (eu ns.length ord) r.toNat (aj (lK ns ord))=eu ns.length (ord++[r.toNat]):=by rw[hlO,hOl,yH hrt hni]
 rw[eN,<- CP,e1]
 have hK:=aB (kids ns r.toNat)
 refine T.loop (fun q=>∃ (i:Nat) (o:List Nat),i<=(kids ns r.toNat).length/\gU ns.length o/\((kids ns r.toNat).take i).foldl (aL ns F) (ord++[r.toNat])=o/\q=(r,(i:Int),g,v,lK ns o,eu ns.length o,ns,())) (fun q=>(kids ns r.toNat).length-q.2.1.toNat) ⟨0,_,by omega,hso,rfl,rfl⟩ ?_
 rintro _ ⟨i,o,hi,hoo,og,rfl⟩
 dsimp only
 rw[eN,eK,hK,bT]
 refine T.grd hrI (T.grd hrB (T.cnd (fun hc3=>?_) (fun hc3=>?_)))<;>simp only[aG,aD]at hc3
 ·have hil:i<(kids ns r.toNat).length:=by omega
  have ec:=getD_eq (kids ns r.toNat) i 0 hil
  rw[ec]
  obtain⟨k1,k2⟩:=hk _ (List.getElem_mem hil)
  have hlt2:rkI rk (kids ns r.toNat)[i]<rkI rk r:=by
   unfold rkI
   rw[if_neg (show ¬ r<0 by omega)]
   split
   ·omega
   ·rename_i q;have:=k2 (by omega);omega
  refine T.grd hrI (T.grd hrB (T.grd (by rw[aH];omega) (T.call (ih ((kids ns r.toNat)[i],o) ⟨k1,hoo⟩ hlt2) ?_)))
  rintro _ rfl
  dsimp only
  refine T.grd (by rw[eF];exact⟨by rw[iJ,iJ];exact Nat.beq_refl _,rfl⟩) (T.go ⟨i+1,_,by omega,(l9 hR F _ o k1 hoo).1,?_,by rw[aF (by omega) (by omega)];rfl⟩ (by dsimp only;rw[aF (by omega) (by omega)];omega))
  rw[List.take_succ_eq_append_getElem hil,List.foldl_append,og];rfl
 ·obtain rfl:i=(kids ns r.toNat).length:=by omega
  refine T.out ?_
  rw[List.take_length]at og
  rw[hun,og]
theorem Yd {ns:List DS1} {rk:Nat->Nat} (hR:lT ns rk) (hn:ns.length<=1000000) {F:Nat} (hF:∀ r,r < ns.length->rk r + 1<=F) (g:List (List Int)) (v:List Int) (r:Int) (hr:r < (ns.length:Int)) :
  T (Aq r g v (eu ns.length []) ns) (fun y=>y=(g,v,eu ns.length (aL ns F [] r),ns,lK ns (aL ns F [] r),())):=by
 have ho:gU ns.length []:=⟨List.nodup_nil,fun x hx=>by cases hx⟩
 unfold Aq
 have hN:=aB ns
 have hP:=aB (eu ns.length [])
 have hPl:=iJ ns.length []
 rcases Int.lt_or_le r 0 with h0|h0
 ·refine T.grd (by rw[bY,bF,fA,aG];exact .inr h0) (T.grd (by rw[bY,bF,fA,aG];exact .inr h0) (T.ct (by rw[bV,aG];exact .inl h0) (T.ret ?_)))
  rw[iY F [] h0];rfl
 have hrt:r.toNat<ns.length:=by omega
 refine T.grd (by rw[bY,aH];left;omega) (T.grd (by rw[bY,cu];left;omega) (T.cf ?_ ?_))
 ·rw[bW,aD,dN,qM hrt]
  exact⟨h0,by simp⟩
 have hni:r.toNat∉([]:List Nat):=fun q=>by cases q
 obtain⟨hkl,hk⟩:=hR r.toNat hrt
 have hun:=yI hR hF h0 hr hni
 have hso:=ho.snoc hrt hni
 have hrI:bnd r (aj ns)=true:=by rw[aH];omega
 have hrB:inB r.toNat ns=true:=by rw[cu];omega
 refine T.grd (by rw[aH];omega) (T.grd (by rw[cu];omega) (T.grd hrI (T.grd hrB (T.grd (by rw[bG,List.length_singleton];omega) ?_))))
 have eN:ns.getD r.toNat (0,[],[],())=ns.getD r.toNat zN:=rfl
 have eK:(ns.getD r.toNat zN).2.2.1=kids ns r.toNat:=rfl
 have e1:List.set (eu ns.length []) r.toNat 0=eu ns.length ([]++[r.toNat]):=by rw[<- yH hrt hni];rfl
 have e2:([ns.getD r.toNat zN]:List DS1)=lK ns ([]++[r.toNat]):=by rw[CP];rfl
 rw[eN,e2,e1]
 have hK:=aB (kids ns r.toNat)
 refine T.loop (fun q=>∃ (i:Nat) (o:List Nat),i<=(kids ns r.toNat).length/\gU ns.length o/\((kids ns r.toNat).take i).foldl (aL ns F) ([]++[r.toNat])=o/\q=(r,(i:Int),g,v,eu ns.length o,ns,lK ns o,())) (fun q=>(kids ns r.toNat).length-q.2.1.toNat) ⟨0,_,by omega,hso,rfl,rfl⟩ ?_
 rintro _ ⟨i,o,hi,hoo,og,rfl⟩
 dsimp only
 rw[eN,eK,hK,bT]
 refine T.grd hrI (T.grd hrB (T.cnd (fun hc3=>?_) (fun hc3=>?_)))<;>simp only[aG,aD]at hc3
 ·have hil:i<(kids ns r.toNat).length:=by omega
  have ec:=getD_eq (kids ns r.toNat) i 0 hil
  rw[ec]
  obtain⟨k1,k2⟩:=hk _ (List.getElem_mem hil)
  refine T.grd hrI (T.grd hrB (T.grd (by rw[aH];omega) (T.call (Ye hR hn hF g v (kids ns r.toNat)[i] o k1 hoo) ?_)))
  rintro _ rfl
  dsimp only
  refine T.grd (by rw[eF];exact⟨by rw[iJ,iJ];exact Nat.beq_refl _,rfl⟩) (T.go ⟨i+1,_,by omega,(l9 hR F _ o k1 hoo).1,?_,by rw[aF (by omega) (by omega)];rfl⟩ (by dsimp only;rw[aF (by omega) (by omega)];omega))
  rw[List.take_succ_eq_append_getElem hil,List.foldl_append,og];rfl
 ·obtain rfl:i=(kids ns r.toNat).length:=by omega
  refine T.out ?_
  rw[List.take_length]at og
  rw[hun,og]
theorem Wo {dm:List DS3} {lo:Int} (hd:dI dm) (hlo:-256<=lo) (hlo0:lo<=0) {g:List (List Int)} (hg:GOk dm g) (hgl:∀ r ∈ g,r.length<=1000000) (hP:d9 g<=500000) {v:List Int} (hv:∀ x ∈ v,0<=x/\lo<=-1 - x) (hvl:v.length=d9 g) :
  T (Ap 0 0 (aj v) g v) (fun y=>∃ t,y=(y.1,g,v,t,())/\jC dm lo t/\Rf t lo 0 y.1/\t.length+1<=d9 g):=by
 unfold Ap
 have hG:=aB g
 have hV:=aB v
 have hd1:=hd.1
 have hd2:=hd.2.1
 have hgd:=hg.1
 have hil:0<g.length:=by omega
 have hrow:=hg.row hil
 have hrp:=hrow.pos
 have hpd:=wJ g 0 hil
 rw[List.drop_zero,Nat.zero_add]at hpd
 have KP:qD .i64 (aj v) (g[0].length:Int)=(d9 (g.drop 1):Int):=by
  unfold qD
  rw[hV,hvl,hpd,Int.tdiv_eq_ediv_of_nonneg (by omega)]
  have:((g[0].length*d9 (g.drop 1):Nat):Int)/(g[0].length:Int)=(d9 (g.drop 1):Int):=by
   rw[<- Int.natCast_ediv,Nat.mul_div_cancel_left _ (by omega)]
  rw[this]
  have h1:d9 (g.drop 1)<=d9 g:=by
   rw[hpd]
   have:1*d9 (g.drop 1)<=g[0].length*d9 (g.drop 1):=Nat.mul_le_mul hrp (Nat.le_refl _)
   omega
  rw[wrap64]<;>omega
 have hgi:=hgl _ (List.getElem_mem hil)
 have hR:=aB g[0]
 have e00:atI g 0 []=g[0]:=getD_eq g 0 [] hil
 rw[e00,hR,KP,hG]
 have a4f:d9 (g.drop (0+1))=d9 (g.drop 1):=rfl
 generalize hpt:d9 (g.drop 1)=part at hpd
 refine T.cf (by rw[bn];omega) (T.grd (by rw[aH];omega) (T.grd (by rw[dx];omega) ?_))
 refine T.loop (fun q=>∃ (k:Nat) (t:List DS1) (nx:List Int),k<=g[0].length/\nx.length=k/\jC dm lo t/\(∀ c∈nx,Rf t lo 1 c)/\t.length+k<=k*part/\q=(0,0,(part:Int),(k:Int),g,v,nx,t,())) (fun q=>g[0].length-q.2.2.2.1.toNat) ⟨0,[],[],by omega,rfl,jC.nil dm lo,fun c hc=>(by cases hc),by simp,rfl⟩ ?_
 rintro _ ⟨k,t,nx,hk,hnx,hNt,hrf,htl,rfl⟩
 dsimp only
 rw[hG,e00,hR]
 refine T.grd (by rw[aH];omega) (T.cnd (fun hc2=>?_) (fun hc2=>?_))<;>simp only[aG,aD]at hc2
 ·have hkl:k<g[0].length:=by omega
  have hkp:(k+1)*part<=g[0].length*part:=Nat.mul_le_mul hkl (Nat.le_refl _)
  rw[Nat.add_mul,Nat.one_mul]at hkp
  have e1:aM .i64 0 1=((0+1:Nat):Int):=by rw[aF (by omega) (by omega)];rfl
  have ekp:(k:Int)*(part:Int)=((k*part:Nat):Int):=by push_cast;rfl
  have e2:aM .i64 0 (wX .i64 (k:Int) (part:Int))=((k*part:Nat):Int):=by
   rw[fK (by omega) (by omega),ekp,aF (by omega) (by omega)];omega
  rw[e1,e2]
  have hcall:=Wn hd hlo hlo0 hg hgl (by omega) hv (by omega) 1 (k*part) t (by omega) (by rw[hpt];omega) hNt (by rw[hpt];omega)
  rw[hpt]at hcall
  refine T.call hcall ?_
  rintro⟨r,q1,q2,q3,⟨⟩⟩ ⟨t2,heq,hN2,hr2,ht2⟩
  obtain⟨rfl,rfl,rfl⟩:g=q1/\v=q2/\t++t2=q3:=by
   simp only[Prod.mk.injEq]at heq
   exact⟨heq.2.1.symm,heq.2.2.1.symm,heq.2.2.2.1.symm⟩
  dsimp only at hr2 ⊢
  refine T.grd (by rw[bG,List.length_singleton];omega) (T.go ⟨k+1,t++t2,nx++[r],by omega,by rw[List.length_append,List.length_singleton,hnx],hN2,fun c hc=>?_,?_,by rw[aF (by omega) (by omega)];rfl⟩ (by dsimp only;rw[aF (by omega) (by omega)];omega))
  ·rcases List.mem_append.1 hc with q|q
   ·exact (hrf c q).app t2
   ·obtain rfl:=List.mem_singleton.1 q;exact hr2
  ·rw[List.length_append,Nat.add_mul,Nat.one_mul];omega
 ·obtain rfl:k=g[0].length:=by omega
  refine T.kX (T.grd (by rw[aH];omega) (T.call (MB (i:=0) hd hlo hlo0 (by omega) (cuts:=g[0]) (next:=nx) (ns:=t) hrow (by omega) hgi hrf hNt (by omega) g v) ?_))
  rintro⟨r,q1,q2,q3,q4,⟨⟩⟩ ⟨t2,heq,hN2,hr2,ht2,ht3⟩
  obtain⟨rfl,rfl,rfl,rfl⟩:g=q1/\v=q2/\nx=q3/\t++t2=q4:=by
   simp only[Prod.mk.injEq]at heq
   exact⟨heq.2.1.symm,heq.2.2.1.symm,heq.2.2.2.1.symm,heq.2.2.2.2.1.symm⟩
  dsimp only at hr2 ⊢
  refine T.grd (by rw[eF];exact⟨Nat.beq_refl _,rfl⟩) (T.ret ⟨t++t2,rfl,hN2,hr2,?_⟩)
  rw[List.length_append,hpd]
  have hlx:g[0].length=nx.length:=hnx.symm
  rw[hlx]at htl ⊢
  rw[hlx]at hrp
  by_cases h1:nx.length=1
  ·rw[ht3 h1,List.length_nil];omega
  ·omega
theorem CK {n:Nat} {O:List Nat} {c:Int} (h:c<(n:Int)) (h0:0<=c) (hm:c.toNat∈O):(eu n O).getD c.toNat 0=aY O c:=by
 rw[qM (by omega),if_pos hm];unfold aY;rw[if_neg (by omega)]
theorem WH {dm:List DS3} {lo:Int} (hd:dI dm) (hlo:-256<=lo) (hlo0:lo<=0) {g:List (List Int)} (hg:GOk dm g) (hgl:∀ r ∈ g,r.length<=1000000) (hP:d9 g<=1000) {v:List Int} (hv:∀ x ∈ v,0<=x/\lo<=-1 - x) (hvl:v.length=d9 g) :
  T (m48 g v) (fun y=>VD dm y.1.1 y.1.2.1/\(∀ x∈y.1.1,∀ c∈x.2.2.1,lo<=c)/\lo<=y.1.2.1/\y.2.1=0):=by
 unfold m48
 refine T.call (Wo hd hlo hlo0 hg hgl (by omega) hv hvl) ?_
 rintro⟨root,q1,q2,ns,⟨⟩⟩ ⟨t,heq,hN,hr,ht⟩
 obtain⟨rfl,rfl,rfl⟩:g=q1/\v=q2/\t=ns:=by
  simp only[Prod.mk.injEq]at heq
  exact⟨heq.2.1.symm,heq.2.2.1.symm,heq.2.2.2.1.symm⟩
 dsimp only at hr ⊢
 have hN':=aB t
 have hs:=hN.1
 obtain⟨hR,hF⟩:=iR hd hs
 have hfin:=Md hd hN hlo hlo0 hr.2.1 hr.1 (by omega)
 have h0:gU t.length []:=⟨List.nodup_nil,fun x hx=>by cases hx⟩
 have hO:=(l9 hR 8 root [] hr.2.1 h0).1
 have hr8:rkI (rkA t) root<=8:=by
  unfold rkI
  split
  ·omega
  ·exact hF _ (by have:=hr.2.1;omega)
 obtain⟨hcr,hcl0⟩:=mJ hR 8 8 root [] hr8 (Nat.le_refl _) hr.2.1 h0
 rw[hN']
 refine T.cf (by rw[aD];omega) (T.grd (by rw[dM];omega) ?_)
 rw[Int.toNat_natCast]
 refine T.loop (fun q=>∃ (i:Nat) (p:List Int),i<=t.length/\p.length=t.length/\(∀ j,j<i->p.getD j 0=-1)/\q=(root,(i:Int),0,g,v,p,t,())) (fun q=>t.length-q.2.1.toNat) ⟨0,_,by omega,by simp,fun j hj=>by omega,rfl⟩ ?_
 rintro _ ⟨i,p,hi,hp,hpg,rfl⟩
 dsimp only
 have hpI:=aB p
 rw[hpI,Int.toNat_natCast]
 refine T.cnd (fun hc2=>?_) (fun hc2=>?_)<;>simp only[aG,aD]at hc2
 ·refine T.grd (by rw[aH];omega) (T.grd (by rw[cu];omega) (T.go ⟨i+1,p.set i (-1),by omega,by rw[List.length_set];exact hp,fun j hj=>?_,by rw[aF (by omega) (by omega)];rfl⟩ (by dsimp only;rw[aF (by omega) (by omega)];omega)))
  rw[nu p i j _ _ (by omega)]
  split
  ·rfl
  ·exact hpg j (by omega)
 obtain rfl:i=t.length:=by omega
 obtain rfl:p=eu t.length []:=by
  rw[K6]
  apply List.ext_getElem (by simp[hp])
  intro j h1 h2
  have:=hpg j (by omega)
  rw[getD_eq _ _ _ h1]at this
  rw[this];simp
 refine T.kX (T.call (Yd hR (by omega) hF g v root hr.2.1) ?_)
 rintro _ rfl
 dsimp only
 generalize hOe:aL t 8 [] root=O at hfin hO hcr hcl0
 have hcl:∀ r∈O,∀ k∈kids t r,0<=k->k.toNat∈O:=fun r hr=>hcl0 r hr (fun q=>by cases q)
 have hOl:=hO.len
 have hPl:=iJ t.length O
 have hPI:=aB (eu t.length O)
 refine T.grd (by rw[eF];exact⟨by rw[iJ,iJ];exact Nat.beq_refl _,rfl⟩) ?_
 refine T.loop (fun q=>∃ (i:Nat) (o:List DS1),i<=O.length/\o.length=O.length/\(∀ j (hj:j<O.length),o.getD j zN=if j<i then imN t O O[j] else t.getD O[j] zN)/\q=(root,(i:Int),0,eu t.length O,o,())) (fun q=>O.length-q.2.1.toNat) ⟨0,lK t O,by omega,zm t O,fun j hj=>?_,rfl⟩ ?_
 ·rw[if_neg (by omega),getD_eq _ _ _ (by rw[zm];exact hj)];simp[lK]
 rintro _ ⟨i,o,hi,hol,hog,rfl⟩
 dsimp only
 have hoI:=aB o
 rw[hoI]
 refine T.cnd (fun hc2=>?_) (fun hc2=>?_)<;>simp only[aG,aD]at hc2
 ·have hil:i<O.length:=by omega
  have hoi:=hog i hil
  rw[if_neg (by omega)]at hoi
  have hrm:=List.getElem_mem hil
  have hrn:=hO.2 _ hrm
  obtain⟨hkl,hk⟩:=hR _ hrn
  have hK:=aB (kids t O[i])
  have eo:o.getD i (0,[],[],())=t.getD O[i] zN:=hoi
  have eK:(t.getD O[i] zN).2.2.1=kids t O[i]:=rfl
  have b1:bnd (i:Int) (o.length:Int)=true:=by rw[aH];omega
  have b2:inB i o=true:=by rw[cu];omega
  refine T.loop (fun q=>∃ k:Nat,k<=(kids t O[i]).length/\q=(root,(i:Int),(k:Int),0,eu t.length O,o,((kids t O[i]).take k).map (aY O),())) (fun q=>(kids t O[i]).length-q.2.2.1.toNat) ⟨0,by omega,rfl⟩ ?_
  rintro _ ⟨k,hkk,rfl⟩
  dsimp only
  rw[hoI,Int.toNat_natCast,eo,eK,hK,bT,hPI]
  refine T.grd b1 (T.grd b2 (T.cnd (fun hc3=>?_) (fun hc3=>?_)))<;>simp only[aG,aD]at hc3
  ·have KA:k<(kids t O[i]).length:=by omega
   rw[getD_eq _ _ _ KA]
   have hkm:=List.getElem_mem KA
   obtain⟨k1,_⟩:=hk _ hkm
   have hcm:=hcl _ hrm _ hkm
   have etk:((kids t O[i]).take (k+1)).map (aY O)=((kids t O[i]).take k).map (aY O)++[aY O (kids t O[i])[k]]:=by
    rw[List.take_succ_eq_append_getElem KA,List.map_append];rfl
   have nxt:T (cond (fits (List.length (((kids t O[i]).take k).map (aY O)) + List.length ([aY O (kids t O[i])[k]]:List Int)) 8) (some (Sum.inl (β:=(Int × Int × Int × (List Int) × (List DS1) × Unit) ⊕ (DS2 × Int × Unit)) (root,(i:Int),aM .i64 (k:Int) 1,(0:Int),eu t.length O,o,((kids t O[i]).take k).map (aY O) ++ ([aY O (kids t O[i])[k]]:List Int),()))) none)
     (LQ (fun q=>∃ k:Nat,k<=(kids t O[i]).length/\q=(root,(i:Int),(k:Int),0,eu t.length O,o,((kids t O[i]).take k).map (aY O),())) (fun q=>(kids t O[i]).length-q.2.2.1.toNat) ((kids t O[i]).length-(k:Int).toNat)
      (LQ (fun q=>∃ (i:Nat) (o:List DS1),i<=O.length/\o.length=O.length/\(∀ j (hj:j<O.length),o.getD j zN=if j<i then imN t O O[j] else t.getD O[j] zN)/\q=(root,(i:Int),0,eu t.length O,o,())) (fun q=>O.length-q.2.1.toNat) (O.length-(i:Int).toNat) (fun y=>VD dm y.1.1 y.1.2.1/\(∀ x∈y.1.1,∀ c∈x.2.2.1,lo<=c)/\lo<=y.1.2.1/\y.2.1=0))):=by
    refine T.grd (by rw[bG,List.length_map,List.length_take,List.length_singleton];omega) (T.go ⟨k+1,by omega,?_⟩ (by dsimp only;rw[aF (by omega) (by omega)];omega))
    rw[etk,aF (by omega) (by omega)];rfl
   refine T.grd b1 (T.grd b2 (T.grd (by rw[aH];omega) (T.cnd (fun hc4=>?_) (fun hc4=>?_))))<;>simp only[dL,dN]at hc4
   ·rw[CK k1 hc4 (hcm hc4)]
    exact T.grd (by rw[aH];omega) (T.grd (by rw[cu];omega) nxt)
   ·have er:aY O (kids t O[i])[k]=(kids t O[i])[k]:=by unfold aY;rw[if_pos hc4]
    rw[er]at nxt
    exact nxt
  ·obtain rfl:k=(kids t O[i]).length:=by omega
   rw[List.take_length]
   refine T.kX (T.grd b1 (T.grd b2 (T.grd b1 (T.grd b2 (T.grd b1 (T.grd b2 (T.ret (show LQ _ _ _ _ (Sum.inl _) from ⟨⟨i+1,o.set i (imN t O O[i]),by omega,by rw[List.length_set];exact hol,fun j hj=>?_,by rw[aF (by omega) (by omega)];rfl⟩,by dsimp only;rw[aF (by omega) (by omega)];omega⟩))))))))
   rw[nu o i j _ _ (by omega)]
   by_cases e:i=j
   ·subst e;rw[if_pos rfl,if_pos (by omega)]
   ·rw[if_neg e,hog j hj]
    by_cases q:j<i
    ·rw[if_pos q,if_pos (by omega)]
    ·rw[if_neg q,if_neg (by omega)]
 ·obtain rfl:i=O.length:=by omega
  obtain rfl:o=gX t O:=by
   apply List.ext_getElem (by rw[hol,iW])
   intro j h1 h2
   have hj:j<O.length:=by rw[<- hol];exact h1
   have:=hog j hj
   rw[if_pos hj,getD_eq _ _ _ h1]at this
   rw[this];simp[gX]
  rw[hPI]
  refine T.kX (T.cnd (fun hc3=>?_) (fun hc3=>?_))<;>simp only[dL,dN]at hc3
  ·have hrl:=hr.2.1
   refine T.grd (by rw[aH];omega) (T.grd (by rw[cu];omega) (T.ret ?_))
   dsimp only
   rw[CK hrl hc3 (hcr hc3)]
   exact⟨hfin.1,hfin.2.1,hfin.2.2,rfl⟩
  ·refine T.ret ?_
   have er:aY O root=root:=by unfold aY;rw[if_pos hc3]
   rw[er]at hfin
   exact⟨hfin.1,hfin.2.1,hfin.2.2,rfl⟩
theorem LC {l:List DS0} {f:List Int} (h:wz l f=true):f.length=l.length:=by
 unfold wz at h
 rw[Bool.and_eq_true,Bool.and_eq_true]at h
 exact of_decide_eq_true h.1.2
theorem MS (l:List DS0) (hv:gy l=0) (values:Int) (h1:1<=values) (h2:values<=256) {L:List Int} {a:Int} (hk:jq L a) :
  T (m18 (l,()) values L a) (fun y=>VD (doms l) y.1 y.2.1/\(∀ x∈y.1,∀ c∈x.2.2.1,-values<=c)/\-values<=y.2.1/\jq y.2.2.1 y.2.2.2.1):=by
 unfold m18
 have hd:=nM hv
 have vo:=val_ok hv
 have hL:=aB l
 have hdl:=lS l
 refine T.aX (OG l hv) (T.call (uD hk (by omega) (by omega)) ?_)
 rintro⟨k0,K,a0,⟨⟩⟩ ⟨n1,n2,n3⟩
 dsimp only at n1 n2 n3 ⊢
 obtain⟨g1,g2⟩:=LM hd
 refine T.loop (fun q=>∃ (g:List (List Int)) (k:Nat) (K:List Int) (a:Int),GOk (doms l) g/\excess g+k<=4/\jq K a/\q=(values,g,(k:Int),K,a,l,0,())) (fun q=>q.2.2.1.toNat) ⟨_,k0.toNat,K,a0,g1,by omega,n1,by rw[show ((k0.toNat:Nat):Int)=k0 by omega]⟩ ?_
 rintro _ ⟨g,k,K,a,hg,hek,hK,rfl⟩
 dsimp only
 rw[hL]
 have hgd:=hg.1
 have hgl:∀ r∈g,r.length<=1000000:=fun r hr=>by have:=K3 g r hr;omega
 refine T.cnd (fun hc=>?_) (fun hc=>?_)<;>simp only[aG,aD]at hc
 ·refine T.call (uD hK (by omega) (by omega)) ?_
  rintro⟨i,K1,a1,⟨⟩⟩ ⟨m1,m2,m3⟩
  dsimp only at m1 m2 m3 ⊢
  refine T.call (VB l hv m1) ?_
  rintro⟨K2,a2,f,⟨⟩⟩ ⟨f1,f2⟩
  dsimp only at f1 f2 ⊢
  have hfl:=LC f2
  have hfI:=aB f
  refine T.grd (by rw[aH];omega) (T.grd (by rw[cu];omega) ?_)
  have ei:i=(i.toNat:Int):=by omega
  have hil:i.toNat<l.length:=by omega
  have hcm:=a18 l hv g (by omega) (fun r hr=>by have:=hgl r hr;omega) i.toNat hil (f.getD i.toNat 0)
  rw[<- ei]at hcm
  refine T.aX hcm ?_
  obtain⟨c1,c2⟩:=Zh hg (i:=i.toNat) (by omega) (f.getD i.toNat 0)
  refine T.go ⟨_,k-1,K2,a2,c1,by omega,f1,?_⟩ (by dsimp only;rw[bS (by omega) (by omega)];omega)
  rw[bS (by omega) (by omega),show ((k-1:Nat):Int)=(k:Int)-1 by omega]
 ·obtain rfl:k=0:=by omega
  refine T.kX ?_
  have hp:d9 g<=16:=by
   refine Nat.le_trans (UA g) ?_
   have:excess g<=4:=by omega
   exact Nat.le_trans (Nat.pow_le_pow_right (by omega) this) (by decide)
  have hpos:∀ r∈g,1<=r.length:=fun r hr=>by
   obtain⟨j,hj,rfl⟩:=List.getElem_of_mem hr
   exact (hg.row hj).pos
  refine T.aX (Wi g (by have:=hd.2.1;omega) hpos (by omega)) ?_
  dsimp only
  refine T.loop (fun q=>∃ (k:Nat) (v K:List Int) (a:Int),v.length+k=d9 g/\(∀ x∈v,0<=x/\x<values)/\jq K a/\q=(values,g,(k:Int),K,a,0,v,())) (fun q=>q.2.2.1.toNat) ⟨d9 g,[],K,a,by simp,fun x hx=>(by cases hx),hK,rfl⟩ ?_
  rintro _ ⟨k,v,K,a,hvk,hvx,hK,rfl⟩
  dsimp only
  refine T.cnd (fun hc2=>?_) (fun hc2=>?_)<;>simp only[aG,aD]at hc2
  ·refine T.call (uD hK (by omega) (by omega)) ?_
   rintro⟨x,K1,a1,⟨⟩⟩ ⟨m1,m2,m3⟩
   dsimp only at m1 m2 m3 ⊢
   refine T.grd (by rw[bG,List.length_singleton];omega) (T.go ⟨k-1,v++[x],K1,a1,by rw[List.length_append,List.length_singleton];omega,fun y hy=>?_,m1,?_⟩ (by dsimp only;rw[bS (by omega) (by omega)];omega))
   ·rcases List.mem_append.1 hy with q|q
    ·exact hvx y q
    ·obtain rfl:=List.mem_singleton.1 q;exact⟨m2,m3⟩
   ·rw[bS (by omega) (by omega),show ((k-1:Nat):Int)=(k:Int)-1 by omega]
  ·obtain rfl:k=0:=by omega
   refine T.kX (T.call (WH (lo:=-values) hd (by omega) (by omega) hg hgl (by omega) (fun x hx=>by have:=hvx x hx;omega) (by omega)) ?_)
   intro y ⟨y1,y2,y3,y4⟩
   exact T.ret ⟨y1,y2,y3,hK⟩
def SzB (ns:List DS1):Prop:=ns.length<=1002/\∀ x∈ns,x.2.1.length<=2000000003/\x.2.2.1.length<=2000000003
theorem SzB.n {ns:List DS1} (h:SzB ns):SzN ns:=⟨by have:=h.1;omega,fun x hx=>by have:=h.2 x hx;omega⟩
theorem SzB.set {ns:List DS1} (h:SzB ns) (k:Nat) {x:DS1} (hx:x.2.1.length<=2000000003/\x.2.2.1.length<=2000000003):SzB (ns.set k x):=by
 refine⟨by rw[List.length_set];exact h.1,fun y hy=>?_⟩
 rcases List.mem_or_eq_of_mem_set hy with q|q
 ·exact h.2 y q
 ·rw[q];exact hx
theorem VD.sz {dm:List DS3} {ns:List DS1} {root:Int} (hd:dI dm) (h:VD dm ns root):(∀ x∈ns,1<=x.2.1.length/\x.2.1.length<=2000000001/\1<=x.2.2.1.length/\x.2.2.1.length<=2000000001)/\SzN ns:=by
 have key:∀ x∈ns,1<=x.2.1.length/\x.2.1.length<=2000000001/\1<=x.2.2.1.length/\x.2.2.1.length<=2000000001:=fun x hx=>by
  obtain⟨i,hi,rfl⟩:=List.getElem_of_mem hx
  have hs:=h.2.2.1 i hi
  rw[getD_eq _ _ _ hi]at hs
  have hl:=hs.len hd
  have h3:=hs.2.2.1
  have h4:=hs.2.2.2.1
  omega
 exact⟨key,by have:=h.1;omega,fun x hx=>by have:=key x hx;omega⟩
theorem VU {L:List Int} (h:OkT (.list (.int .i64)) L):jq L 0:=⟨fun x hx=>Mt ((Iw (e:=.int .i64) h).2 x hx),(Iw (e:=.int .i64) h).1,by omega⟩
def Sub (g g':List (List Int)):Prop:=g.length=g'.length/\∀ a,(∀ x∈g.getD a [],x∈g'.getD a [])/\(g.getD a []).length<=(g'.getD a []).length
theorem Sub.refl (g:List (List Int)):Sub g g:=⟨rfl,fun a=>⟨fun x h=>h,Nat.le_refl _⟩⟩
theorem Sub.trans {a b c:List (List Int)} (h:Sub a b) (h':Sub b c):Sub a c:=⟨h.1.trans h'.1,fun i=>⟨fun x q=>(h'.2 i).1 x ((h.2 i).1 x q),Nat.le_trans (h.2 i).2 (h'.2 i).2⟩⟩
theorem Ph {lo hi:Int} {r:List Int} (h:oC lo hi r):∀ k,k<r.length->lo+k<=r.getD k 0:=by
 intro k
 induction k with
 |zero=>intro _;rw[(Xw h).1];omega
 |succ k ih=>intro hk;have:=(wI h (k+1) (by omega) hk).2.2;rw[Nat.add_sub_cancel]at this;have:=ih (by omega);omega
theorem Uv {lo hi:Int} {r:List Int} (h:oC lo hi r):(r.length:Int)<=hi-lo+1\/r.length=1:=by
 have hp:=h.pos
 rcases Nat.lt_or_ge 1 r.length with q|q
 ·have h1:=Ph h (r.length-1) (by omega)
  have h2:=(wI h (r.length-1) (by omega) (by omega)).2.1
  left;omega
 ·right;omega
theorem GOk.len {dm:List DS3} (hd:dI dm) {g:List (List Int)} (hg:GOk dm g):∀ r∈g,1<=r.length/\r.length<=2000000001:=by
 intro r hr
 obtain⟨i,hi,rfl⟩:=List.getElem_of_mem hr
 have h1:=hg.row hi
 have h2:=Uv h1
 have h3:=hd.at (i:=i) (by rw[<- hg.1];exact hi)
 have h4:=h1.pos
 omega
end Abs
end Go.Proofs.YtgfnhpadmifiiaaDoor
section
namespace Go.Proofs.YtgfnhpadmifiiaaDoor
namespace Abs
theorem fD (ns:List DS1) (f:Nat) {r:Int} (h:r<0) (fs:List Int):vlF ns f r fs=-1-r:=by
 cases f with
 |zero=>rfl
 |succ f=>simp only[vlF];rw[if_pos h]
theorem iU (ns:List DS1) (f:Nat) {r:Int} (h:0<=r) (fs:List Int):vlF ns (f+1) r fs=vlF ns f ((kids ns r.toNat).getD (brK (ns.getD r.toNat zN).2.1 (fs.getD (ns.getD r.toNat zN).1.toNat 0)) 0) fs:=by
 simp only[vlF];rw[if_neg (by omega)]
section
variable {dm:List DS3} {ns:List DS1}
theorem nZ (hs:dY dm ns) {r:Nat} (hr:r<ns.length) (v:Int):brK (ns.getD r zN).2.1 v<(kids ns r).length:=by
 have:=oq (ns.getD r zN).2.1 v
 have h4:=(hs r hr).2.2.2.1
 have:(kids ns r).length=(ns.getD r zN).2.1.length+1:=h4
 omega
theorem iK (hs:dY dm ns) {r:Nat} (hr:r<ns.length) {k:Nat} (hk:k<(kids ns r).length):fJ ns.length ((kids ns r).getD k 0):=((hs r hr).2.2.2.2.2 k hk).1
theorem wV (hd:dI dm) (hs:dY dm ns) {r:Nat} (hr:r<ns.length) {k:Nat} (hk:k<(kids ns r).length):rkI (rkA ns) ((kids ns r).getD k 0)<=rkA ns r:=by
 have hk2:=((iR hd hs).1 r hr).2 _ (List.getElem_mem hk)
 rw[getD_eq _ _ _ hk]
 unfold rkI
 split
 ·omega
 ·exact hk2.2 (by omega)
theorem JG (hd:dI dm) (hs:dY dm ns):∀ (m f f':Nat) (r:Int) (fs:List Int),rkI (rkA ns) r<=m->m<=f->m<=f'->r<(ns.length:Int)->vlF ns f r fs=vlF ns f' r fs:=by
 intro m
 induction m with
 |zero =>
  intro f f' r fs h _ _ _
  have:r<0:=by unfold rkI at h;split at h;assumption;omega
  rw[fD ns f this,fD ns f' this]
 |succ m ih =>
  intro f f' r fs h h1 h2 hr
  rcases Int.lt_or_le r 0 with q|q
  ·rw[fD ns f q,fD ns f' q]
  obtain⟨g,rfl⟩:∃ g,f=g+1:=⟨f-1,by omega⟩
  obtain⟨g',rfl⟩:∃ g',f'=g'+1:=⟨f'-1,by omega⟩
  rw[iU ns g q,iU ns g' q]
  have hrt:r.toNat<ns.length:=by omega
  have hk:=nZ hs hrt (fs.getD (ns.getD r.toNat zN).1.toNat 0)
  unfold rkI at h
  rw[if_neg (by omega)]at h
  exact ih g g' _ fs (Nat.le_trans (wV hd hs hrt hk) (by omega)) (by omega) (by omega) (iK hs hrt hk).2
end
theorem mR {dm:List DS3} {ns:List DS1} {x:DS1} (h:jo dm ns x):x.2.1.Pairwise (·<·):=by
 rw[List.pairwise_iff_getElem]
 have key:∀ d i,i+d+1<x.2.1.length->x.2.1.getD i 0<x.2.1.getD (i+d+1) 0:=by
  intro d
  induction d with
  |zero=>intro i hi;have:=(h.2.2.2.2.1 (i+1) (by omega)).2.2 (by omega);rwa [Nat.add_sub_cancel]at this
  |succ d ih =>
   intro i hi
   have h1:=ih i (by omega)
   have h2:=(h.2.2.2.2.1 (i+d+1+1) (by omega)).2.2 (by omega)
   rw[Nat.add_sub_cancel]at h2
   have:i+(d+1)+1=i+d+1+1:=by omega
   rw[this];omega
 intro i j hi hj hij
 have:=key (j-i-1) i (by omega)
 rw[show i+(j-i-1)+1=j by omega,getD_eq _ _ _ hi,getD_eq _ _ _ hj]at this
 exact this
end Abs
end Go.Proofs.YtgfnhpadmifiiaaDoor
end
namespace Go.Proofs.YtgfnhpadmifiiaaDoor
namespace Abs
end Abs
end Go.Proofs.YtgfnhpadmifiiaaDoor
section
namespace Go.Proofs.YtgfnhpadmifiiaaDoor
namespace Abs
theorem NP:∀ (cs:List Int) (v:Int) (j:Nat),j<cs.length->v<cs.getD j 0->brK cs v<=j:=by
 intro cs
 induction cs with
 |nil=>intro v j h;cases h
 |cons c cs ih =>
  intro v j hj hv
  simp only[brK]
  split
  ·cases j with
   |zero=>simp at hv;omega
   |succ j=>have:=ih v j (by simpa using hj) (by simpa using hv);omega
  ·omega
theorem GK:∀ (cs:List Int) (v:Int) (j:Nat),j<brK cs v->cs.getD j 0<=v:=by
 intro cs
 induction cs with
 |nil=>intro v j h;cases h
 |cons c cs ih =>
  intro v j h
  simp only[brK]at h
  split at h
  ·cases j with
   |zero=>simpa
   |succ j=>have:=ih v j (by omega);simpa using this
  ·omega
section
variable {dm:List DS3} {ns:List DS1} {leaf:Int}
end
end Abs
end Go.Proofs.YtgfnhpadmifiiaaDoor
end
namespace Go.Proofs.YtgfnhpadmifiiaaDoor
namespace Abs
end Abs
end Go.Proofs.YtgfnhpadmifiiaaDoor
section
namespace Go.Proofs.YtgfnhpadmifiiaaDoor
namespace Abs
theorem zf (ns:List DS1) (O:List Nat) {j:Nat} (h:j<O.length):(gX ns O)[j]'(by rw[iW];exact h)=imN ns O O[j]:=by simp[gX]
def FOk (dm:List DS3) (fs:List Int):Prop:=fs.length=dm.length/\∀ i,i<dm.length->(dm.getD i zS).1<=fs.getD i 0/\fs.getD i 0<=(dm.getD i zS).2.1
def Red (dm:List DS3) (ns:List DS1):Prop:=dY dm ns/\∀ i,i<ns.length->∀ k,k<i->ns.getD k zN≠ns.getD i zN
theorem FOk.set {dm:List DS3} {fs:List Int} (h:FOk dm fs) {i:Nat} (hi:i<dm.length) {v:Int} (h1:(dm.getD i zS).1<=v) (h2:v<=(dm.getD i zS).2.1):FOk dm (fs.set i v):=by
 refine⟨by rw[List.length_set];exact h.1,fun j hj=>?_⟩
 rw[nu fs i j _ _ (by rw[h.1];exact hi)]
 split
 ·rename_i e;subst e;exact⟨h1,h2⟩
 ·exact h.2 j hj
theorem FOk.low {dm:List DS3} (hd:dI dm):FOk dm (dm.map fun d=>d.1):=by
 refine⟨by simp,fun i hi=>?_⟩
 have e:(dm.map fun d=>d.1).getD i 0=(dm.getD i zS).1:=by rw[getD_eq _ _ _ (by simpa using hi),List.getElem_map,getD_eq _ _ _ hi]
 have:=hd.at hi
 omega
theorem QK (cs:List Int) (c:Int) (h:c∉cs):brK cs c=brK cs (c-1):=by
 induction cs with
 |nil=>rfl
 |cons a cs ih =>
  simp only[List.mem_cons,not_or]at h
  simp only[brK]
  rw[ih h.2]
  by_cases q:a<=c
  ·rw[if_pos q,if_pos (by omega)]
  ·rw[if_neg q,if_neg (by omega)]
theorem vV {cs:List Int} (h:cs.Pairwise (·<·)) {k:Nat} (hk:k<cs.length):brK cs (cs.getD k 0)=k+1/\brK cs (cs.getD k 0-1)=k:=by
 have hp:=List.pairwise_iff_getElem.1 h
 have e:=getD_eq cs k 0 hk
 constructor
 ·refine xw _ _ _ (by omega) (fun j hj=>?_) ?_
  ·rw[getD_eq cs j 0 (by omega),e]
   rcases Nat.lt_or_ge j k with q|q
   ·exact Int.le_of_lt (hp j k (by omega) hk q)
   ·obtain rfl:j=k:=by omega
    exact Int.le_refl _
  ·rcases Nat.lt_or_ge (k+1) cs.length with q|q
   ·right;rw[getD_eq cs (k+1) 0 q,e];exact hp k (k+1) hk q (by omega)
   ·left;omega
 ·refine xw _ _ _ (by omega) (fun j hj=>?_) (.inr (by omega))
  rw[getD_eq cs j 0 (by omega),e]
  have:=hp j k (by omega) hk hj
  omega
theorem JL:∀ {a b:List Int},a.Pairwise (·<·)->b.Pairwise (·<·)->(∀ x,x∈a↔x∈b)->a=b:=by
 intro a
 induction a with
 |nil =>
  intro b _ _ h
  cases b with
  |nil=>rfl
  |cons y b=>exact absurd ((h y).2 (by simp)) (by simp)
 |cons x a ih =>
  intro b ha hb h
  cases b with
  |nil=>exact absurd ((h x).1 (by simp)) (by simp)
  |cons y b =>
   have ha':=List.pairwise_cons.1 ha
   have hb':=List.pairwise_cons.1 hb
   have hxy:x=y:=by
    rcases List.mem_cons.1 ((h x).1 (by simp)) with q|q
    ·exact q
    ·rcases List.mem_cons.1 ((h y).2 (by simp)) with r|r
     ·exact r.symm
     ·have:=ha'.1 y r;have:=hb'.1 x q;omega
   subst hxy
   rw[ih ha'.2 hb'.2 fun z=>⟨fun hz=>?_,fun hz=>?_⟩]
   ·rcases List.mem_cons.1 ((h z).1 (by simp[hz])) with r|r
    ·have:=ha'.1 z hz;omega
    ·exact r
   ·rcases List.mem_cons.1 ((h z).2 (by simp[hz])) with r|r
    ·have:=hb'.1 z hz;omega
    ·exact r
section
variable {dm:List DS3}
theorem ow {ns:List DS1} (hd:dI dm) (hs:dY dm ns) {r:Int} (h0:0<=r) (hr:r<(ns.length:Int)) (fs:List Int):vlF ns 9 r fs=vlF ns 9 ((kids ns r.toNat).getD (brK (ns.getD r.toNat zN).2.1 (fs.getD (ns.getD r.toNat zN).1.toNat 0)) 0) fs:=by
 have hrt:r.toNat<ns.length:=by omega
 rw[iU ns 8 h0]
 have hk2:=nZ hs hrt (fs.getD (ns.getD r.toNat zN).1.toNat 0)
 have hrk:=wV hd hs hrt hk2
 have:=(iR hd hs).2 r.toNat hrt
 exact JG hd hs 8 8 9 _ _ (by omega) (by omega) (by omega) (iK hs hrt hk2).2
theorem sV {ns:List DS1} (hd:dI dm) (hs:dY dm ns) (i:Nat) (v:Int) (fs:List Int):∀ (f:Nat) (r:Int),r<(ns.length:Int)->i<lvl dm ns r->vlF ns f r (fs.set i v)=vlF ns f r fs:=by
 intro f
 induction f with
 |zero=>intro r _ _;rfl
 |succ f ih =>
  intro r hr hl
  rcases Int.lt_or_le r 0 with q|q
  ·rw[fD _ _ q,fD _ _ q]
  have hrt:r.toNat<ns.length:=by omega
  unfold lvl at hl
  rw[if_neg (by omega)]at hl
  rw[iU _ _ q,iU _ _ q]
  have e:(fs.set i v).getD (ns.getD r.toNat zN).1.toNat 0=fs.getD (ns.getD r.toNat zN).1.toNat 0:=by
   rw[List.getD_eq_getElem?_getD,List.getElem?_set_ne (by omega),<- List.getD_eq_getElem?_getD]
  rw[e]
  have hk:=nZ hs hrt (fs.getD (ns.getD r.toNat zN).1.toNat 0)
  have:=jQ hd hs hrt hk
  exact ih _ (iK hs hrt hk).2 (by omega)
def iO (dm:List DS3) (ns ns':List DS1) (r r':Int):Prop:=r<(ns.length:Int)/\r'<(ns'.length:Int)/\∀ fs,FOk dm fs->vlF ns 9 r fs=vlF ns' 9 r' fs
theorem iO.symm {ns ns':List DS1} {r r':Int} (h:iO dm ns ns' r r'):iO dm ns' ns r' r:=⟨h.2.1,h.1,fun fs q=>(h.2.2 fs q).symm⟩
theorem iO.trans {ns ns' Yf:List DS1} {r r' r'':Int} (h:iO dm ns ns' r r') (k:iO dm ns' Yf r' r''):iO dm ns Yf r r'':=⟨h.1,k.2.1,fun fs q=>(h.2.2 fs q).trans (k.2.2 fs q)⟩
def sW (dm:List DS3) (ns:List DS1) (i:Nat):Prop:=∀ r r',i<=lvl dm ns r->i<=lvl dm ns r'->iO dm ns ns r r'->r=r'
theorem Gz {ns:List DS1} (hd:dI dm) (hs:dY dm ns) {r:Int} (h0:0<=r) (hr:r < (ns.length:Int)) (hI:sW dm ns ((ns.getD r.toNat zN).1.toNat + 1)) {k:Nat} (hk:k < (ns.getD r.toNat zN).2.1.length) :
  ∃ fs,FOk dm fs/\FOk dm (fs.set (ns.getD r.toNat zN).1.toNat ((ns.getD r.toNat zN).2.1.getD k 0))/\FOk dm (fs.set (ns.getD r.toNat zN).1.toNat ((ns.getD r.toNat zN).2.1.getD k 0-1))/\vlF ns 9 r (fs.set (ns.getD r.toNat zN).1.toNat ((ns.getD r.toNat zN).2.1.getD k 0))≠vlF ns 9 r (fs.set (ns.getD r.toNat zN).1.toNat ((ns.getD r.toNat zN).2.1.getD k 0-1)):=by
 have hrt:r.toNat<ns.length:=by omega
 have hsr:=hs _ hrt
 have hkl:(kids ns r.toNat).length=(ns.getD r.toNat zN).2.1.length+1:=hsr.2.2.2.1
 have h1:=jQ hd hs hrt (k:=k) (by omega)
 have h2:=jQ hd hs hrt (k:=k+1) (by omega)
 have hne:(kids ns r.toNat).getD (k+1) 0≠(kids ns r.toNat).getD k 0:=by
  have:=(hsr.2.2.2.2.2 (k+1) (by show k+1<(kids ns r.toNat).length;omega)).2.1 (by omega)
  exact this
 have hx:¬ iO dm ns ns ((kids ns r.toNat).getD (k+1) 0) ((kids ns r.toNat).getD k 0):=fun q=>hne (hI _ _ h2 h1 q)
 have r1:=iK hs hrt (k:=k) (by omega)
 have r2:=iK hs hrt (k:=k+1) (by omega)
 have hx2:¬ ∀ fs,FOk dm fs->vlF ns 9 ((kids ns r.toNat).getD (k+1) 0) fs=vlF ns 9 ((kids ns r.toNat).getD k 0) fs:=fun q=>hx ⟨r2.2,r1.2,q⟩
 obtain⟨fs,hfs⟩:=Classical.not_forall.1 hx2
 obtain⟨hf,hv⟩:=Classical.not_imp.1 hfs
 obtain⟨c1,c2,_⟩:=hsr.2.2.2.2.1 k hk
 have ha:(ns.getD r.toNat zN).1.toNat<dm.length:=by have:=hsr.1;have:=hsr.2.1;omega
 refine⟨fs,hf,hf.set ha (by omega) c2,hf.set ha (by omega) (by omega),?_⟩
 rw[ow hd hs h0 hr,ow hd hs h0 hr]
 have e1:∀ v,(fs.set (ns.getD r.toNat zN).1.toNat v).getD (ns.getD r.toNat zN).1.toNat 0=v:=fun v=>by
  rw[nu _ _ _ _ _ (by rw[hf.1];exact ha),if_pos rfl]
 have hso:=mR hsr
 rw[e1,e1,(vV hso hk).1,(vV hso hk).2,sV hd hs _ _ _ _ _ r2.2 (by omega),sV hd hs _ _ _ _ _ r1.2 (by omega)]
 exact hv
theorem IE {ns ns':List DS1} (hd:dI dm) (hs:dY dm ns) (hs':dY dm ns') {i:Nat} (hI:sW dm ns (i + 1)) (hI':sW dm ns' (i + 1)) {r r':Int} (hl:i<=lvl dm ns r) (hl':i<=lvl dm ns' r') (h:iO dm ns ns' r r') :
  (r<0/\r'=r)\/(0<=r/\0<=r'/\(ns.getD r.toNat zN).1=(ns'.getD r'.toNat zN).1/\(ns.getD r.toNat zN).2.1=(ns'.getD r'.toNat zN).2.1/\(kids ns r.toNat).length=(kids ns' r'.toNat).length/\∀ k,k<(kids ns r.toNat).length->iO dm ns ns' ((kids ns r.toNat).getD k 0) ((kids ns' r'.toNat).getD k 0)):=by
 have mI:∀ {ns:List DS1} {a b:Nat},sW dm ns a->a<=b->sW dm ns b:=fun q hab r r' h1 h2 h3=>q r r' (by omega) (by omega) h3
 have key:∀ {ns ns':List DS1} {r r':Int},dY dm ns->dY dm ns'->sW dm ns (i+1)->i<=lvl dm ns r->iO dm ns ns' r r'->0<=r->lvl dm ns' r'<=lvl dm ns r:=by
  intro ns ns' r r' hs hs' hI hl h h0
  have hrt:r.toNat<ns.length:=by have:=h.1;omega
  have e:lvl dm ns r=(ns.getD r.toNat zN).1.toNat:=by unfold lvl;rw[if_neg (by omega)]
  rcases Nat.lt_or_ge (lvl dm ns r) (lvl dm ns' r') with q|q
  ·exfalso
   obtain⟨fs,f1,f2,f3,f4⟩:=Gz hd hs h0 h.1 (mI hI (by omega)) (k:=0) (hs _ hrt).2.2.1
   refine f4 ?_
   rw[h.2.2 _ f2,h.2.2 _ f3,sV hd hs' _ _ _ _ _ h.2.1 (by omega),sV hd hs' _ _ _ _ _ h.2.1 (by omega)]
  ·exact q
 have Ny:∀ {ns ns':List DS1} {r r':Int},dY dm ns->dY dm ns'->sW dm ns (i+1)->i<=lvl dm ns r->iO dm ns ns' r r'->0<=r->0<=r'->(ns.getD r.toNat zN).1=(ns'.getD r'.toNat zN).1->∀ c∈(ns.getD r.toNat zN).2.1,c∈(ns'.getD r'.toNat zN).2.1:=by
  intro ns ns' r r' hs hs' hI hl h h0 h0' ha c hc
  have hrt:r.toNat<ns.length:=by have:=h.1;omega
  have o8:r'.toNat<ns'.length:=by have:=h.2.1;omega
  have e:lvl dm ns r=(ns.getD r.toNat zN).1.toNat:=by unfold lvl;rw[if_neg (by omega)]
  refine Classical.byContradiction fun hn=>?_
  obtain⟨k,hk,rfl⟩:=List.getElem_of_mem hc
  obtain⟨fs,f1,f2,f3,f4⟩:=Gz hd hs h0 h.1 (mI hI (by omega)) hk
  rw[<- getD_eq _ _ 0 hk]at hn
  refine f4 ?_
  have hal:(ns.getD r.toNat zN).1.toNat<dm.length:=by have:=(hs _ hrt).1;have:=(hs _ hrt).2.1;omega
  have e1:∀ v,(fs.set (ns.getD r.toNat zN).1.toNat v).getD (ns.getD r.toNat zN).1.toNat 0=v:=fun v=>by
   rw[nu _ _ _ _ _ (by rw[f1.1];exact hal),if_pos rfl]
  rw[h.2.2 _ f2,h.2.2 _ f3,ow hd hs' h0' h.2.1,ow hd hs' h0' h.2.1,<- ha,e1,e1,QK _ _ hn]
  have hk':=nZ hs' o8 ((ns.getD r.toNat zN).2.1.getD k 0-1)
  have hlk:=jQ hd hs' o8 hk'
  rw[<- ha]at hlk
  have hrf:=(iK hs' o8 hk').2
  rw[sV hd hs' _ _ _ _ _ hrf (by omega),sV hd hs' _ _ _ _ _ hrf (by omega)]
 rcases Int.lt_or_le r 0 with q|q
 ·rcases Int.lt_or_le r' 0 with q'|q'
  ·left
   refine⟨q,?_⟩
   have:=h.2.2 _ (FOk.low hd)
   rw[fD _ _ q,fD _ _ q']at this
   omega
  ·exfalso
   have:=key hs' hs hI' hl' h.symm q'
   have e:lvl dm ns r=dm.length:=by unfold lvl;rw[if_pos q]
   have e':lvl dm ns' r'=(ns'.getD r'.toNat zN).1.toNat:=by unfold lvl;rw[if_neg (by omega)]
   have:=hs' r'.toNat (by have:=h.2.1;omega)
   have:=this.1
   have:=(hs' r'.toNat (by have:=h.2.1;omega)).2.1
   omega
 ·have k1:=key hs hs' hI hl h q
  have hrt:r.toNat<ns.length:=by have:=h.1;omega
  have e:lvl dm ns r=(ns.getD r.toNat zN).1.toNat:=by unfold lvl;rw[if_neg (by omega)]
  have a1:=(hs _ hrt).1
  have a2:=(hs _ hrt).2.1
  rcases Int.lt_or_le r' 0 with q'|q'
  ·exfalso
   have e':lvl dm ns' r'=dm.length:=by unfold lvl;rw[if_pos q']
   omega
  ·right
   have k2:=key hs' hs hI' hl' h.symm q'
   have e':lvl dm ns' r'=(ns'.getD r'.toNat zN).1.toNat:=by unfold lvl;rw[if_neg (by omega)]
   have o8:r'.toNat<ns'.length:=by have:=h.2.1;omega
   have b1:=(hs' _ o8).1
   have b2:=(hs' _ o8).2.1
   have ha:(ns.getD r.toNat zN).1=(ns'.getD r'.toNat zN).1:=by omega
   have hcs:(ns.getD r.toNat zN).2.1=(ns'.getD r'.toNat zN).2.1:=JL (mR (hs _ hrt)) (mR (hs' _ o8)) fun x=>⟨Ny hs hs' hI hl h q q' ha x,Ny hs' hs hI' hl' h.symm q' q ha.symm x⟩
   have hkl:(kids ns r.toNat).length=(ns.getD r.toNat zN).2.1.length+1:=(hs _ hrt).2.2.2.1
   have hkl':(kids ns' r'.toNat).length=(ns'.getD r'.toNat zN).2.1.length+1:=(hs' _ o8).2.2.2.1
   refine⟨q,q',ha,hcs,by rw[hkl,hkl',hcs],fun k hk=>?_⟩
   have hk':k<(kids ns' r'.toNat).length:=by rw[hkl',<- hcs,<- hkl];exact hk
   refine⟨(iK hs hrt hk).2,(iK hs' o8 hk').2,fun fs hf=>?_⟩
   have hal:(ns.getD r.toNat zN).1.toNat<dm.length:=by omega
   obtain⟨v,v1,v2,v3⟩:∃ v,(dm.getD (ns.getD r.toNat zN).1.toNat zS).1<=v/\v<=(dm.getD (ns.getD r.toNat zN).1.toNat zS).2.1/\brK (ns.getD r.toNat zN).2.1 v=k:=by
    cases k with
    |zero =>
     have hb:=hd.at hal
     have c0:=(hs _ hrt).2.2.2.2.1 0 (hs _ hrt).2.2.1
     exact⟨_,Int.le_refl _,hb.1,xw _ _ 0 (by omega) (fun j hj=>by omega) (.inr c0.1)⟩
    |succ k =>
     have ck:=(hs _ hrt).2.2.2.2.1 k (by omega)
     exact⟨_,Int.le_of_lt ck.1,ck.2.1,(vV (mR (hs _ hrt)) (by omega)).1⟩
   have e1:(fs.set (ns.getD r.toNat zN).1.toNat v).getD (ns.getD r.toNat zN).1.toNat 0=v:=by
    rw[nu _ _ _ _ _ (by rw[hf.1];exact hal),if_pos rfl]
   have hv:=h.2.2 _ (hf.set hal v1 v2)
   rw[ow hd hs q h.1,ow hd hs' q' h.2.1,<- ha,<- hcs,e1,v3]at hv
   have l1:=jQ hd hs hrt hk
   have l2:=jQ hd hs' o8 hk'
   rw[sV hd hs _ _ _ _ _ (iK hs hrt hk).2 (by omega),sV hd hs' _ _ _ _ _ (iK hs' o8 hk').2 (by omega)]at hv
   exact hv
theorem Kt {ns:List DS1} (hd:dI dm) (hR:Red dm ns):∀ (n i:Nat),dm.length<=i+n->sW dm ns i:=by
 obtain⟨hs,hdi⟩:=hR
 intro n
 induction n with
 |zero =>
  intro i hi r r' hl hl' h
  have neg:∀ r,r<(ns.length:Int)->i<=lvl dm ns r->r<0:=fun r hr hl=>by
   rcases Int.lt_or_le r 0 with q|q
   ·exact q
   ·unfold lvl at hl
    rw[if_neg (by omega)]at hl
    have:=(hs r.toNat (by omega)).1
    have:=(hs r.toNat (by omega)).2.1
    omega
  have h1:=neg r h.1 hl
  have h2:=neg r' h.2.1 hl'
  have:=h.2.2 _ (FOk.low hd)
  rw[fD _ _ h1,fD _ _ h2]at this
  omega
 |succ n ih =>
  intro i hi r r' hl hl' h
  have hI:=ih (i+1) (by omega)
  rcases IE hd hs hs hI hI hl hl' h with ⟨q1,q2⟩|⟨q,q',a1,a2,a3,a4⟩
  ·exact q2.symm
  ·have hrt:r.toNat<ns.length:=by have:=h.1;omega
   have o8:r'.toNat<ns.length:=by have:=h.2.1;omega
   have e:lvl dm ns r=(ns.getD r.toNat zN).1.toNat:=by unfold lvl;rw[if_neg (by omega)]
   have e':lvl dm ns r'=(ns.getD r'.toNat zN).1.toNat:=by unfold lvl;rw[if_neg (by omega)]
   have hk:kids ns r.toNat=kids ns r'.toNat:=by
    apply List.ext_getElem a3
    intro k h1 h2
    have l1:=jQ hd hs hrt h1
    have l2:=jQ hd hs o8 h2
    have:=hI _ _ (by omega) (by omega) (a4 k h1)
    rwa [getD_eq _ _ _ h1,getD_eq _ _ _ h2]at this
   have e5:ns.getD r.toNat zN=ns.getD r'.toNat zN:=Prod.ext a1 (Prod.ext a2 (Prod.ext hk rfl))
   rcases Nat.lt_trichotomy r.toNat r'.toNat with z|z|z
   ·exact absurd e5 (hdi _ o8 _ z)
   ·omega
   ·exact absurd e5.symm (hdi _ hrt _ z)
theorem Red.inj {ns:List DS1} (hd:dI dm) (hR:Red dm ns) {r r':Int} (h:iO dm ns ns r r'):r=r':=Kt hd hR dm.length 0 (by omega) r r' (by omega) (by omega) h
theorem Red.step {ns ns':List DS1} (hd:dI dm) (hR:Red dm ns) (hR':Red dm ns') {r r':Int} (h:iO dm ns ns' r r') :
  (r<0/\r'=r)\/(0<=r/\0<=r'/\(ns.getD r.toNat zN).1=(ns'.getD r'.toNat zN).1/\(ns.getD r.toNat zN).2.1=(ns'.getD r'.toNat zN).2.1/\(kids ns r.toNat).length=(kids ns' r'.toNat).length/\∀ k,k<(kids ns r.toNat).length->iO dm ns ns' ((kids ns r.toNat).getD k 0) ((kids ns' r'.toNat).getD k 0)) :=
 IE hd hR.1 hR'.1 (i:=0) (Kt hd hR dm.length 1 (by omega)) (Kt hd hR' dm.length 1 (by omega)) (by omega) (by omega) h
def PwS (dm:List DS3) (ns ns':List DS1) (O O':List Nat):Prop:=O.length=O'.length/\∀ j,j<O.length->iO dm ns ns' ((O.getD j 0:Nat):Int) ((O'.getD j 0:Nat):Int)
theorem PwS.snoc {ns ns':List DS1} {O O':List Nat} (h:PwS dm ns ns' O O') {a b:Nat} (q:iO dm ns ns' (a:Int) (b:Int)):PwS dm ns ns' (O++[a]) (O'++[b]):=by
 refine⟨by simp[h.1],fun j hj=>?_⟩
 rw[List.length_append,List.length_singleton]at hj
 rcases Nat.lt_or_ge j O.length with z|z
 ·rw[eY _ _ _ z,eY _ _ _ (by have:=h.1;omega)];exact h.2 j z
 ·obtain rfl:j=O.length:=by omega
  rw[jd,h.1,jd];exact q
theorem PwS.symm {ns ns':List DS1} {O O':List Nat} (h:PwS dm ns ns' O O'):PwS dm ns' ns O' O:=⟨h.1.symm,fun j hj=>(h.2 j (by rw[h.1];exact hj)).symm⟩
theorem PwS.mem {ns ns':List DS1} (hd:dI dm) (hR':Red dm ns') {O O':List Nat} (h:PwS dm ns ns' O O') {a b:Nat} (q:iO dm ns ns' (a:Int) (b:Int)) (hm:a∈O):b∈O':=by
 obtain⟨j,hj,rfl⟩:=List.getElem_of_mem hm
 have h1:=h.2 j hj
 rw[getD_eq _ _ _ hj]at h1
 have:=hR'.inj hd (q.symm.trans h1)
 have hj':j<O'.length:=by rw[<- h.1];exact hj
 rw[getD_eq _ _ _ hj']at this
 have:b=O'[j]:=by omega
 rw[this];exact List.getElem_mem hj'
theorem PwS.idx {ns ns':List DS1} (hd:dI dm) (hR':Red dm ns') {O O':List Nat} (hO:O.Nodup) (hO':O'.Nodup) (h:PwS dm ns ns' O O') {a b:Nat} (q:iO dm ns ns' (a:Int) (b:Int)) (hm:a∈O):O.idxOf a=O'.idxOf b:=by
 obtain⟨j,hj,rfl⟩:=List.getElem_of_mem hm
 have h1:=h.2 j hj
 rw[getD_eq _ _ _ hj]at h1
 have:=hR'.inj hd (q.symm.trans h1)
 have hj':j<O'.length:=by rw[<- h.1];exact hj
 rw[getD_eq _ _ _ hj']at this
 have:b=O'[j]:=by omega
 rw[this,hO.idxOf_getElem,hO'.idxOf_getElem]
theorem PK {ns ns':List DS1} (hd:dI dm) (hR:Red dm ns) (hR':Red dm ns'):∀ (f:Nat) (r r':Int) (O O':List Nat),iO dm ns ns' r r'->PwS dm ns ns' O O'->PwS dm ns ns' (aL ns f O r) (aL ns' f O' r'):=by
 intro f
 induction f with
 |zero=>intro r r' O O' _ h;exact h
 |succ f ih =>
  intro r r' O O' h hP
  rcases hR.step hd hR' h with ⟨q1,rfl⟩|⟨q,q',a1,a2,a3,a4⟩
  ·rw[iY _ _ q1,iY _ _ q1];exact hP
  have er:((r.toNat:Nat):Int)=r:=by omega
  have er':((r'.toNat:Nat):Int)=r':=by omega
  have hS:iO dm ns ns' (r.toNat:Int) (r'.toNat:Int):=by rw[er,er'];exact h
  by_cases hm:r.toNat∈O
  ·rw[lW _ _ hm,lW _ _ (hP.mem hd hR' hS hm)];exact hP
  have hm':r'.toNat∉O':=fun z=>hm (hP.symm.mem hd hR hS.symm z)
  have e1:aL ns (f+1) O r=(kids ns r.toNat).foldl (aL ns f) (O++[r.toNat]):=by
   simp only[aL];rw[if_neg (by rintro (z|z);omega;exact hm z)]
  have e2:aL ns' (f+1) O' r'=(kids ns' r'.toNat).foldl (aL ns' f) (O'++[r'.toNat]):=by
   simp only[aL];rw[if_neg (by rintro (z|z);omega;exact hm' z)]
  rw[e1,e2]
  have key:∀ (cs cs':List Int) (P P':List Nat),cs.length=cs'.length->(∀ k,k<cs.length->iO dm ns ns' (cs.getD k 0) (cs'.getD k 0))->PwS dm ns ns' P P'->PwS dm ns ns' (cs.foldl (aL ns f) P) (cs'.foldl (aL ns' f) P'):=by
   intro cs
   induction cs with
   |nil=>intro cs' P P' hl _ hp;cases cs' with
    |nil=>exact hp
    |cons y ys=>cases hl
   |cons x cs ih2 =>
    intro cs' P P' hl hk hp
    cases cs' with
    |nil=>cases hl
    |cons y cs' =>
     rw[List.foldl_cons,List.foldl_cons]
     refine ih2 cs' _ _ (by simpa using hl) (fun k hk1=>?_) (ih x y P P' (hk 0 (by simp)) hp)
     have:=hk (k+1) (by simpa using hk1)
     simpa using this
  exact key _ _ _ _ a3 a4 (hP.snoc hS)
theorem canon {ns ns':List DS1} (hd:dI dm) (hR:Red dm ns) (hR':Red dm ns') {root root':Int} (h:iO dm ns ns' root root') :
  (aL ns 8 [] root).length=(aL ns' 8 [] root').length/\gX ns (aL ns 8 [] root)=gX ns' (aL ns' 8 [] root')/\aY (aL ns 8 [] root) root=aY (aL ns' 8 [] root') root':=by
 have hP:=PK hd hR hR' 8 root root' [] [] h ⟨rfl,fun j hj=>by cases hj⟩
 have h0:∀ n,gU n []:=fun n=>⟨List.nodup_nil,fun x hx=>by cases hx⟩
 obtain⟨hRk,hF⟩:=iR hd hR.1
 obtain⟨YW,hF'⟩:=iR hd hR'.1
 have hO:=(l9 hRk 8 root [] h.1 (h0 _)).1
 have hO':=(l9 YW 8 root' [] h.2.1 (h0 _)).1
 have r8:∀ (ns:List DS1),(∀ r,r<ns.length->rkA ns r+1<=8)->∀ r:Int,r<(ns.length:Int)->rkI (rkA ns) r<=8:=fun ns hF r hr=>by
  unfold rkI
  split
  ·omega
  ·exact hF _ (by omega)
 obtain⟨hc1,hc2⟩:=mJ hRk 8 8 root [] (r8 _ hF _ h.1) (Nat.le_refl _) h.1 (h0 _)
 obtain⟨hc1',hc2'⟩:=mJ YW 8 8 root' [] (r8 _ hF' _ h.2.1) (Nat.le_refl _) h.2.1 (h0 _)
 generalize aL ns 8 [] root=O at *
 generalize aL ns' 8 [] root'=O' at *
 have YD:∀ c c',iO dm ns ns' c c'->(0<=c->c.toNat∈O)->aY O c=aY O' c':=fun c c' hS hm=>by
  rcases hR.step hd hR' hS with ⟨q1,rfl⟩|⟨q,q',_⟩
  ·unfold aY;rw[if_pos q1,if_pos q1]
  ·unfold aY
   rw[if_neg (by omega),if_neg (by omega)]
   have hS2:iO dm ns ns' (c.toNat:Int) (c'.toNat:Int):=by
    rw[show ((c.toNat:Nat):Int)=c by omega,show ((c'.toNat:Nat):Int)=c' by omega];exact hS
   rw[hP.idx hd hR' hO.1 hO'.1 hS2 (hm q)]
 refine⟨hP.1,?_,YD _ _ h hc1⟩
 apply List.ext_getElem (by rw[iW,iW,hP.1])
 intro j h1 h2
 rw[iW]at h1 h2
 have hj:=hP.2 j h1
 rw[getD_eq _ _ _ h1,getD_eq _ _ _ h2]at hj
 rw[zf ns O h1,zf ns' O' h2]
 have hmj:=List.getElem_mem h1
 generalize O[j]=a at hj hmj ⊢
 generalize O'[j]=b at hj ⊢
 rcases hR.step hd hR' hj with ⟨q1,_⟩|⟨q,q',a1,a2,a3,a4⟩
 ·omega
 ·rw[Int.toNat_natCast,Int.toNat_natCast]at a1 a2 a3 a4
  unfold imN
  have hk:(kids ns a).map (aY O)=(kids ns' b).map (aY O'):=by
   apply List.ext_getElem (by simpa using a3)
   intro k k1 k2
   rw[List.length_map]at k1 k2
   rw[List.getElem_map,List.getElem_map]
   have:=a4 k k1
   rw[getD_eq _ _ _ k1,getD_eq _ _ _ k2]at this
   exact YD _ _ this (fun q0=>hc2 a hmj (fun z=>by cases z) _ (List.getElem_mem k1) q0)
  rw[a1,a2,hk]
theorem VD.red {ns:List DS1} {root:Int} (h:VD dm ns root):Red dm ns:=⟨h.2.2.1,h.2.2.2.1⟩
theorem CF (ns:List DS1) (root:Int) (hk:∀ i,i<ns.length->∀ c∈kids ns i,c<(ns.length:Int)):gX ns (List.range ns.length)=ns/\∀ c,c<(ns.length:Int)->aY (List.range ns.length) c=c:=by
 have hc:∀ c,c<(ns.length:Int)->aY (List.range ns.length) c=c:=fun c h=>by
  unfold aY
  split
  ·rfl
  ·have h2:c.toNat<(List.range ns.length).length:=by rw[List.length_range];omega
   have:=List.nodup_range.idxOf_getElem (xs:=List.range ns.length) (i:=c.toNat) (h:=h2)
   rw[List.getElem_range]at this
   omega
 refine⟨?_,hc⟩
 apply List.ext_getElem (by simp[gX])
 intro j h1 h2
 rw[zf ns _ (by rw[List.length_range];exact h2),List.getElem_range]
 unfold imN
 have:(kids ns j).map (aY (List.range ns.length))=kids ns j:=by
  rw[List.map_congr_left (fun c hc'=>hc c (hk j h2 c hc')),List.map_id']
 rw[this]
 unfold kids
 rw[getD_eq _ _ _ h2]
theorem zM {ns ns':List DS1} {root root':Int} (hd:dI dm) (h:VD dm ns root) (h':VD dm ns' root') (hv:∀ fs,FOk dm fs->vlF ns 9 root fs=vlF ns' 9 root' fs):ns=ns'/\root=root':=by
 obtain⟨_,c2,c3⟩:=canon hd h.red h'.red ⟨h.2.1.2,h'.2.1.2,hv⟩
 rw[h.2.2.2.2,h'.2.2.2.2]at c2 c3
 have kk:∀ {ns:List DS1},dY dm ns->∀ i,i<ns.length->∀ c∈kids ns i,c<(ns.length:Int):=fun hs i hi c hc=>by
  obtain⟨k,hk,rfl⟩:=List.getElem_of_mem hc
  have:=(iK hs hi hk).2
  rwa [getD_eq _ _ _ hk]at this
 obtain⟨r1,r2⟩:=CF ns root (kk h.2.2.1)
 obtain⟨r1',r2'⟩:=CF ns' root' (kk h'.2.2.1)
 rw[r1,r1']at c2
 rw[r2 _ h.2.1.2,r2' _ h'.2.1.2]at c3
 exact⟨c2,c3⟩
theorem Ux {ns:List DS1} {O:List Nat} (hs:dY dm ns) (hO:∀ r∈O,r<ns.length) (hcl:∀ r∈O,∀ k∈kids ns r,0<=k->k.toNat∈O) (hd:dI dm) (fs:List Int):∀ (f:Nat) (c:Int),rkI (rkA ns) c<=f->(0<=c->c.toNat∈O)->vlF (gX ns O) f (aY O c) fs=vlF ns f c fs:=by
 intro f
 induction f with
 |zero =>
  intro c hr hc
  have q:c<0:=by unfold rkI at hr;split at hr;assumption;omega
  have:aY O c=c:=by unfold aY;rw[if_pos q]
  rw[this];rfl
 |succ f ih =>
  intro c hr hc
  rcases Int.lt_or_le c 0 with q|q
  ·have:aY O c=c:=by unfold aY;rw[if_pos q]
   rw[this,fD _ _ q,fD _ _ q]
  unfold rkI at hr
  rw[if_neg (by omega)]at hr
  have hm:=hc q
  have e:(aY O c).toNat=O.idxOf c.toNat:=by unfold aY;rw[if_neg (by omega)];rfl
  have h0:0<=aY O c:=by unfold aY;rw[if_neg (by omega)];omega
  rw[iU _ _ h0,iU _ _ q,e,xQ ns O hm]
  have ek:kids (gX ns O) (O.idxOf c.toNat)=(kids ns c.toNat).map (aY O):=by unfold kids;rw[xQ ns O hm];rfl
  have hkl:=nZ hs (hO _ hm) (fs.getD (ns.getD c.toNat zN).1.toNat 0)
  rw[ek]
  show vlF (gX ns O) f (((kids ns c.toNat).map (aY O)).getD (brK (ns.getD c.toNat zN).2.1 (fs.getD (ns.getD c.toNat zN).1.toNat 0)) 0) fs=_
  rw[getD_eq _ _ _ (by rw[List.length_map];exact hkl),List.getElem_map,getD_eq _ _ _ hkl]
  have hrk:=wV hd hs (hO _ hm) hkl
  rw[getD_eq _ _ _ hkl]at hrk
  exact ih _ (by omega) (fun z=>hcl _ hm _ (List.getElem_mem hkl) z)
end
end Abs
end Go.Proofs.YtgfnhpadmifiiaaDoor
end
