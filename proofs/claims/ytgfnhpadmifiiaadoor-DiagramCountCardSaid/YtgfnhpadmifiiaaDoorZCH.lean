/- Merged and trimmed by a program: E1 E2 D1 D2 D3 D4 D5 D6 D7 D8 D9 D10 D11 D12 D13 D14 D15 D16 D17. -/
import Derived.Test.YtgfnhpadmifiiaaDoorZCG
set_option linter.unusedVariables false
set_option linter.unusedSimpArgs false
namespace Go.Proofs.YtgfnhpadmifiiaaDoor
namespace Abs
def DeckOk (L:List Int) (a:Int):Prop:=(∀ x ∈ L,-9223372036854775808≤x∧x≤9223372036854775807)∧L.length≤9223372036854775807∧0≤a
theorem next_ok {L:List Int} {a n:Int} (h:DeckOk L a) (hn:0 < n) (hn2:n≤4611686018427387904):∃ v a',m45 n L a=some (v,L,a',())∧0≤v∧v < n∧DeckOk L a'∧a≤a'∧(a < (L.length:Int)→a'=a + 1):=by
 obtain ⟨h1,h2,h3⟩:=h
 unfold m45
 by_cases hl:(L.length:Int)≤a
 ·refine ⟨0,a,?_,by omega,hn,⟨h1,h2,h3⟩,Int.le_refl _,fun q=>by omega⟩
  rw [iLe_t (by simpa [lenI] using hl)]; rfl
 ·have hlt:a.toNat < L.length:=by omega
  have ha:a=(a.toNat:Int):=by omega
  have hx:=h1 L[a.toNat] (List.getElem_mem _)
  have e1:iSub .i64 (iAdd .i64 a 1) 1=(a.toNat:Int):=by rw [iAdd64 (by omega) (by omega),iSub64 (by omega) (by omega)]; omega
  have b1:=Int.tmod_lt_of_pos L[a.toNat] hn
  have b2:-n < L[a.toNat].tmod n:=by have:=Int.lt_tmod_of_pos L[a.toNat] hn; omega
  have e2:iAdd .i64 (iRem L[a.toNat] n) n=L[a.toNat].tmod n + n:=iAdd64 (by simp only [iRem]; omega) (by simp only [iRem]; omega)
  refine ⟨(L[a.toNat].tmod n + n) % n,a + 1,?_,Int.emod_nonneg _ (by omega),Int.emod_lt_of_pos _ hn,⟨h1,h2,by omega⟩,by omega,fun _=>rfl⟩
  rw [iLe_f (by simp only [lenI]; omega),e1]
  simp (disch:=omega) only [cond_false,bnd_t,lenI,cond_true,iNe_t,atI_get,e2,iAdd64,iRem_pos]
theorem next_T {L:List Int} {a n:Int} (h:DeckOk L a) (hn:0 < n) (hn2:n≤4611686018427387904):T (m45 n L a) (fun y=>DeckOk y.2.1 y.2.2.1∧0≤y.1∧y.1 < n):=by
 obtain ⟨v,a',e,h1,h2,h3,_⟩:=next_ok h hn hn2
 exact ⟨_,e,h3,h1,h2⟩
theorem sLen_eq (s:ByteArray):sLen s=(s.size:Int):=rfl
def spn (p:Int→Bool) (s:ByteArray):Nat→Nat→Nat
 | 0,i=>i
 | n + 1,i=>if p (sAt s (i:Int))=true then spn p s n (i + 1) else i
def spanS (p:Int→Bool) (s:ByteArray) (i:Nat):Nat:=spn p s (s.size - i) i
theorem spanS_step (p:Int→Bool) (s:ByteArray) (i:Nat) (h:i < s.size):spanS p s i=if p (sAt s (i:Int))=true then spanS p s (i + 1) else i:=by
 unfold spanS
 obtain ⟨n,hn⟩:∃ n,s.size - i=n + 1:=⟨s.size - i - 1,by omega⟩
 rw [hn]
 conv=>lhs; unfold spn
 rw [show s.size - (i + 1)=n by omega]
theorem spanS_end (p:Int→Bool) (s:ByteArray):spanS p s s.size=s.size:=by unfold spanS; rw [Nat.sub_self]; rfl
def isLet (c:Int):Bool:=decide (97≤c∧c≤122)
def isDig (c:Int):Bool:=decide (48≤c∧c≤57)
def isWrd (c:Int):Bool:=isLet c || isDig c || decide (c=45)
theorem let_m (c:Int):m99 c=some (isLet c,()):=by unfold m99 isLet iLe; by_cases h:97≤c <;> simp [h]
theorem let_r (c:Int):m103 c=some (isLet c,()):=by unfold m103 isLet iLe; by_cases h:97≤c <;> simp [h]
theorem dig_m (c:Int):m106 c=some (isDig c,()):=by unfold m106 isDig iLe; by_cases h:48≤c <;> simp [h]
theorem dig_r (c:Int):m104 c=some (isDig c,()):=by unfold m104 isDig iLe; by_cases h:48≤c <;> simp [h]
theorem wrd_m (c:Int):m101 c=some (isWrd c,()):=by
 unfold m101 isWrd
 rw [let_m,dig_m]
 simp only [Option.bind_some]
 cases isLet c <;> cases isDig c <;> simp [iEq,BEq.beq]
theorem span1 (s:ByteArray) (i:Nat) (hi:i≤s.size) (hs:s.size≤4611686018427387904):m100 s (i:Int) ()=some ((spanS isWrd s i:Int),()):=by
 refine T.eq ?_
 unfold m100
 refine T.loop (fun q=>∃ j:Nat,j≤s.size∧spanS isWrd s j=spanS isWrd s i∧q=(s,(j:Int),(),())) (fun q=>s.size - q.2.1.toNat) ⟨i,hi,rfl,rfl⟩ ?_
 rintro _ ⟨j,hj,he,rfl⟩
 dsimp only
 have hl:=sLen_eq s
 refine T.grd (by first | (simp (disch:=omega) only [iLt_T,iLt_F,iLe_T,iLe_F,iEq_T,iEq_F,iNe_T,iNe_F,bnd_T,bnd_F,inB_T,inB_F,fits_T,fitsI_T,cutOk_T,someE_T,someE_F,leN_T,not_T,not_F,and_T,and_F,or_T,or_F,candF_T,candF_F,corT_T,corT_F,bEqT_T,bEqT_F,bEqF_T,bEqF_F,eq_self,or_true,true_or,and_true,true_and,or_false,false_or,and_false,false_and,not_true_eq_false,not_false_eq_true,Bool.true_eq_false,Bool.false_eq_true,iAdd64,iSub64,iMul64,lenI_eq,List.length_append,List.length_cons,List.length_nil,List.length_set,List.length_take,List.length_drop,List.length_replicate]; omega) | (simp (disch:=omega) only [iLt_T,iLt_F,iLe_T,iLe_F,iEq_T,iEq_F,iNe_T,iNe_F,bnd_T,bnd_F,inB_T,inB_F,fits_T,fitsI_T,cutOk_T,someE_T,someE_F,leN_T,not_T,not_F,and_T,and_F,or_T,or_F,candF_T,candF_F,corT_T,corT_F,bEqT_T,bEqT_F,bEqF_T,bEqF_F,eq_self,or_true,true_or,and_true,true_and,or_false,false_or,and_false,false_and,not_true_eq_false,not_false_eq_true,Bool.true_eq_false,Bool.false_eq_true,iAdd64,iSub64,iMul64,lenI_eq,List.length_append,List.length_cons,List.length_nil,List.length_set,List.length_take,List.length_drop,List.length_replicate]; done)) ?_
 refine T.cnd (fun hc=>?_) (fun hc=>?_) <;> simp only [iLt_T,iLt_F] at hc
 ·rw [spanS_step isWrd s j (by omega)] at he
  refine T.callE (wrd_m _) ?_
  refine T.cnd (fun hp=>?_) (fun hp=>T.out ?_)
  ·rw [if_pos hp] at he
   refine T.go ⟨j + 1,by omega,he,by rw [iAdd64 (by omega) (by omega)]; rfl⟩ ?_
   dsimp only; rw [iAdd64 (by omega) (by omega)]; omega
  ·rw [if_neg (by simpa using hp)] at he
   rw [← he]
 ·refine T.out ?_
  have:j=s.size:=by omega
  subst this
  rw [spanS_end] at he
  rw [← he]
def wordS (s:ByteArray):Bool:=if s.size=0∨16 < s.size then false else if isLet (sAt s 0)=true∧¬ sAt s ((s.size:Int) - 1)=45 then decide (spanS isWrd s 0=s.size) else false
theorem word_m (s:ByteArray) (hs:s.size≤4611686018427387904):m88 s=some (wordS s,()):=by
 refine T.eq ?_
 unfold m88 wordS
 have hl:=sLen_eq s
 refine T.grd (by first | (simp (disch:=omega) only [iLt_T,iLt_F,iLe_T,iLe_F,iEq_T,iEq_F,iNe_T,iNe_F,bnd_T,bnd_F,inB_T,inB_F,fits_T,fitsI_T,cutOk_T,someE_T,someE_F,leN_T,not_T,not_F,and_T,and_F,or_T,or_F,candF_T,candF_F,corT_T,corT_F,bEqT_T,bEqT_F,bEqF_T,bEqF_F,eq_self,or_true,true_or,and_true,true_and,or_false,false_or,and_false,false_and,not_true_eq_false,not_false_eq_true,Bool.true_eq_false,Bool.false_eq_true,iAdd64,iSub64,iMul64,lenI_eq,List.length_append,List.length_cons,List.length_nil,List.length_set,List.length_take,List.length_drop,List.length_replicate]; omega) | (simp (disch:=omega) only [iLt_T,iLt_F,iLe_T,iLe_F,iEq_T,iEq_F,iNe_T,iNe_F,bnd_T,bnd_F,inB_T,inB_F,fits_T,fitsI_T,cutOk_T,someE_T,someE_F,leN_T,not_T,not_F,and_T,and_F,or_T,or_F,candF_T,candF_F,corT_T,corT_F,bEqT_T,bEqT_F,bEqF_T,bEqF_F,eq_self,or_true,true_or,and_true,true_and,or_false,false_or,and_false,false_and,not_true_eq_false,not_false_eq_true,Bool.true_eq_false,Bool.false_eq_true,iAdd64,iSub64,iMul64,lenI_eq,List.length_append,List.length_cons,List.length_nil,List.length_set,List.length_take,List.length_drop,List.length_replicate]; done)) ?_
 refine T.cnd (fun hc=>?_) (fun hc=>?_) <;> simp only [iLt_T,iLt_F,iLe_T,iLe_F,iEq_T,iEq_F,iNe_T,iNe_F,bnd_T,bnd_F,inB_T,inB_F,fits_T,fitsI_T,cutOk_T,someE_T,someE_F,leN_T,not_T,not_F,and_T,and_F,or_T,or_F,candF_T,candF_F,corT_T,corT_F,bEqT_T,bEqT_F,bEqF_T,bEqF_F,eq_self,or_true,true_or,and_true,true_and,or_false,false_or,and_false,false_and,not_true_eq_false,not_false_eq_true,Bool.true_eq_false,Bool.false_eq_true] at hc
 ·refine T.grd (by first | (simp (disch:=omega) only [iLt_T,iLt_F,iLe_T,iLe_F,iEq_T,iEq_F,iNe_T,iNe_F,bnd_T,bnd_F,inB_T,inB_F,fits_T,fitsI_T,cutOk_T,someE_T,someE_F,leN_T,not_T,not_F,and_T,and_F,or_T,or_F,candF_T,candF_F,corT_T,corT_F,bEqT_T,bEqT_F,bEqF_T,bEqF_F,eq_self,or_true,true_or,and_true,true_and,or_false,false_or,and_false,false_and,not_true_eq_false,not_false_eq_true,Bool.true_eq_false,Bool.false_eq_true,iAdd64,iSub64,iMul64,lenI_eq,List.length_append,List.length_cons,List.length_nil,List.length_set,List.length_take,List.length_drop,List.length_replicate]; omega) | (simp (disch:=omega) only [iLt_T,iLt_F,iLe_T,iLe_F,iEq_T,iEq_F,iNe_T,iNe_F,bnd_T,bnd_F,inB_T,inB_F,fits_T,fitsI_T,cutOk_T,someE_T,someE_F,leN_T,not_T,not_F,and_T,and_F,or_T,or_F,candF_T,candF_F,corT_T,corT_F,bEqT_T,bEqT_F,bEqF_T,bEqF_F,eq_self,or_true,true_or,and_true,true_and,or_false,false_or,and_false,false_and,not_true_eq_false,not_false_eq_true,Bool.true_eq_false,Bool.false_eq_true,iAdd64,iSub64,iMul64,lenI_eq,List.length_append,List.length_cons,List.length_nil,List.length_set,List.length_take,List.length_drop,List.length_replicate]; done)) (T.ret ?_)
  rw [if_pos (by omega)]
 ·rw [if_neg (by omega)]
  have e1:iSub .i64 (sLen s) 1=(s.size:Int) - 1:=by rw [iSub64 (by omega) (by omega),hl]
  rw [e1]
  refine T.callE (let_m _) ?_
  refine T.grd (by first | (simp (disch:=omega) only [iLt_T,iLt_F,iLe_T,iLe_F,iEq_T,iEq_F,iNe_T,iNe_F,bnd_T,bnd_F,inB_T,inB_F,fits_T,fitsI_T,cutOk_T,someE_T,someE_F,leN_T,not_T,not_F,and_T,and_F,or_T,or_F,candF_T,candF_F,corT_T,corT_F,bEqT_T,bEqT_F,bEqF_T,bEqF_F,eq_self,or_true,true_or,and_true,true_and,or_false,false_or,and_false,false_and,not_true_eq_false,not_false_eq_true,Bool.true_eq_false,Bool.false_eq_true,iAdd64,iSub64,iMul64,lenI_eq,List.length_append,List.length_cons,List.length_nil,List.length_set,List.length_take,List.length_drop,List.length_replicate]; omega) | (simp (disch:=omega) only [iLt_T,iLt_F,iLe_T,iLe_F,iEq_T,iEq_F,iNe_T,iNe_F,bnd_T,bnd_F,inB_T,inB_F,fits_T,fitsI_T,cutOk_T,someE_T,someE_F,leN_T,not_T,not_F,and_T,and_F,or_T,or_F,candF_T,candF_F,corT_T,corT_F,bEqT_T,bEqT_F,bEqF_T,bEqF_F,eq_self,or_true,true_or,and_true,true_and,or_false,false_or,and_false,false_and,not_true_eq_false,not_false_eq_true,Bool.true_eq_false,Bool.false_eq_true,iAdd64,iSub64,iMul64,lenI_eq,List.length_append,List.length_cons,List.length_nil,List.length_set,List.length_take,List.length_drop,List.length_replicate]; done)) ?_
  refine T.cnd (fun hc=>T.ret ?_) (fun hc=>?_) <;> simp only [iLt_T,iLt_F,iLe_T,iLe_F,iEq_T,iEq_F,iNe_T,iNe_F,bnd_T,bnd_F,inB_T,inB_F,fits_T,fitsI_T,cutOk_T,someE_T,someE_F,leN_T,not_T,not_F,and_T,and_F,or_T,or_F,candF_T,candF_F,corT_T,corT_F,bEqT_T,bEqT_F,bEqF_T,bEqF_F,eq_self,or_true,true_or,and_true,true_and,or_false,false_or,and_false,false_and,not_true_eq_false,not_false_eq_true,Bool.true_eq_false,Bool.false_eq_true] at hc
  ·rw [if_neg]
   rintro ⟨q1,q2⟩
   rcases hc with q | q
   ·rw [q1] at q; cases q
   ·exact q2 q
  ·rw [if_pos ⟨hc.1,hc.2⟩]
   refine T.callE (span1 s 0 (by omega) hs) (T.ret ?_)
   congr 1
   rw [hl,Bool.eq_iff_iff]
   simp only [iEq_T,decide_eq_true_eq]
   omega
theorem spanS_all (p:Int→Bool) (s:ByteArray):∀ (n i:Nat),i + n=s.size→(spanS p s i=s.size ↔ ∀ j,i≤j→j < s.size→p (sAt s (j:Int))=true):=by
 intro n
 induction n with
 | zero =>
  intro i hi
  have:i=s.size:=by omega
  subst this
  rw [spanS_end]
  exact ⟨fun _ j h1 h2=>by omega,fun _=>rfl⟩
 | succ n ih =>
  intro i hi
  rw [spanS_step p s i (by omega)]
  have:=ih (i + 1) (by omega)
  by_cases hp:p (sAt s (i:Int))=true
  ·rw [if_pos hp,this]
   constructor
   ·intro h j h1 h2
    rcases Nat.eq_or_lt_of_le h1 with q | q
    ·rw [← q]; exact hp
    ·exact h j q h2
   ·intro h j h1 h2; exact h j (by omega) h2
  ·rw [if_neg hp]
   constructor
   ·intro h; omega
   ·intro h; exact absurd (h i (Nat.le_refl _) (by omega)) hp
theorem word_r (s:ByteArray) (hs:s.size≤4611686018427387904):m91 s=some (wordS s,()):=by
 refine T.eq ?_
 unfold m91 wordS
 have hl:=sLen_eq s
 refine T.grd (by first | (simp (disch:=omega) only [iLt_T,iLt_F,iLe_T,iLe_F,iEq_T,iEq_F,iNe_T,iNe_F,bnd_T,bnd_F,inB_T,inB_F,fits_T,fitsI_T,cutOk_T,someE_T,someE_F,leN_T,not_T,not_F,and_T,and_F,or_T,or_F,candF_T,candF_F,corT_T,corT_F,bEqT_T,bEqT_F,bEqF_T,bEqF_F,eq_self,or_true,true_or,and_true,true_and,or_false,false_or,and_false,false_and,not_true_eq_false,not_false_eq_true,Bool.true_eq_false,Bool.false_eq_true,iAdd64,iSub64,iMul64,lenI_eq,List.length_append,List.length_cons,List.length_nil,List.length_set,List.length_take,List.length_drop,List.length_replicate]; omega) | (simp (disch:=omega) only [iLt_T,iLt_F,iLe_T,iLe_F,iEq_T,iEq_F,iNe_T,iNe_F,bnd_T,bnd_F,inB_T,inB_F,fits_T,fitsI_T,cutOk_T,someE_T,someE_F,leN_T,not_T,not_F,and_T,and_F,or_T,or_F,candF_T,candF_F,corT_T,corT_F,bEqT_T,bEqT_F,bEqF_T,bEqF_F,eq_self,or_true,true_or,and_true,true_and,or_false,false_or,and_false,false_and,not_true_eq_false,not_false_eq_true,Bool.true_eq_false,Bool.false_eq_true,iAdd64,iSub64,iMul64,lenI_eq,List.length_append,List.length_cons,List.length_nil,List.length_set,List.length_take,List.length_drop,List.length_replicate]; done)) ?_
 refine T.cnd (fun hc=>?_) (fun hc=>?_) <;> simp only [iLt_T,iLt_F,iLe_T,iLe_F,iEq_T,iEq_F,iNe_T,iNe_F,bnd_T,bnd_F,inB_T,inB_F,fits_T,fitsI_T,cutOk_T,someE_T,someE_F,leN_T,not_T,not_F,and_T,and_F,or_T,or_F,candF_T,candF_F,corT_T,corT_F,bEqT_T,bEqT_F,bEqF_T,bEqF_F,eq_self,or_true,true_or,and_true,true_and,or_false,false_or,and_false,false_and,not_true_eq_false,not_false_eq_true,Bool.true_eq_false,Bool.false_eq_true] at hc
 ·refine T.grd (by first | (simp (disch:=omega) only [iLt_T,iLt_F,iLe_T,iLe_F,iEq_T,iEq_F,iNe_T,iNe_F,bnd_T,bnd_F,inB_T,inB_F,fits_T,fitsI_T,cutOk_T,someE_T,someE_F,leN_T,not_T,not_F,and_T,and_F,or_T,or_F,candF_T,candF_F,corT_T,corT_F,bEqT_T,bEqT_F,bEqF_T,bEqF_F,eq_self,or_true,true_or,and_true,true_and,or_false,false_or,and_false,false_and,not_true_eq_false,not_false_eq_true,Bool.true_eq_false,Bool.false_eq_true,iAdd64,iSub64,iMul64,lenI_eq,List.length_append,List.length_cons,List.length_nil,List.length_set,List.length_take,List.length_drop,List.length_replicate]; omega) | (simp (disch:=omega) only [iLt_T,iLt_F,iLe_T,iLe_F,iEq_T,iEq_F,iNe_T,iNe_F,bnd_T,bnd_F,inB_T,inB_F,fits_T,fitsI_T,cutOk_T,someE_T,someE_F,leN_T,not_T,not_F,and_T,and_F,or_T,or_F,candF_T,candF_F,corT_T,corT_F,bEqT_T,bEqT_F,bEqF_T,bEqF_F,eq_self,or_true,true_or,and_true,true_and,or_false,false_or,and_false,false_and,not_true_eq_false,not_false_eq_true,Bool.true_eq_false,Bool.false_eq_true,iAdd64,iSub64,iMul64,lenI_eq,List.length_append,List.length_cons,List.length_nil,List.length_set,List.length_take,List.length_drop,List.length_replicate]; done)) (T.ret ?_)
  rw [if_pos (by omega)]
 ·rw [if_neg (by omega)]
  have e1:iSub .i64 (sLen s) 1=(s.size:Int) - 1:=by rw [iSub64 (by omega) (by omega),hl]
  rw [e1]
  refine T.callE (let_r _) ?_
  refine T.grd (by first | (simp (disch:=omega) only [iLt_T,iLt_F,iLe_T,iLe_F,iEq_T,iEq_F,iNe_T,iNe_F,bnd_T,bnd_F,inB_T,inB_F,fits_T,fitsI_T,cutOk_T,someE_T,someE_F,leN_T,not_T,not_F,and_T,and_F,or_T,or_F,candF_T,candF_F,corT_T,corT_F,bEqT_T,bEqT_F,bEqF_T,bEqF_F,eq_self,or_true,true_or,and_true,true_and,or_false,false_or,and_false,false_and,not_true_eq_false,not_false_eq_true,Bool.true_eq_false,Bool.false_eq_true,iAdd64,iSub64,iMul64,lenI_eq,List.length_append,List.length_cons,List.length_nil,List.length_set,List.length_take,List.length_drop,List.length_replicate]; omega) | (simp (disch:=omega) only [iLt_T,iLt_F,iLe_T,iLe_F,iEq_T,iEq_F,iNe_T,iNe_F,bnd_T,bnd_F,inB_T,inB_F,fits_T,fitsI_T,cutOk_T,someE_T,someE_F,leN_T,not_T,not_F,and_T,and_F,or_T,or_F,candF_T,candF_F,corT_T,corT_F,bEqT_T,bEqT_F,bEqF_T,bEqF_F,eq_self,or_true,true_or,and_true,true_and,or_false,false_or,and_false,false_and,not_true_eq_false,not_false_eq_true,Bool.true_eq_false,Bool.false_eq_true,iAdd64,iSub64,iMul64,lenI_eq,List.length_append,List.length_cons,List.length_nil,List.length_set,List.length_take,List.length_drop,List.length_replicate]; done)) ?_
  refine T.cnd (fun hc=>T.ret ?_) (fun hc=>?_) <;> simp only [iLt_T,iLt_F,iLe_T,iLe_F,iEq_T,iEq_F,iNe_T,iNe_F,bnd_T,bnd_F,inB_T,inB_F,fits_T,fitsI_T,cutOk_T,someE_T,someE_F,leN_T,not_T,not_F,and_T,and_F,or_T,or_F,candF_T,candF_F,corT_T,corT_F,bEqT_T,bEqT_F,bEqF_T,bEqF_F,eq_self,or_true,true_or,and_true,true_and,or_false,false_or,and_false,false_and,not_true_eq_false,not_false_eq_true,Bool.true_eq_false,Bool.false_eq_true] at hc
  ·rw [if_neg]
   rintro ⟨q1,q2⟩
   rcases hc with q | q
   ·rw [q1] at q; cases q
   ·exact q2 q
  ·rw [if_pos ⟨hc.1,hc.2⟩]
   have key:=spanS_all isWrd s s.size 0 (by omega)
   refine T.loop (fun q=>∃ j:Nat,j≤s.size∧(∀ k,k < j→isWrd (sAt s (k:Int))=true)∧q=(s,(j:Int),())) (fun q=>s.size - q.2.1.toNat) ⟨0,by omega,fun k hk=>by omega,rfl⟩ ?_
   rintro _ ⟨j,hj,he,rfl⟩
   dsimp only
   have go:j < s.size→isWrd (sAt s (j:Int))=true→T (some (Sum.inl (β:=Bool × Unit) (s,iAdd .i64 (j:Int) 1,()))) (LQ (fun q=>∃ j:Nat,j≤s.size∧(∀ k,k < j→isWrd (sAt s (k:Int))=true)∧q=(s,(j:Int),())) (fun q=>s.size - q.2.1.toNat) (s.size - (j:Int).toNat) (fun x=>x=(decide (spanS isWrd s 0=s.size),()))):=fun hlt hw=>by
    refine T.go ⟨j + 1,by omega,fun k hk=>?_,by rw [iAdd64 (by omega) (by omega)]; rfl⟩ ?_
    ·rcases Nat.lt_or_ge k j with q | q
     ·exact he k q
     ·rw [show k=j by omega]; exact hw
    ·dsimp only; rw [iAdd64 (by omega) (by omega)]; omega
   refine T.cnd (fun hc=>?_) (fun hc=>?_) <;> simp only [iLt_T,iLt_F] at hc
   ·have hlt:j < s.size:=by omega
    refine T.grd (by first | (simp (disch:=omega) only [iLt_T,iLt_F,iLe_T,iLe_F,iEq_T,iEq_F,iNe_T,iNe_F,bnd_T,bnd_F,inB_T,inB_F,fits_T,fitsI_T,cutOk_T,someE_T,someE_F,leN_T,not_T,not_F,and_T,and_F,or_T,or_F,candF_T,candF_F,corT_T,corT_F,bEqT_T,bEqT_F,bEqF_T,bEqF_F,eq_self,or_true,true_or,and_true,true_and,or_false,false_or,and_false,false_and,not_true_eq_false,not_false_eq_true,Bool.true_eq_false,Bool.false_eq_true,iAdd64,iSub64,iMul64,lenI_eq,List.length_append,List.length_cons,List.length_nil,List.length_set,List.length_take,List.length_drop,List.length_replicate]; omega) | (simp (disch:=omega) only [iLt_T,iLt_F,iLe_T,iLe_F,iEq_T,iEq_F,iNe_T,iNe_F,bnd_T,bnd_F,inB_T,inB_F,fits_T,fitsI_T,cutOk_T,someE_T,someE_F,leN_T,not_T,not_F,and_T,and_F,or_T,or_F,candF_T,candF_F,corT_T,corT_F,bEqT_T,bEqT_F,bEqF_T,bEqF_F,eq_self,or_true,true_or,and_true,true_and,or_false,false_or,and_false,false_and,not_true_eq_false,not_false_eq_true,Bool.true_eq_false,Bool.false_eq_true,iAdd64,iSub64,iMul64,lenI_eq,List.length_append,List.length_cons,List.length_nil,List.length_set,List.length_take,List.length_drop,List.length_replicate]; done)) ?_
    refine T.callE (let_r _) ?_
    refine T.grd (by first | (simp (disch:=omega) only [iLt_T,iLt_F,iLe_T,iLe_F,iEq_T,iEq_F,iNe_T,iNe_F,bnd_T,bnd_F,inB_T,inB_F,fits_T,fitsI_T,cutOk_T,someE_T,someE_F,leN_T,not_T,not_F,and_T,and_F,or_T,or_F,candF_T,candF_F,corT_T,corT_F,bEqT_T,bEqT_F,bEqF_T,bEqF_F,eq_self,or_true,true_or,and_true,true_and,or_false,false_or,and_false,false_and,not_true_eq_false,not_false_eq_true,Bool.true_eq_false,Bool.false_eq_true,iAdd64,iSub64,iMul64,lenI_eq,List.length_append,List.length_cons,List.length_nil,List.length_set,List.length_take,List.length_drop,List.length_replicate]; omega) | (simp (disch:=omega) only [iLt_T,iLt_F,iLe_T,iLe_F,iEq_T,iEq_F,iNe_T,iNe_F,bnd_T,bnd_F,inB_T,inB_F,fits_T,fitsI_T,cutOk_T,someE_T,someE_F,leN_T,not_T,not_F,and_T,and_F,or_T,or_F,candF_T,candF_F,corT_T,corT_F,bEqT_T,bEqT_F,bEqF_T,bEqF_F,eq_self,or_true,true_or,and_true,true_and,or_false,false_or,and_false,false_and,not_true_eq_false,not_false_eq_true,Bool.true_eq_false,Bool.false_eq_true,iAdd64,iSub64,iMul64,lenI_eq,List.length_append,List.length_cons,List.length_nil,List.length_set,List.length_take,List.length_drop,List.length_replicate]; done)) ?_
    refine T.cnd (fun h1=>?_) (fun h1=>?_) <;> simp only [not_T,not_F] at h1
    ·refine T.callE (dig_r _) ?_
     refine T.grd (by first | (simp (disch:=omega) only [iLt_T,iLt_F,iLe_T,iLe_F,iEq_T,iEq_F,iNe_T,iNe_F,bnd_T,bnd_F,inB_T,inB_F,fits_T,fitsI_T,cutOk_T,someE_T,someE_F,leN_T,not_T,not_F,and_T,and_F,or_T,or_F,candF_T,candF_F,corT_T,corT_F,bEqT_T,bEqT_F,bEqF_T,bEqF_F,eq_self,or_true,true_or,and_true,true_and,or_false,false_or,and_false,false_and,not_true_eq_false,not_false_eq_true,Bool.true_eq_false,Bool.false_eq_true,iAdd64,iSub64,iMul64,lenI_eq,List.length_append,List.length_cons,List.length_nil,List.length_set,List.length_take,List.length_drop,List.length_replicate]; omega) | (simp (disch:=omega) only [iLt_T,iLt_F,iLe_T,iLe_F,iEq_T,iEq_F,iNe_T,iNe_F,bnd_T,bnd_F,inB_T,inB_F,fits_T,fitsI_T,cutOk_T,someE_T,someE_F,leN_T,not_T,not_F,and_T,and_F,or_T,or_F,candF_T,candF_F,corT_T,corT_F,bEqT_T,bEqT_F,bEqF_T,bEqF_F,eq_self,or_true,true_or,and_true,true_and,or_false,false_or,and_false,false_and,not_true_eq_false,not_false_eq_true,Bool.true_eq_false,Bool.false_eq_true,iAdd64,iSub64,iMul64,lenI_eq,List.length_append,List.length_cons,List.length_nil,List.length_set,List.length_take,List.length_drop,List.length_replicate]; done)) ?_
     refine T.cnd (fun h2=>T.out ?_) (fun h2=>?_) <;> simp only [iLt_T,iLt_F,iLe_T,iLe_F,iEq_T,iEq_F,iNe_T,iNe_F,bnd_T,bnd_F,inB_T,inB_F,fits_T,fitsI_T,cutOk_T,someE_T,someE_F,leN_T,not_T,not_F,and_T,and_F,or_T,or_F,candF_T,candF_F,corT_T,corT_F,bEqT_T,bEqT_F,bEqF_T,bEqF_F,eq_self,or_true,true_or,and_true,true_and,or_false,false_or,and_false,false_and,not_true_eq_false,not_false_eq_true,Bool.true_eq_false,Bool.false_eq_true] at h2
     ·rw [decide_eq_false]
      intro q
      have:=key.1 q j (by omega) hlt
      unfold isWrd at this
      rw [h1,h2.1] at this
      simp at this
      exact h2.2 this
     ·refine go hlt ?_
      unfold isWrd
      rcases h2 with q | q
      ·rw [q]; simp
      ·rw [decide_eq_true q]; simp
    ·refine T.grd (by first | (simp (disch:=omega) only [iLt_T,iLt_F,iLe_T,iLe_F,iEq_T,iEq_F,iNe_T,iNe_F,bnd_T,bnd_F,inB_T,inB_F,fits_T,fitsI_T,cutOk_T,someE_T,someE_F,leN_T,not_T,not_F,and_T,and_F,or_T,or_F,candF_T,candF_F,corT_T,corT_F,bEqT_T,bEqT_F,bEqF_T,bEqF_F,eq_self,or_true,true_or,and_true,true_and,or_false,false_or,and_false,false_and,not_true_eq_false,not_false_eq_true,Bool.true_eq_false,Bool.false_eq_true,iAdd64,iSub64,iMul64,lenI_eq,List.length_append,List.length_cons,List.length_nil,List.length_set,List.length_take,List.length_drop,List.length_replicate]; omega) | (simp (disch:=omega) only [iLt_T,iLt_F,iLe_T,iLe_F,iEq_T,iEq_F,iNe_T,iNe_F,bnd_T,bnd_F,inB_T,inB_F,fits_T,fitsI_T,cutOk_T,someE_T,someE_F,leN_T,not_T,not_F,and_T,and_F,or_T,or_F,candF_T,candF_F,corT_T,corT_F,bEqT_T,bEqT_F,bEqF_T,bEqF_F,eq_self,or_true,true_or,and_true,true_and,or_false,false_or,and_false,false_and,not_true_eq_false,not_false_eq_true,Bool.true_eq_false,Bool.false_eq_true,iAdd64,iSub64,iMul64,lenI_eq,List.length_append,List.length_cons,List.length_nil,List.length_set,List.length_take,List.length_drop,List.length_replicate]; done)) (go hlt ?_)
     unfold isWrd; rw [h1]; rfl
   ·refine T.out ?_
    rw [decide_eq_true]
    exact key.2 fun k _ hk=>he k (by omega)
theorem cond_some (a b:Bool):(cond a (some (true,())) (some (b,())):Option (Bool × Unit))=some (a || b,()):=by cases a <;> rfl
noncomputable def resS (s:ByteArray):Bool:=(m89 s).elim false fun y=>y.1
theorem res_m (s:ByteArray):m89 s=some (resS s,()):=by
 have h:∃ b,m89 s=some (b,()):=by
  unfold m89
  simp only [cond_some]
  exact ⟨_,rfl⟩
 obtain ⟨b,h⟩:=h
 unfold resS
 rw [h]; rfl
theorem res_r (s:ByteArray):m92 s=some (resS s,()):=(show m92 s=m89 s from rfl).trans (res_m s)
noncomputable def nameS (s:ByteArray):Bool:=wordS s && !resS s
theorem bl_inj {a b:ByteArray} (h:bytesI a=bytesI b):a=b:=by
 have key:∀ (l m:List UInt8),(l.map fun c=>(c.toNat:Int))=(m.map fun c=>(c.toNat:Int))→l=m:=by
  intro l
  induction l with
  | nil=>intro m h; cases m with
   | nil=>rfl
   | cons=>cases h
  | cons x l ih =>
   intro m h
   cases m with
   | nil=>cases h
   | cons y m =>
    simp only [List.map_cons,List.cons.injEq] at h
    have:x=y:=UInt8.toNat_inj.1 (by omega)
    rw [this,ih m h.2]
 have:=key _ _ h
 cases a; cases b
 simp at this; rw [this]
theorem sEq_dec (a b:ByteArray):sEq a b=decide (bytesI a=bytesI b):=by
 rcases h:sEq a b with _ | _
 ·rw [sEq_F] at h; symm; rw [decide_eq_false_iff_not]; exact fun q=>h (bl_inj q)
 ·rw [sEq_T] at h; subst h; symm; rw [decide_eq_true_eq]
theorem rem_pos {a b:Int} (h:0≤a):iRem a b=a % b:=by unfold iRem; rw [Int.tmod_eq_emod_of_nonneg h]
def eqB (a b:ByteArray):Bool:=decide (bytesI a=bytesI b)
theorem sEq_eqB (a b:ByteArray):sEq a b=eqB a b:=sEq_dec a b
theorem eqB_T {a b:ByteArray}:(eqB a b=true)=(a=b):=by rw [← sEq_eqB,sEq_T]
def RES:List ByteArray:=[bs [97,110,100],bs [97,118,101,114,97,103,101],bs [99,111,105,110,115,117,114,97,110,99,101],bs [99,111,110,100,105,116,105,111,110],bs [99,111,118,101,114],bs [100,101,100,117,99,116,105,98,108,101],bs [100,101,102,105,110,101],bs [101,110,100],bs [101,110,100,111,114,115,101],bs [101,120,99,108,117,100,101],bs [102,97,108,115,101],bs [102,114,97,110,99,104,105,115,101],bs [102,114,111,109],bs [105,110],bs [108,105,109,105,116],bs [110,111,116],bs [111,114],bs [114,101,109,111,118,101],bs [115,117,98,108,105,109,105,116],bs [116,111],bs [116,114,117,101],bs [117,110,108,101,115,115],bs [119,104,101,110]]
theorem res_dec (s:ByteArray):resS s=RES.any (fun w=>eqB s w):=by
 unfold resS m89
 simp only [cond_some,sEq_eqB,Option.elim,RES,List.any_cons,List.any_nil,Bool.or_false]
def nameD (s:ByteArray):Bool:=wordS s && !RES.any (fun w=>eqB s w)
theorem nameS_D (s:ByteArray):nameS s=nameD s:=by unfold nameS nameD; rw [res_dec]
theorem word_all (s:ByteArray):m88 s=some (wordS s,()):=by
 by_cases h:s.size≤4611686018427387904
 ·exact word_m s h
 ·refine T.eq ?_
  unfold m88 wordS
  have hl:=sLen_eq s
  refine T.grd (by rw [or_T,bnd_T]; left; omega) ?_
  refine T.ct (by rw [corT_T,iEq_T,iLt_T]; omega) ?_
  refine T.grd (by rw [or_T]; right; rfl) (T.ret ?_)
  rw [if_pos (by omega)]
theorem word_allr (s:ByteArray):m91 s=some (wordS s,()):=by
 by_cases h:s.size≤4611686018427387904
 ·exact word_r s h
 ·refine T.eq ?_
  unfold m91 wordS
  have hl:=sLen_eq s
  refine T.grd (by rw [or_T,bnd_T]; left; omega) ?_
  refine T.ct (by rw [corT_T,iLt_T,iLt_T]; omega) ?_
  refine T.grd (by rw [or_T]; right; rfl) (T.ret ?_)
  rw [if_pos (by omega)]
theorem nm (s:ByteArray):m73 s=some (nameD s,()):=by
 rw [← nameS_D]
 unfold m73 nameS
 rw [word_all s,res_m]
 cases wordS s <;> rfl
theorem nr (s:ByteArray):m77 s=some (nameD s,()):=by
 rw [← nameS_D]
 unfold m77 nameS
 rw [word_allr s,res_r]
 cases wordS s <;> rfl
theorem contains_m (l:List ByteArray) (w:ByteArray) (hl:l.length≤9223372036854775807):m102 l w=some (l.any (fun x=>eqB w x),()):=by
 refine T.eq ?_
 unfold m102 m107
 refine T.call (P:=fun y=>(0≤y.1 ↔ l.any (fun x=>eqB w x)=true)) ?_ ?_
 ·refine T.loop (fun q=>∃ i:Nat,i≤l.length∧(l.take i).any (fun x=>eqB w x)=false∧q=(l,w,lenI l,(i:Int),())) (fun q=>l.length - q.2.2.2.1.toNat) ⟨0,by omega,rfl,rfl⟩ ?_
  rintro _ ⟨i,hi,hf,rfl⟩
  dsimp only
  refine T.cnd (fun hc=>?_) (fun hc=>?_) <;> simp only [iLt_T,iLt_F,lenI_eq] at hc
  ·have hlt:i < l.length:=by omega
   refine T.grd (by rw [bnd_T,lenI_eq]; omega) ?_
   have ea:atI l (i:Int) ByteArray.empty=l[i]:=by unfold atI; rw [Int.toNat_natCast,List.getD_eq_getElem?_getD,List.getElem?_eq_getElem hlt]; rfl
   rw [ea,sEq_eqB]
   refine T.cnd (fun hc2=>T.out ?_) (fun hc2=>T.go ⟨i + 1,by omega,?_,?_⟩ ?_)
   ·dsimp only
    refine ⟨fun _=>List.any_eq_true.2 ⟨l[i],List.getElem_mem hlt,hc2⟩,fun _=>by omega⟩
   ·rw [List.take_succ_eq_append_getElem hlt,List.any_append,hf]
    simp [hc2]
   ·rw [iAdd64 (by omega) (by omega)]; rfl
   ·dsimp only; rw [iAdd64 (by omega) (by omega)]; omega
  ·refine T.out ?_
   obtain rfl:i=l.length:=by omega
   rw [List.take_length] at hf
   dsimp only
   rw [hf]; simp
 ·rintro ⟨v,_⟩ hv
  refine T.ret ?_
  dsimp only at hv ⊢
  congr 1
  rcases h:l.any (fun x=>eqB w x) with _ | _
  ·rw [h] at hv; rw [iLe_F]; have:¬ 0≤v:=fun q=>by have:=hv.1 q; cases this
   omega
  ·rw [h] at hv; rw [iLe_T]; exact hv.2 rfl
def dupW (l:List ByteArray) (i:Nat):Bool:=(l.take i).any (fun x=>eqB (l.getD i ByteArray.empty) x)
def wordsS (l:List ByteArray):Int:=if l.length=0 then 19 else if 12 < l.length then 4 else if l.all nameD=true then (if (List.range l.length).any (dupW l)=true then 8 else 0) else 6
theorem at_get {α:Type} (l:List α) (i:Nat) (z:α) (h:i < l.length):atI l (i:Int) z=l[i]:=by unfold atI; rw [Int.toNat_natCast,List.getD_eq_getElem?_getD,List.getElem?_eq_getElem h]; rfl
theorem all_take {α:Type} (l:List α) (p:α→Bool) (i:Nat) (h:i < l.length) (hf:(l.take i).all p=true) (hp:p l[i]=true):(l.take (i + 1)).all p=true:=by
 rw [List.take_succ_eq_append_getElem h,List.all_append,hf]; simp [hp]
theorem all_not {α:Type} (l:List α) (p:α→Bool) (i:Nat) (h:i < l.length) (hp:p l[i]=false):l.all p=false:=by
 rcases q:l.all p with _ | _
 ·rfl
 ·have:=List.all_eq_true.1 q l[i] (List.getElem_mem h); rw [hp] at this; cases this
theorem words_m (l:List ByteArray):m90 l=some (wordsS l,()):=by
 refine T.eq ?_
 unfold m90 wordsS
 refine T.cnd (fun hc=>T.ret ?_) (fun hc=>?_) <;> simp only [iEq_T,iEq_F,lenI_eq] at hc
 ·rw [if_pos (by omega)]
 rw [if_neg (by omega)]
 refine T.cnd (fun hc=>T.ret ?_) (fun hc=>?_) <;> simp only [iLt_T,iLt_F,lenI_eq] at hc
 ·rw [if_pos (by omega)]
 rw [if_neg (by omega)]
 have hL:=lenI_eq l
 refine T.loop (fun q=>∃ i:Nat,i≤l.length∧(l.take i).all nameD=true∧q=(l,l,lenI l,(i:Int),())) (fun q=>l.length - q.2.2.2.1.toNat) ⟨0,by omega,rfl,rfl⟩ ?_
 rintro _ ⟨i,hi,hf,rfl⟩
 dsimp only
 refine T.cnd (fun hc=>?_) (fun hc=>?_) <;> simp only [iLt_T,iLt_F] at hc
 ·have hlt:i < l.length:=by omega
  refine T.grd (by rw [bnd_T]; omega) ?_
  rw [at_get l i _ hlt]
  refine T.callE (nm _) ?_
  dsimp only
  refine T.cnd (fun hc2=>T.out ?_) (fun hc2=>T.go ⟨i + 1,by omega,?_,?_⟩ ?_)
  ·rw [not_T] at hc2; rw [if_neg (by rw [all_not l nameD i hlt hc2]; simp)]
  ·rw [not_F] at hc2; exact all_take l nameD i hlt hf hc2
  ·rw [iAdd64 (by omega) (by omega)]; rfl
  ·dsimp only; rw [iAdd64 (by omega) (by omega)]; omega
 obtain rfl:i=l.length:=by omega
 rw [List.take_length] at hf
 rw [if_pos hf]
 refine T.mapL ?_
 refine T.loop (fun q=>∃ i:Nat,i≤l.length∧(List.range i).any (dupW l)=false∧q=(l,l,lenI l,(i:Int),())) (fun q=>l.length - q.2.2.2.1.toNat) ⟨0,by omega,rfl,rfl⟩ ?_
 rintro _ ⟨i,hi,hg,rfl⟩
 dsimp only
 refine T.cnd (fun hc=>?_) (fun hc=>?_) <;> simp only [iLt_T,iLt_F] at hc
 ·have hlt:i < l.length:=by omega
  refine T.grd (by rw [bnd_T]; omega) ?_
  refine T.grd (by rw [cutOk_T]; omega) ?_
  have hcut:cutL 0 (i:Int) l=l.take i:=by unfold cutL; rw [Int.toNat_natCast]; rfl
  rw [hcut]
  refine T.callE (contains_m _ _ (by rw [List.length_take]; omega)) ?_
  have hd:(l.take i).any (fun x=>eqB (atI l (i:Int) ByteArray.empty) x)=dupW l i:=by unfold dupW atI; rw [Int.toNat_natCast]
  rw [hd]
  dsimp only
  refine T.cnd (fun hc2=>T.out ?_) (fun hc2=>T.go ⟨i + 1,by omega,?_,?_⟩ ?_)
  ·rw [if_pos (List.any_eq_true.2 ⟨i,List.mem_range.2 hlt,hc2⟩)]
  ·rw [List.range_succ,List.any_append,hg]; simp [hc2]
  ·rw [iAdd64 (by omega) (by omega)]; rfl
  ·dsimp only; rw [iAdd64 (by omega) (by omega)]; omega
 ·obtain rfl:i=l.length:=by omega
  refine T.out ?_
  rw [if_neg (by rw [hg]; simp)]
theorem names_r (l:List ByteArray) (hl:l.length≤12):m93 l=some (l.all nameD,()):=by
 refine T.eq ?_
 unfold m93
 have hL:=lenI_eq l
 refine T.loop (fun q=>∃ i:Nat,i≤l.length∧(l.take i).all nameD=true∧q=(l,(i:Int),())) (fun q=>l.length - q.2.1.toNat) ⟨0,by omega,rfl,rfl⟩ ?_
 rintro _ ⟨i,hi,hf,rfl⟩
 dsimp only
 refine T.cnd (fun hc=>?_) (fun hc=>?_) <;> simp only [iLt_T,iLt_F] at hc
 ·have hlt:i < l.length:=by omega
  refine T.grd (by rw [bnd_T]; omega) ?_
  rw [at_get l i _ hlt]
  refine T.callE (nr _) ?_
  dsimp only
  refine T.cnd (fun hc2=>T.out ?_) (fun hc2=>T.go ⟨i + 1,by omega,?_,?_⟩ ?_)
  ·rw [not_T] at hc2; rw [all_not l nameD i hlt hc2]
  ·rw [not_F] at hc2; exact all_take l nameD i hlt hf hc2
  ·rw [iAdd64 (by omega) (by omega)]; rfl
  ·dsimp only; rw [iAdd64 (by omega) (by omega)]; omega
 ·obtain rfl:i=l.length:=by omega
  rw [List.take_length] at hf
  exact T.out (by rw [hf])
theorem distinct_r (l:List ByteArray) (hl:l.length≤12):m94 l=some (!(List.range l.length).any (dupW l),()):=by
 refine T.eq ?_
 unfold m94
 have hL:=lenI_eq l
 refine T.loop (fun q=>∃ i:Nat,i≤l.length∧(List.range i).any (dupW l)=false∧q=(l,(i:Int),())) (fun q=>l.length - q.2.1.toNat) ⟨0,by omega,rfl,rfl⟩ ?_
 rintro _ ⟨i,hi,hg,rfl⟩
 dsimp only
 refine T.cnd (fun hc=>?_) (fun hc=>?_) <;> simp only [iLt_T,iLt_F] at hc
 ·have hlt:i < l.length:=by omega
  have hd:dupW l i=(l.take i).any (fun x=>eqB l[i] x):=by unfold dupW; rw [List.getD_eq_getElem?_getD,List.getElem?_eq_getElem hlt]; rfl
  refine T.loop (fun q=>∃ j:Nat,j≤i∧(l.take j).any (fun x=>eqB l[i] x)=false∧q=(l,(i:Int),(j:Int),())) (fun q=>i - q.2.2.1.toNat) ⟨0,by omega,rfl,rfl⟩ ?_
  rintro _ ⟨j,hj,hf,rfl⟩
  dsimp only
  refine T.cnd (fun hc2=>?_) (fun hc2=>?_) <;> simp only [iLt_T,iLt_F] at hc2
  ·have hjl:j < l.length:=by omega
   refine T.grd (by rw [bnd_T]; omega) ?_
   refine T.grd (by rw [bnd_T]; omega) ?_
   rw [at_get l i _ hlt,at_get l j _ hjl,sEq_eqB]
   refine T.cnd (fun hc3=>T.out ?_) (fun hc3=>T.go ⟨j + 1,by omega,?_,?_⟩ ?_)
   ·show _=_
    have:dupW l i=true:=by
     rw [hd]; refine List.any_eq_true.2 ⟨l[j],?_,hc3⟩
     exact List.mem_iff_getElem.2 ⟨j,by rw [List.length_take]; omega,by rw [List.getElem_take]⟩
    rw [List.any_eq_true.2 ⟨i,List.mem_range.2 hlt,this⟩]; rfl
   ·rw [List.take_succ_eq_append_getElem hjl,List.any_append,hf]; simp [hc3]
   ·rw [iAdd64 (by omega) (by omega)]; rfl
   ·dsimp only; rw [iAdd64 (by omega) (by omega)]; omega
  ·obtain rfl:j=i:=by omega
   refine T.out ⟨⟨j + 1,by omega,?_,?_⟩,?_⟩
   ·rw [List.range_succ,List.any_append,hg]; simp [hd,hf]
   ·rw [iAdd64 (by omega) (by omega)]; rfl
   ·dsimp only; rw [iAdd64 (by omega) (by omega)]; omega
 ·obtain rfl:i=l.length:=by omega
  exact T.out (by rw [hg]; rfl)
def attrS (a:DS0):Int :=
 if a.2.1=1 then (if a.2.2.2.1 ≠ 0∨a.2.2.2.2.1 ≠ 0 then 20 else wordsS a.2.2.1)
 else if a.2.1=2 then (if 0 < a.2.2.1.length then 20 else if a.2.2.2.2.1 < a.2.2.2.1∨a.2.2.2.1 < -1000000000∨1000000000 < a.2.2.2.2.1 then 1 else 0)
 else if a.2.1=3 then (if 0 < a.2.2.1.length∨a.2.2.2.1 ≠ 0∨a.2.2.2.2.1 ≠ 0 then 20 else 0) else 11
theorem attr_m (a:DS0):m75 a=some (attrS a,()):=by
 refine T.eq ?_
 unfold m75 attrS
 have hL:=lenI_eq a.2.2.1
 refine T.cnd (fun c1=>?_) (fun c1=>?_) <;> simp only [iEq_T,iEq_F] at c1
 ·rw [if_pos c1]
  refine T.cnd (fun c2=>T.ret ?_) (fun c2=>?_) <;> simp only [corT_T,corT_F,iNe_T,iNe_F] at c2
  ·rw [if_pos (by omega)]
  ·rw [if_neg (by omega)]; exact T.callE (words_m _) (T.ret rfl)
 rw [if_neg c1]
 refine T.cnd (fun c1=>?_) (fun c1=>?_) <;> simp only [iEq_T,iEq_F] at c1
 ·rw [if_pos c1]
  refine T.cnd (fun c2=>T.ret ?_) (fun c2=>?_) <;> simp only [iLt_T,iLt_F] at c2
  ·rw [if_pos (by omega)]
  ·rw [if_neg (by omega)]
   refine T.cnd (fun c2=>T.ret ?_) (fun c2=>T.ret ?_) <;> simp only [corT_T,corT_F,iLt_T,iLt_F] at c2
   ·rw [if_pos (by omega)]
   ·rw [if_neg (by omega)]
 rw [if_neg c1]
 refine T.cnd (fun c1=>?_) (fun c1=>?_) <;> simp only [iEq_T,iEq_F] at c1
 ·rw [if_pos c1]
  refine T.cnd (fun c2=>T.ret ?_) (fun c2=>T.ret ?_) <;> simp only [corT_T,corT_F,iLt_T,iLt_F,iNe_T,iNe_F] at c2
  ·rw [if_pos (by omega)]
  ·rw [if_neg (by omega)]
 ·rw [if_neg c1]; exact T.ret rfl
theorem attr_r (a:DS0):m78 a=some (attrS a,()):=by
 refine T.eq ?_
 unfold m78 attrS
 have hL:=lenI_eq a.2.2.1
 refine T.cnd (fun c1=>?_) (fun c1=>?_) <;> simp only [iEq_T,iEq_F] at c1
 ·rw [if_pos c1]
  refine T.cnd (fun c2=>T.ret ?_) (fun c2=>?_) <;> simp only [corT_T,corT_F,iNe_T,iNe_F] at c2
  ·rw [if_pos (by omega)]
  ·rw [if_neg (by omega)]
   unfold wordsS
   refine T.cnd (fun c2=>T.ret ?_) (fun c2=>?_) <;> simp only [iEq_T,iEq_F] at c2
   ·rw [if_pos (by omega)]
   rw [if_neg (by omega)]
   refine T.cnd (fun c2=>T.ret ?_) (fun c2=>?_) <;> simp only [iLt_T,iLt_F] at c2
   ·rw [if_pos (by omega)]
   rw [if_neg (by omega)]
   refine T.callE (names_r _ (by omega)) ?_
   dsimp only
   refine T.cnd (fun c3=>T.ret ?_) (fun c3=>?_) <;> simp only [not_T,not_F] at c3
   ·rw [if_neg (by rw [c3]; simp)]
   rw [if_pos c3]
   refine T.callE (distinct_r _ (by omega)) ?_
   dsimp only
   refine T.cnd (fun c4=>T.ret ?_) (fun c4=>T.ret ?_) <;> simp only [not_T,not_F] at c4
   ·rw [if_pos c4]
   ·rw [if_neg (by rw [c4]; simp)]
 rw [if_neg c1]
 refine T.cnd (fun c1=>?_) (fun c1=>?_) <;> simp only [iEq_T,iEq_F] at c1
 ·rw [if_pos c1]
  refine T.cnd (fun c2=>T.ret ?_) (fun c2=>?_) <;> simp only [iLt_T,iLt_F] at c2
  ·rw [if_pos (by omega)]
  rw [if_neg (by omega)]
  refine T.cnd (fun c3=>T.ret ?_) (fun c3=>?_) <;> simp only [iLt_T,iLt_F] at c3
  ·rw [if_pos (by omega)]
  unfold m95
  refine T.bind (T.ret ?_)
  refine T.cnd (fun c4=>T.ret ?_) (fun c4=>?_) <;> simp only [corT_T,corT_F,iLt_T,iLt_F] at c4
  ·rw [if_pos (by omega)]
  refine T.bind (T.ret ?_)
  refine T.cnd (fun c5=>T.ret ?_) (fun c5=>T.ret ?_) <;> simp only [corT_T,corT_F,iLt_T,iLt_F] at c5
  ·rw [if_pos (by omega)]
  ·rw [if_neg (by omega)]
 rw [if_neg c1]
 refine T.cnd (fun c1=>?_) (fun c1=>?_) <;> simp only [iEq_T,iEq_F] at c1
 ·rw [if_pos c1]
  refine T.cnd (fun c2=>T.ret ?_) (fun c2=>T.ret ?_) <;> simp only [corT_T,corT_F,iLt_T,iLt_F,iNe_T,iNe_F] at c2
  ·rw [if_pos (by omega)]
  ·rw [if_neg (by omega)]
 ·rw [if_neg c1]; exact T.ret rfl
def zA:DS0:=(ByteArray.empty,0,[],0,0,())
def dupN (l:List DS0) (i:Nat):Bool:=(l.take i).any (fun x=>eqB x.1 (l.getD i zA).1)
def chk (l:List DS0) (i:Nat):Int:=if nameD (l.getD i zA).1=false then 6 else if dupN l i=true then 8 else attrS (l.getD i zA)
def valF (l:List DS0):Nat→Nat→Int
 | 0,_=>0
 | n + 1,i=>if chk l i ≠ 0 then chk l i else valF l n (i + 1)
def valS (l:List DS0):Int:=if l.length=0 then 19 else if 6 < l.length then 4 else valF l l.length 0
theorem getD_eq {α:Type} (l:List α) (i:Nat) (z:α) (h:i < l.length):l.getD i z=l[i]:=by rw [List.getD_eq_getElem?_getD,List.getElem?_eq_getElem h]; rfl
theorem atI_getD {α:Type} (l:List α) (i:Nat) (z:α):atI l (i:Int) z=l.getD i z:=by unfold atI; rw [Int.toNat_natCast]
theorem index_T (l:List DS0) (i:Nat) (hi:i < l.length) (hl:l.length≤6):T (m74 (l,()) (l.getD i zA).1) (fun y=>(y.1 < (i:Int)) ↔ dupN l i=true):=by
 unfold m74
 have hL:=lenI_eq l
 generalize hw:(l.getD i zA).1=w
 have hd:dupN l i=(l.take i).any (fun x=>eqB x.1 w):=by unfold dupN; rw [hw]
 rw [hd]
 refine T.loop (fun q=>∃ j:Nat,j≤i∧(l.take j).any (fun x=>eqB x.1 w)=false∧q=(w,l,lenI l,(j:Int),())) (fun q=>l.length - q.2.2.2.1.toNat) ⟨0,by omega,rfl,rfl⟩ ?_
 rintro _ ⟨j,hj,hf,rfl⟩
 dsimp only
 refine T.ct (by rw [iLt_T]; omega) ?_
 have hjl:j < l.length:=by omega
 refine T.grd (by rw [bnd_T]; omega) ?_
 rw [at_get l j _ hjl,sEq_eqB]
 refine T.cnd (fun hc=>T.out ?_) (fun hc=>T.go ⟨j + 1,?_,?_,?_⟩ ?_)
 ·dsimp only
  constructor
  ·intro q
   refine List.any_eq_true.2 ⟨l[j],List.mem_iff_getElem.2 ⟨j,by rw [List.length_take]; omega,by rw [List.getElem_take]⟩,hc⟩
  ·intro q
   rcases Nat.lt_or_ge j i with r | r
   ·omega
   ·obtain rfl:j=i:=by omega
    rw [hf] at q; cases q
 ·rcases Nat.lt_or_ge j i with r | r
  ·omega
  ·obtain rfl:j=i:=by omega
   rw [getD_eq l j _ hjl] at hw
   rw [hw] at hc
   have:eqB w w=true:=by rw [eqB_T]
   rw [this] at hc; cases hc
 ·rw [List.take_succ_eq_append_getElem hjl,List.any_append,hf]; simp [hc]
 ·rw [iAdd64 (by omega) (by omega)]; rfl
 ·dsimp only; rw [iAdd64 (by omega) (by omega)]; omega
theorem val_m (s:DS5):m38 s=some (valS s.1,()):=by
 obtain ⟨l,⟨⟩⟩:=s
 refine T.eq ?_
 unfold m38 valS
 dsimp only
 have hL:=lenI_eq l
 refine T.cnd (fun hc=>T.ret ?_) (fun hc=>?_) <;> simp only [iEq_T,iEq_F] at hc
 ·rw [if_pos (by omega)]
 rw [if_neg (by omega)]
 refine T.cnd (fun hc=>T.ret ?_) (fun hc=>?_) <;> simp only [iLt_T,iLt_F] at hc
 ·rw [if_pos (by omega)]
 rw [if_neg (by omega)]
 generalize htg:valF l l.length 0=tgt
 refine T.loop (fun q=>∃ n i:Nat,i + n=l.length∧valF l n i=tgt∧q=(l,lenI l,(i:Int),l,())) (fun q=>l.length - q.2.2.1.toNat) ⟨l.length,0,by omega,htg,rfl⟩ ?_
 rintro _ ⟨n,i,hn,he,rfl⟩
 dsimp only
 refine T.cnd (fun hc1=>?_) (fun hc1=>?_) <;> simp only [iLt_T,iLt_F] at hc1
 ·have hi:i < l.length:=by omega
  obtain ⟨n,rfl⟩:∃ m,n=m + 1:=⟨n - 1,by omega⟩
  simp only [valF] at he
  refine T.grd (by rw [bnd_T]; omega) ?_
  have ea:atI l (i:Int) (ByteArray.empty,0,[],0,0,())=l.getD i zA:=atI_getD l i zA
  rw [ea]
  refine T.callE (nm _) ?_
  dsimp only
  refine T.cnd (fun c1=>T.out ?_) (fun c1=>?_) <;> simp only [not_T,not_F] at c1
  ·rw [show chk l i=6 by unfold chk; rw [if_pos c1],if_pos (by decide)] at he; exact he ▸ rfl
  have k1:chk l i=if dupN l i=true then 8 else attrS (l.getD i zA):=by unfold chk; rw [if_neg (by rw [c1]; simp)]
  refine T.call (index_T l i hi (by omega)) (fun y hy=>?_)
  refine T.cnd (fun c2=>T.out ?_) (fun c2=>?_) <;> simp only [iLt_T,iLt_F] at c2
  ·rw [if_pos (hy.1 c2)] at k1; rw [k1,if_pos (by decide)] at he; exact he ▸ rfl
  rw [if_neg (fun q=>by have:=hy.2 q; omega)] at k1
  rw [k1] at he
  refine T.callE (attr_m (l.getD i zA)) ?_
  dsimp only
  refine T.cnd (fun c3=>T.out ?_) (fun c3=>T.go ⟨n,i + 1,by omega,?_,?_⟩ ?_) <;> simp only [iNe_T,iNe_F] at c3
  ·rw [if_pos c3] at he; exact he ▸ rfl
  ·rw [if_neg (by rw [c3]; simp)] at he; exact he
  ·rw [iAdd64 (by omega) (by omega)]; rfl
  ·dsimp only; rw [iAdd64 (by omega) (by omega)]; omega
 ·obtain rfl:n=0:=by omega
  exact T.out (he ▸ rfl)
theorem val_r (s:DS5):m41 s=some (valS s.1,()):=by
 obtain ⟨l,⟨⟩⟩:=s
 refine T.eq ?_
 unfold m41 valS
 dsimp only
 have hL:=lenI_eq l
 refine T.cnd (fun hc=>T.ret ?_) (fun hc=>?_) <;> simp only [iEq_T,iEq_F] at hc
 ·rw [if_pos (by omega)]
 rw [if_neg (by omega)]
 refine T.cnd (fun hc=>T.ret ?_) (fun hc=>?_) <;> simp only [iLt_T,iLt_F] at hc
 ·rw [if_pos (by omega)]
 rw [if_neg (by omega)]
 generalize htg:valF l l.length 0=tgt
 refine T.loop (fun q=>∃ n i:Nat,i + n=l.length∧valF l n i=tgt∧q=((i:Int),l,())) (fun q=>l.length - q.1.toNat) ⟨l.length,0,by omega,htg,rfl⟩ ?_
 rintro _ ⟨n,i,hn,he,rfl⟩
 dsimp only
 refine T.cnd (fun hc1=>?_) (fun hc1=>?_) <;> simp only [iLt_T,iLt_F] at hc1
 ·have hi:i < l.length:=by omega
  obtain ⟨n,rfl⟩:∃ m,n=m + 1:=⟨n - 1,by omega⟩
  simp only [valF] at he
  refine T.grd (by rw [bnd_T]; omega) ?_
  have ea:atI l (i:Int) (ByteArray.empty,0,[],0,0,())=l.getD i zA:=atI_getD l i zA
  rw [ea]
  refine T.callE (nr _) ?_
  dsimp only
  refine T.cnd (fun c1=>T.out ?_) (fun c1=>?_) <;> simp only [not_T,not_F] at c1
  ·rw [show chk l i=6 by unfold chk; rw [if_pos c1],if_pos (by decide)] at he; exact he ▸ rfl
  have k1:chk l i=if dupN l i=true then 8 else attrS (l.getD i zA):=by unfold chk; rw [if_neg (by rw [c1]; simp)]
  obtain ⟨w,hw⟩:∃ w,l.getD i zA=w:=⟨_,rfl⟩
  have hd:dupN l i=(l.take i).any (fun x=>eqB x.1 w.1):=by unfold dupN; rw [hw]
  rw [hw,hd] at k1
  rw [hw]
  refine T.loop (fun q=>∃ j:Nat,j≤i∧(l.take j).any (fun x=>eqB x.1 w.1)=false∧q=((i:Int),(j:Int),l,w.1,w.2.1,w.2.2.1,w.2.2.2.1,w.2.2.2.2.1,())) (fun q=>i - q.2.1.toNat) ⟨0,by omega,rfl,rfl⟩ ?_
  rintro _ ⟨j,hj,hf,rfl⟩
  dsimp only
  refine T.cnd (fun hc2=>?_) (fun hc2=>?_) <;> simp only [iLt_T,iLt_F] at hc2
  ·have hjl:j < l.length:=by omega
   refine T.grd (by rw [bnd_T]; omega) ?_
   rw [at_get l j _ hjl,sEq_eqB]
   refine T.cnd (fun hc3=>T.out ?_) (fun hc3=>T.go ⟨j + 1,by omega,?_,?_⟩ ?_)
   ·show ((8:Int),())=(tgt,())
    rw [if_pos (List.any_eq_true.2 ⟨l[j],List.mem_iff_getElem.2 ⟨j,by rw [List.length_take]; omega,by rw [List.getElem_take]⟩,hc3⟩)] at k1
    rw [k1,if_pos (by decide)] at he
    exact he ▸ rfl
   ·rw [List.take_succ_eq_append_getElem hjl,List.any_append,hf]; simp [hc3]
   ·rw [iAdd64 (by omega) (by omega)]; rfl
   ·dsimp only; rw [iAdd64 (by omega) (by omega)]; omega
  ·obtain rfl:j=i:=by omega
   rw [if_neg (by rw [hf]; simp)] at k1
   rw [k1] at he
   refine T.mapL ?_
   refine T.callE (attr_r (w.1,w.2.1,w.2.2.1,w.2.2.2.1,w.2.2.2.2.1,())) ?_
   have ew:((w.1,w.2.1,w.2.2.1,w.2.2.2.1,w.2.2.2.2.1,()):DS0)=w:=rfl
   rw [ew]
   dsimp only
   refine T.cnd (fun c3=>T.ret ?_) (fun c3=>T.ret ⟨⟨n,j + 1,by omega,?_,?_⟩,?_⟩) <;> simp only [iNe_T,iNe_F] at c3
   ·show (attrS w,())=(tgt,())
    rw [if_pos c3] at he; exact he ▸ rfl
   ·rw [if_neg (by rw [c3]; simp)] at he; exact he
   ·rw [iAdd64 (by omega) (by omega)]; rfl
   ·dsimp only; rw [iAdd64 (by omega) (by omega)]; omega
 ·obtain rfl:n=0:=by omega
  exact T.out (he ▸ rfl)
theorem valF_ok (l:List DS0):∀ n i,valF l n i=0→∀ j,i≤j→j < i + n→chk l j=0:=by
 intro n
 induction n with
 | zero=>intro i _ j h1 h2; omega
 | succ n ih =>
  intro i h j h1 h2
  simp only [valF] at h
  by_cases q:chk l i ≠ 0
  ·rw [if_pos q] at h; exact absurd h q
  ·rw [if_neg q] at h
   rcases Nat.eq_or_lt_of_le h1 with r | r
   ·subst r; simpa using q
   ·exact ih (i + 1) h j (by omega) (by omega)
theorem val_ok {l:List DS0} (h:valS l=0):1≤l.length∧l.length≤6∧∀ a ∈ l,nameD a.1=true∧attrS a=0:=by
 unfold valS at h
 by_cases q:l.length=0
 ·rw [if_pos q] at h; cases h
 rw [if_neg q] at h
 by_cases q2:6 < l.length
 ·rw [if_pos q2] at h; cases h
 rw [if_neg q2] at h
 refine ⟨by omega,by omega,fun a ha=>?_⟩
 obtain ⟨j,hj,rfl⟩:=List.mem_iff_getElem.1 ha
 have:=valF_ok l l.length 0 h j (by omega) (by omega)
 unfold chk at this
 rw [getD_eq l j zA hj] at this
 rcases c:nameD (l[j]).1 with _ | _
 ·rw [if_pos c] at this; cases this
 ·rw [if_neg (by rw [c]; simp)] at this
  by_cases d:dupN l j=true
  ·rw [if_pos d] at this; cases this
  ·rw [if_neg d] at this; exact ⟨rfl,this⟩
def domS (a:DS0):Int × Int:=if a.2.1=1 then (0,(a.2.2.1.length:Int) - 1) else if a.2.1=2 then (a.2.2.2.1,a.2.2.2.2.1) else (0,1)
theorem words_len {l:List ByteArray} (h:wordsS l=0):1≤l.length∧l.length≤12∧∀ w ∈ l,nameD w=true:=by
 unfold wordsS at h
 by_cases q:l.length=0
 ·rw [if_pos q] at h; cases h
 rw [if_neg q] at h
 by_cases q2:12 < l.length
 ·rw [if_pos q2] at h; cases h
 rw [if_neg q2] at h
 by_cases q3:l.all nameD=true
 ·exact ⟨by omega,by omega,fun w hw=>List.all_eq_true.1 q3 w hw⟩
 ·rw [if_neg q3] at h; cases h
theorem attr_ok {a:DS0} (h:attrS a=0):(a.2.1=1∧1≤a.2.2.1.length∧a.2.2.1.length≤12∧(∀ w ∈ a.2.2.1,nameD w=true))∨(a.2.1=2∧a.2.2.2.1≤a.2.2.2.2.1∧-1000000000≤a.2.2.2.1∧a.2.2.2.2.1≤1000000000)∨a.2.1=3:=by
 unfold attrS at h
 by_cases c1:a.2.1=1
 ·rw [if_pos c1] at h
  by_cases c2:a.2.2.2.1 ≠ 0∨a.2.2.2.2.1 ≠ 0
  ·rw [if_pos c2] at h; cases h
  ·rw [if_neg c2] at h; have:=words_len h; exact .inl ⟨c1,this.1,this.2.1,this.2.2⟩
 rw [if_neg c1] at h
 by_cases c2:a.2.1=2
 ·rw [if_pos c2] at h
  by_cases c3:0 < a.2.2.1.length
  ·rw [if_pos c3] at h; cases h
  rw [if_neg c3] at h
  by_cases c4:a.2.2.2.2.1 < a.2.2.2.1∨a.2.2.2.1 < -1000000000∨1000000000 < a.2.2.2.2.1
  ·rw [if_pos c4] at h; cases h
  ·exact .inr (.inl ⟨c2,by omega,by omega,by omega⟩)
 rw [if_neg c2] at h
 by_cases c3:a.2.1=3
 ·exact .inr (.inr c3)
 ·rw [if_neg c3] at h; cases h
theorem dom_bd {a:DS0} (h:attrS a=0):(domS a).1≤(domS a).2∧-1000000000≤(domS a).1∧(domS a).2≤1000000000:=by
 unfold domS
 rcases attr_ok h with ⟨k,h1,h2,_⟩ | ⟨k,h1,h2,h3⟩ | k
 ·rw [if_pos k]; dsimp only; omega
 ·rw [if_neg (by omega),if_pos k]; exact ⟨h1,h2,h3⟩
 ·rw [if_neg (by omega),if_neg (by omega)]; decide
theorem dom_m {a:DS0} (h:attrS a=0):m76 a=some ((domS a).1,(domS a).2,()):=by
 refine T.eq ?_
 unfold m76 domS
 have hL:=lenI_eq a.2.2.1
 refine T.cnd (fun c1=>?_) (fun c1=>?_) <;> simp only [iEq_T,iEq_F] at c1
 ·rcases attr_ok h with ⟨k,h1,h2,_⟩ | ⟨k,_⟩ | k
  ·rw [if_pos c1,iSub64 (by omega) (by omega),hL]; exact T.ret rfl
  ·omega
  ·omega
 rw [if_neg c1]
 refine T.cnd (fun c2=>?_) (fun c2=>?_) <;> simp only [iEq_T,iEq_F] at c2
 ·rw [if_pos c2]; exact T.ret rfl
 ·rw [if_neg c2]; exact T.ret rfl
theorem dom_r (l:List DS0) (i:Nat) (hi:i < l.length) (h:valS l=0):m42 (l,()) (i:Int)=some ((domS l[i]).1,(domS l[i]).2,()):=by
 refine T.eq ?_
 unfold m42
 have hL:=lenI_eq l
 obtain ⟨v1,v2,v3⟩:=val_ok h
 have ha:=(v3 _ (List.getElem_mem hi)).2
 refine T.callE (val_r (l,())) ?_
 dsimp only
 refine T.cf (by rw [corT_F,corT_F,iNe_F,iLt_F,iLe_F]; omega) ?_
 refine T.grd (by rw [bnd_T]; omega) ?_
 rw [at_get l i _ hi]
 unfold domS
 have hL2:=lenI_eq (l[i]).2.2.1
 refine T.cnd (fun c1=>?_) (fun c1=>?_) <;> simp only [iEq_T,iEq_F] at c1
 ·rcases attr_ok ha with ⟨k,h1,h2,_⟩ | ⟨k,_⟩ | k
  ·rw [if_pos c1,iSub64 (by omega) (by omega),hL2]; exact T.ret rfl
  ·omega
  ·omega
 rw [if_neg c1]
 refine T.cnd (fun c2=>?_) (fun c2=>?_) <;> simp only [iEq_T,iEq_F] at c2
 ·rw [if_pos c2]; exact T.ret rfl
 ·rw [if_neg c2]; exact T.ret rfl
def inD (l:List DS0) (f:List Int) (i:Nat):Bool:=decide ((domS (l.getD i zA)).1≤f.getD i 0∧f.getD i 0≤(domS (l.getD i zA)).2)
def validS (l:List DS0) (f:List Int):Bool:=decide (valS l=0) && decide (f.length=l.length) && (List.range l.length).all (inD l f)
theorem within_T (a n:Int) (ha:-9223372036854775808≤a∧a≤9223372036854775807) (hn:0 < n) (hn2:n≤4611686018427387904):T (m16 a n) (fun y=>0≤y.1∧y.1 < n):=by
 unfold m16
 refine T.grd (by rw [iNe_T]; omega) (T.grd (by rw [iNe_T]; omega) (T.ret ?_))
 have h1:iRem a n=a.tmod n:=rfl
 have h2:a.tmod n < n:=Int.tmod_lt_of_pos a hn
 have h3:-n < a.tmod n:=by have:=Int.lt_tmod_of_pos a hn; omega
 dsimp only
 rw [h1,iAdd64 (by omega) (by omega)]
 have h4:iRem (a.tmod n + n) n=(a.tmod n + n) % n:=rem_pos (by omega)
 rw [h4]
 exact ⟨Int.emod_nonneg _ (by omega),Int.emod_lt_of_pos _ hn⟩
def sch:Nat→List DS0
 | 0=>([((bs [112,101,114,105,108]),1,([(bs [102,105,114,101]),(bs [102,108,111,111,100]),(bs [119,105,110,100]),(bs [116,104,101,102,116])]:List ByteArray),0,0,()),((bs [115,116,111,114,101,121,115]),2,([]:List ByteArray),1,9,()),((bs [97,108,97,114,109]),3,([]:List ByteArray),0,0,())]:List DS0)
 | 1=>([((bs [110]),2,([]:List ByteArray),(-5),20,())]:List DS0)
 | 2=>([((bs [97]),3,([]:List ByteArray),0,0,()),((bs [114,111,108,101]),1,([(bs [99,114,101,119]),(bs [103,117,101,115,116])]:List ByteArray),0,0,()),((bs [98]),3,([]:List ByteArray),0,0,())]:List DS0)
 | 3=>([((bs [110]),2,([]:List ByteArray),(-1000000000),1000000000,()),((bs [116]),3,([]:List ByteArray),0,0,())]:List DS0)
 | 4=>([((bs [111,110,101]),1,([(bs [111,110,108,121])]:List ByteArray),0,0,()),((bs [112,101,114,105,108]),1,([(bs [102,105,114,101]),(bs [102,108,111,111,100]),(bs [119,105,110,100]),(bs [116,104,101,102,116])]:List ByteArray),0,0,()),((bs [110]),2,([]:List ByteArray),0,6,()),((bs [116]),3,([]:List ByteArray),0,0,())]:List DS0)
 | _=>([((bs [116]),3,([]:List ByteArray),0,0,())]:List DS0)
theorem sch_m (k:Int) (hk:-9223372036854775808≤k∧k≤9223372036854775807):∃ j:Nat,j < 6∧m15 k=some ((sch j,()),()):=by
 obtain ⟨⟨v,_⟩,h1,h2,h3⟩:=within_T k 6 hk (by omega) (by omega)
 unfold m15
 rw [h1]
 dsimp only at h2 h3 ⊢
 refine ⟨v.toNat,by omega,?_⟩
 have:v=0∨v=1∨v=2∨v=3∨v=4∨v=5:=by omega
 rcases this with rfl | rfl | rfl | rfl | rfl | rfl <;> rfl
theorem sch_val:∀ j:Nat,j < 6→valS (sch j)=0:=by
 intro j hj
 match j,hj with
 | 0,_=>exact (by kernel_rfl:valS (sch 0)=0)
 | 1,_=>exact (by kernel_rfl:valS (sch 1)=0)
 | 2,_=>exact (by kernel_rfl:valS (sch 2)=0)
 | 3,_=>exact (by kernel_rfl:valS (sch 3)=0)
 | 4,_=>exact (by kernel_rfl:valS (sch 4)=0)
 | 5,_=>exact (by kernel_rfl:valS (sch 5)=0)
theorem facts_T (l:List DS0) (h:valS l=0) {L:List Int} {a0:Int} (hd:DeckOk L a0):T (m24 (l,()) L a0) (fun y=>DeckOk y.1 y.2.1∧validS l y.2.2.1=true):=by
 unfold m24
 have hL:=lenI_eq l
 obtain ⟨v1,v2,v3⟩:=val_ok h
 refine T.loop (fun q=>∃ (i:Nat) (K:List Int) (a:Int) (f:List Int),i≤l.length∧DeckOk K a∧f.length=i∧(List.range i).all (inD l f)=true∧q=((i:Int),K,a,l,f,())) (fun q=>l.length - q.1.toNat) ⟨0,L,a0,[],by omega,hd,rfl,rfl,rfl⟩ ?_
 rintro _ ⟨i,K,a,f,hi,hk,hf,hg,rfl⟩
 dsimp only
 refine T.cnd (fun hc=>?_) (fun hc=>?_) <;> simp only [iLt_T,iLt_F] at hc
 ·have hlt:i < l.length:=by omega
  have hb:=dom_bd (v3 _ (List.getElem_mem hlt)).2
  refine T.callE (dom_r l i hlt h) ?_
  dsimp only
  have ed:∀ v:Int,(domS l[i]).1≤v→v≤(domS l[i]).2→(List.range (i + 1)).all (inD l (f ++ [v]))=true:=by
   intro v a1 a2
   refine List.all_eq_true.2 fun j hj=>?_
   have hj:=List.mem_range.1 hj
   rcases Nat.lt_or_ge j i with r | r
   ·have:=List.all_eq_true.1 hg j (List.mem_range.2 r)
    unfold inD at this ⊢
    rw [List.getD_eq_getElem?_getD (l:=f ++ [v]),List.getElem?_append_left (by omega),← List.getD_eq_getElem?_getD]
    exact this
   ·obtain rfl:j=i:=by omega
    unfold inD
    rw [decide_eq_true_eq,getD_eq l j zA hlt,List.getD_eq_getElem?_getD,List.getElem?_append_right (by omega),hf,Nat.sub_self]
    exact ⟨a1,a2⟩
  have add:∀ (K':List Int) (a' v:Int),DeckOk K' a'→(domS l[i]).1≤v→v≤(domS l[i]).2→T (cond (fits (List.length f + List.length ([v]:List Int)) 8) (some (Sum.inl (β:=List Int × Int × List Int × Unit) (iAdd .i64 (i:Int) 1,K',a',l,f ++ [v],()))) none) (LQ (fun q=>∃ (i:Nat) (K:List Int) (a:Int) (f:List Int),i≤l.length∧DeckOk K a∧f.length=i∧(List.range i).all (inD l f)=true∧q=((i:Int),K,a,l,f,())) (fun q=>l.length - q.1.toNat) (l.length - (i:Int).toNat) (fun y=>DeckOk y.1 y.2.1∧validS l y.2.2.1=true)):=by
   intro K' a' v k1 k2 k3
   refine T.grd (by rw [fits_T,List.length_singleton]; omega) (T.go ⟨i + 1,K',a',f ++ [v],by omega,k1,by rw [List.length_append,List.length_singleton,hf],ed v k2 k3,?_⟩ ?_)
   ·rw [iAdd64 (by omega) (by omega)]; rfl
   ·dsimp only; rw [iAdd64 (by omega) (by omega)]; omega
  rw [iSub64 (by omega) (by omega),iAdd64 (by omega) (by omega)]
  refine T.call (next_T hk (by omega) (by omega)) (fun y ⟨n1,n2,n3⟩=>?_)
  refine T.call (next_T n1 (by omega) (by omega)) (fun z ⟨z1,z2,z3⟩=>?_)
  refine T.cnd (fun _=>?_) (fun _=>?_)
  ·exact add _ _ _ z1 (by omega) (by omega)
  refine T.cnd (fun _=>?_) (fun _=>?_)
  ·exact add _ _ _ z1 (by omega) (by omega)
  refine T.cnd (fun _=>?_) (fun _=>?_)
  ·refine T.call (next_T z1 (by omega) (by omega)) (fun u ⟨u1,u2,u3⟩=>?_)
   rw [iSub64 (by omega) (by omega)]
   refine add _ _ _ u1 ?_ ?_
   ·unfold iMin iMax; omega
   ·unfold iMin iMax; omega
  ·rw [iAdd64 (by omega) (by omega)]
   exact add _ _ _ z1 (by omega) (by omega)
 ·obtain rfl:i=l.length:=by omega
  refine T.out ⟨hk,?_⟩
  dsimp only
  unfold validS
  rw [decide_eq_true h,decide_eq_true hf,hg]; rfl
def zN:DS1:=(0,[],[],())
def zS:DS3:=(0,0,())
def doms (l:List DS0):List DS3:=l.map fun a=>((domS a).1,(domS a).2,())
theorem doms_len (l:List DS0):(doms l).length=l.length:=by simp [doms]
theorem doms_get (l:List DS0) (i:Nat) (h:i < l.length):(doms l).getD i zS=((domS l[i]).1,(domS l[i]).2,()):=by
 rw [getD_eq _ _ _ (by rw [doms_len]; exact h)]; simp [doms]
def DmOk (dm:List DS3):Prop:=1≤dm.length∧dm.length≤6∧∀ d ∈ dm,d.1≤d.2.1∧-1000000000≤d.1∧d.2.1≤1000000000
theorem doms_ok {l:List DS0} (h:valS l=0):DmOk (doms l):=by
 obtain ⟨v1,v2,v3⟩:=val_ok h
 refine ⟨by rw [doms_len]; exact v1,by rw [doms_len]; exact v2,fun d hd=>?_⟩
 obtain ⟨a,ha,rfl⟩:=List.mem_map.1 hd
 exact dom_bd (v3 a ha).2
theorem DmOk.at {dm:List DS3} (h:DmOk dm) {i:Nat} (hi:i < dm.length):(dm.getD i zS).1≤(dm.getD i zS).2.1∧-1000000000≤(dm.getD i zS).1∧(dm.getD i zS).2.1≤1000000000:=by
 rw [getD_eq _ _ _ hi]; exact h.2.2 _ (List.getElem_mem hi)
theorem dom_sc (l:List DS0) (i:Nat) (hi:i < l.length) (h:valS l=0):m39 (l,()) (i:Int)=some ((domS l[i]).1,(domS l[i]).2,()):=by
 have v:=val_ok h
 refine T.eq ?_
 unfold m39
 refine T.callE (val_m _) ?_
 have hL:=lenI_eq l
 dsimp only
 refine T.cf (by rw [corT_F,corT_F,iNe_F,iLt_F,iLe_F]; exact ⟨⟨h,by omega⟩,by omega⟩) ?_
 refine T.grd (by rw [bnd_T]; omega) ?_
 rw [show atI l (i:Int) (ByteArray.empty,0,[],0,0,())=l[i] from at_get l i _ hi]
 exact T.callE (dom_m (v.2.2 _ (List.getElem_mem hi)).2) (T.ret rfl)
theorem doms_m (l:List DS0) (h:valS l=0):m50 (l,())=some (doms l,()):=by
 refine T.eq ?_
 unfold m50
 have v:=val_ok h
 have hL:=lenI_eq l
 refine T.grd (by rw [fitsI_T]; dsimp only; omega) ?_
 refine T.loop (fun q=>∃ (i:Nat) (r:List DS3),i≤l.length∧r.length=l.length∧(∀ j,j < i→r.getD j zS=(doms l).getD j zS)∧q=((l.length:Int),(i:Int),l,r,())) (fun q=>l.length - q.2.1.toNat) ⟨0,List.replicate l.length zS,by omega,by simp,fun j hj=>by omega,?_⟩ ?_
 ·dsimp only
  rw [hL,Int.toNat_natCast,lenI_eq,List.length_replicate]
  rfl
 rintro _ ⟨i,r,hi,hr,hg,rfl⟩
 dsimp only
 refine T.cnd (fun hc=>?_) (fun hc=>?_) <;> simp only [iLt_T,iLt_F] at hc
 ·have hlt:i < l.length:=by omega
  refine T.callE (dom_sc l i hlt h) ?_
  have hr1:=lenI_eq r
  have hS:=lenI_eq (List.set r (i:Int).toNat ((domS l[i]).1,(List.getD r (i:Int).toNat (0,0,())).2.1,()))
  rw [List.length_set] at hS
  refine T.grd (by rw [bnd_T]; omega) (T.grd (by rw [inB_T]; omega) (T.grd (by rw [bnd_T]; dsimp only; omega) (T.grd (by rw [inB_T,List.length_set]; omega) ?_)))
  refine T.go ⟨i + 1,_,by omega,?_,?_,by rw [iAdd64 (by omega) (by omega)]; rfl⟩ (by dsimp only; rw [iAdd64 (by omega) (by omega)]; omega)
  ·simp [hr]
  ·intro j hj
   rw [Int.toNat_natCast]
   have hjl:j < l.length:=by omega
   rw [doms_get l j hjl]
   by_cases e:j=i
   ·subst e
    rw [getD_eq _ _ _ (by simp [hr]; omega)]
    simp
    rw [List.getElem?_set_self (by omega)]
    rfl
   ·have hx:=hg j (by omega)
    rw [doms_get l j hjl] at hx
    rw [List.getD_eq_getElem?_getD,List.getElem?_set_ne (by omega),List.getElem?_set_ne (by omega),← List.getD_eq_getElem?_getD]
    exact hx
 ·obtain rfl:i=l.length:=by omega
  refine T.out ?_
  congr 1
  apply List.ext_getElem (by rw [hr,doms_len])
  intro j h1 h2
  have:=hg j (by rw [← hr]; exact h1)
  rwa [getD_eq _ _ _ h1,getD_eq _ _ _ h2] at this
theorem same_m (a b:List Int) (h:a.length≤9223372036854775807):m23 a b=some (decide (a=b),()):=by
 refine T.eq ?_
 unfold m23
 have hA:=lenI_eq a
 have hB:=lenI_eq b
 refine T.cnd (fun hc=>?_) (fun hc=>?_) <;> simp only [iNe_T,iNe_F] at hc
 ·refine T.ret ?_
  rw [decide_eq_false (fun e=>by subst e; exact hc rfl)]
 refine T.loop (fun q=>∃ i:Nat,i≤a.length∧(∀ j,j < i→a.getD j 0=b.getD j 0)∧q=(a,b,(i:Int),())) (fun q=>a.length - q.2.2.1.toNat) ⟨0,by omega,fun j hj=>by omega,rfl⟩ ?_
 rintro _ ⟨i,hi,hg,rfl⟩
 dsimp only
 refine T.cnd (fun hc=>?_) (fun hc=>?_) <;> simp only [iLt_T,iLt_F] at hc
 ·refine T.grd (by rw [bnd_T]; omega) (T.grd (by rw [bnd_T]; omega) (T.cnd (fun hd=>?_) (fun hd=>?_))) <;> simp only [iNe_T,iNe_F,atI_getD] at hd
  ·exact T.out (by rw [decide_eq_false (fun e=>by subst e; exact hd rfl)])
  ·refine T.go ⟨i + 1,by omega,fun j hj=>?_,by rw [iAdd64 (by omega) (by omega)]; rfl⟩ (by dsimp only; rw [iAdd64 (by omega) (by omega)]; omega)
   rcases Nat.lt_or_ge j i with r | r
   ·exact hg j r
   ·obtain rfl:j=i:=by omega
    exact hd
 ·refine T.out ?_
  rw [decide_eq_true]
  apply List.ext_getElem (by omega)
  intro j h1 h2
  have:=hg j (by omega)
  rwa [getD_eq _ _ _ h1,getD_eq _ _ _ h2] at this
def RefOk (n:Nat) (r:Int):Prop:=-256≤r∧r < (n:Int)
instance (n:Nat) (r:Int):Decidable (RefOk n r):=inferInstanceAs (Decidable (_∧_))
theorem ref_m (x:DS2) (r:Int):m59 x r=some (decide (RefOk x.1.length r),()):=by
 unfold m59
 show some (cond (iLe (iSub .i64 (-1) 255) r) (iLt r (lenI x.1)) false,())=_
 rw [iSub64 (by omega) (by omega),lenI_eq]
 have:cond (iLe (-1 - 255) r) (iLt r (x.1.length:Int)) false=decide (RefOk x.1.length r):=by
  rw [Bool.eq_iff_iff,candF_T,iLe_T,iLt_T,decide_eq_true_eq]
  unfold RefOk
  constructor <;> intro h <;> omega
 rw [this]
def SoundN (dm:List DS3) (ns:List DS1) (x:DS1):Prop :=
 0≤x.1∧x.1 < (dm.length:Int)∧0 < x.2.1.length∧x.2.2.1.length=x.2.1.length + 1 ∧
 (∀ k,k < x.2.1.length→(dm.getD x.1.toNat zS).1 < x.2.1.getD k 0∧x.2.1.getD k 0≤(dm.getD x.1.toNat zS).2.1∧(0 < k→x.2.1.getD (k - 1) 0 < x.2.1.getD k 0)) ∧
 (∀ k,k < x.2.2.1.length→RefOk ns.length (x.2.2.1.getD k 0)∧(0 < k→x.2.2.1.getD k 0 ≠ x.2.2.1.getD (k - 1) 0)∧(0≤x.2.2.1.getD k 0→x.1 < (ns.getD (x.2.2.1.getD k 0).toNat zN).1))
theorem rise_len {cs:List Int} {lo hi:Int} (h:∀ k,k < cs.length→lo < cs.getD k 0∧cs.getD k 0≤hi∧(0 < k→cs.getD (k - 1) 0 < cs.getD k 0)):∀ k,k < cs.length→lo + k + 1≤cs.getD k 0:=by
 intro k
 induction k with
 | zero=>intro hk; have:=(h 0 hk).1; omega
 | succ k ih=>intro hk; have h1:=ih (by omega); have h2:=(h (k + 1) hk).2.2 (by omega); rw [Nat.add_sub_cancel] at h2; omega
theorem SoundN.len {dm:List DS3} {ns:List DS1} {x:DS1} (h:SoundN dm ns x) (hd:DmOk dm):x.2.1.length≤2000000000∧x.2.2.1.length≤2000000001:=by
 obtain ⟨h1,h2,h3,h4,h5,_⟩:=h
 have hb:=hd.at (i:=x.1.toNat) (by omega)
 have:=rise_len h5 (x.2.1.length - 1) (by omega)
 have h6:=(h5 (x.2.1.length - 1) (by omega)).2.1
 omega
theorem sound_m {dm:List DS3} (hd:DmOk dm) (ns:List DS1) (root:Int) (x:DS1) (h1:x.2.1.length≤9223372036854775807) (h2:x.2.2.1.length≤9223372036854775807) (hn:ns.length≤9223372036854775807):T (m60 (ns,root,()) x dm) (fun y=>y.1=true ↔ SoundN dm ns x):=by
 obtain ⟨a,cs,nx,⟨⟩⟩:=x
 dsimp only at h1 h2
 unfold m60
 have hC:=lenI_eq cs
 have hX:=lenI_eq nx
 have hD:=lenI_eq dm
 have hd1:=hd.1
 have hd2:=hd.2.1
 dsimp only
 by_cases hmx:cs.length=9223372036854775807
 ·refine T.ct ?_ (T.ret ⟨fun h=>(by cases h),fun h=>?_⟩)
  ·have e1:iAdd .i64 ((9223372036854775807:Nat):Int) 1=-9223372036854775808:=by decide
   rw [corT_T]
   right
   rw [iNe_T,hX,hC,hmx,e1]; omega
  ·have:=h.2.2.2.1
   dsimp only at this
   omega
 rw [hC,hX,hD,iAdd64 (by omega) (by omega)]
 refine T.cnd (fun hc=>?_) (fun hc=>?_) <;> simp only [corT_T,corT_F,iLt_T,iLt_F,iLe_T,iLe_F,iEq_T,iEq_F,iNe_T,iNe_F] at hc
 ·refine T.ret ⟨fun h=>(by cases h),fun h=>?_⟩
  obtain ⟨k1,k2,k3,k4,_⟩:=h
  dsimp only at k1 k2 k3 k4
  omega
 obtain ⟨⟨⟨c1,c2⟩,c3⟩,c4⟩:=hc
 refine T.grd (by rw [bnd_T]; omega) ?_
 refine T.loop (fun q=>∃ i:Nat,i≤cs.length∧(∀ k,k < i→(dm.getD a.toNat zS).1 < cs.getD k 0∧cs.getD k 0≤(dm.getD a.toNat zS).2.1∧(0 < k→cs.getD (k - 1) 0 < cs.getD k 0))∧q=(dm,(if i=0 then (dm.getD a.toNat zS).1 else cs.getD (i - 1) 0),cs,(cs.length:Int),(i:Int),ns,root,a,cs,nx,())) (fun q=>cs.length - q.2.2.2.2.1.toNat) ⟨0,by omega,fun k hk=>by omega,rfl⟩ ?_
 rintro _ ⟨i,hi,hg,rfl⟩
 dsimp only
 have eA:atI dm a (0,0,())=dm.getD a.toNat zS:=rfl
 rw [hC,hX,hD,eA,atI_getD]
 refine T.cnd (fun hc=>?_) (fun hc=>?_) <;> simp only [iLt_T,iLt_F] at hc
 ·have hlt:i < cs.length:=by omega
  refine T.grd (by rw [bnd_T]; omega) (T.grd (by rw [or_T,bnd_T]; exact .inl ⟨by omega,by omega⟩) (T.cnd (fun hc2=>?_) (fun hc2=>?_))) <;> simp only [corT_T,corT_F,iLt_T,iLt_F,iLe_T,iLe_F] at hc2
  ·refine T.out ⟨fun h=>(by cases h),fun h=>?_⟩
   have k5:=h.2.2.2.2.1 i hlt
   dsimp only at k5
   by_cases e:i=0
   ·rw [if_pos e] at hc2; omega
   ·rw [if_neg e] at hc2; have:=k5.2.2 (by omega); omega
  ·refine T.go ⟨i + 1,by omega,fun k hk=>?_,?_⟩ (by dsimp only; rw [iAdd64 (by omega) (by omega)]; omega)
   ·rcases Nat.lt_or_ge k i with r | r
    ·exact hg k r
    ·obtain rfl:k=i:=by omega
     by_cases e:k=0
     ·rw [if_pos e] at hc2; exact ⟨by omega,by omega,fun q=>by omega⟩
     ·rw [if_neg e] at hc2; have:=hg (k - 1) (by omega); exact ⟨by omega,by omega,fun _=>by omega⟩
   ·rw [iAdd64 (by omega) (by omega),if_neg (by omega),Nat.add_sub_cancel]; rfl
 ·obtain rfl:i=cs.length:=by omega
  refine T.mapL ?_
  refine T.loop (fun q=>∃ j:Nat,j≤nx.length∧(∀ k,k < j→RefOk ns.length (nx.getD k 0)∧(0 < k→nx.getD k 0 ≠ nx.getD (k - 1) 0)∧(0≤nx.getD k 0→a < (ns.getD (nx.getD k 0).toNat zN).1))∧q=(nx,(nx.length:Int),(j:Int),ns,root,a,cs,nx,())) (fun q=>nx.length - q.2.2.1.toNat) ⟨0,by omega,fun k hk=>by omega,rfl⟩ ?_
  rintro _ ⟨j,hj,hgj,rfl⟩
  dsimp only
  have hN:=lenI_eq ns
  rw [hX,atI_getD]
  refine T.cnd (fun hc=>?_) (fun hc=>?_) <;> simp only [iLt_T,iLt_F] at hc
  ·have hlt:j < nx.length:=by omega
   refine T.grd (by rw [bnd_T]; omega) (T.callE (ref_m _ _) ?_)
   dsimp only
   refine T.cnd (fun hc2=>?_) (fun hc2=>?_) <;> simp only [not_T,not_F,decide_eq_true_eq,decide_eq_false_iff_not] at hc2
   ·refine T.out ⟨fun h=>(by cases h),fun h=>?_⟩
    exact absurd (h.2.2.2.2.2 j hlt).1 hc2
   have hj1:0 < j→(iSub .i64 (j:Int) 1)=((j - 1:Nat):Int):=fun q=>by rw [iSub64 (by omega) (by omega)]; omega
   refine T.grd ?_ (T.cnd (fun hc3=>?_) (fun hc3=>?_))
   ·rw [or_T]
    by_cases q:0 < j
    ·left; rw [hj1 q,bnd_T]; omega
    ·right; rw [not_T,bEqT_F,iLt_F]; omega
   ·rw [candF_T,iLt_T,iEq_T] at hc3
    rw [hj1 (by omega),atI_getD] at hc3
    refine T.out ⟨fun h=>(by cases h),fun h=>?_⟩
    exact absurd hc3.2 ((h.2.2.2.2.2 j hlt).2.1 (by omega))
   refine T.grd ?_ (T.cnd (fun hc4=>?_) (fun hc4=>?_))
   ·rw [or_T]
    by_cases q:0≤nx.getD j 0
    ·left; rw [bnd_T,hN]; exact ⟨q,hc2.2⟩
    ·right; rw [not_T,bEqT_F,iLe_F]; omega
   ·rw [candF_T,iLe_T,iLe_T] at hc4
    refine T.out ⟨fun h=>(by cases h),fun h=>?_⟩
    have:=(h.2.2.2.2.2 j hlt).2.2 hc4.1
    have h4:(ns.getD (nx.getD j 0).toNat zN).1≤a:=hc4.2
    dsimp only at this
    omega
   ·refine T.go ⟨j + 1,by omega,fun k hk=>?_,by rw [iAdd64 (by omega) (by omega)]; rfl⟩ (by dsimp only; rw [iAdd64 (by omega) (by omega)]; omega)
    rcases Nat.lt_or_ge k j with r | r
    ·exact hgj k r
    ·obtain rfl:k=j:=by omega
     refine ⟨hc2,fun q e=>?_,fun q=>?_⟩
     ·rw [candF_F,iLt_F,iEq_F,hj1 q,atI_getD] at hc3
      rcases hc3 with r | r
      ·omega
      ·exact r e
     ·rw [candF_F,iLe_F,iLe_F] at hc4
      rcases hc4 with r | r
      ·omega
      ·exact r
  ·obtain rfl:j=nx.length:=by omega
   exact T.out ⟨fun _=>⟨by dsimp only; omega,by dsimp only; omega,by dsimp only; omega,by dsimp only; omega,hg,hgj⟩,fun _=>rfl⟩
end Abs
end Go.Proofs.YtgfnhpadmifiiaaDoor
section
namespace Go.Proofs.YtgfnhpadmifiiaaDoor
namespace Abs
def kids (ns:List DS1) (r:Nat):List Int:=(ns.getD r zN).2.2.1
def numS (ns:List DS1):Nat→List Nat→Int→List Nat
 | 0,ord,_=>ord
 | f + 1,ord,r=>if r < 0∨r.toNat ∈ ord then ord else (kids ns r.toNat).foldl (numS ns f) (ord ++ [r.toNat])
def Ranked (ns:List DS1) (rk:Nat→Nat):Prop:=∀ r,r < ns.length→(kids ns r).length≤2000000001∧∀ c ∈ kids ns r,c < (ns.length:Int)∧(0≤c→rk c.toNat < rk r)
def rkI (rk:Nat→Nat) (r:Int):Nat:=if r < 0 then 0 else rk r.toNat + 1
def OrdOk (n:Nat) (ord:List Nat):Prop:=ord.Nodup∧∀ x ∈ ord,x < n
theorem nodup_len:∀ (n:Nat) (l:List Nat),l.Nodup→(∀ x ∈ l,x < n)→l.length≤n:=by
 intro n
 induction n with
 | zero=>intro l _ h; cases l with
  | nil=>simp
  | cons x l=>exact absurd (h x (by simp)) (by omega)
 | succ n ih =>
  intro l hn h
  by_cases hm:n ∈ l
  ·have h1:=ih (l.erase n) (hn.erase n) (fun x hx=>by
    have:=(hn.mem_erase_iff).1 hx
    have:=h x this.2
    omega)
   rw [List.length_erase_of_mem hm] at h1
   omega
  ·have:=ih l hn (fun x hx=>by
    have:=h x hx
    have:x ≠ n:=fun e=>hm (e ▸ hx)
    omega)
   omega
theorem OrdOk.len {n:Nat} {ord:List Nat} (h:OrdOk n ord):ord.length≤n:=nodup_len n ord h.1 h.2
theorem OrdOk.snoc {n:Nat} {ord:List Nat} (h:OrdOk n ord) {r:Nat} (hr:r < n) (hm:r ∉ ord):OrdOk n (ord ++ [r]):=by
 refine ⟨?_,fun x hx=>?_⟩
 ·rw [List.nodup_append]
  exact ⟨h.1,by simp,fun a ha b hb=>by simp at hb; subst hb; exact fun e=>hm (e ▸ ha)⟩
 ·rcases List.mem_append.1 hx with q | q
  ·exact h.2 x q
  ·simp at q; omega
section
variable {ns:List DS1} {rk:Nat→Nat}
theorem numS_neg (f:Nat) (ord:List Nat) {r:Int} (h:r < 0):numS ns f ord r=ord:=by
 cases f with
 | zero=>rfl
 | succ f=>simp only [numS]; rw [if_pos (.inl h)]
theorem numS_in (f:Nat) (ord:List Nat) {r:Int} (h:r.toNat ∈ ord):numS ns f ord r=ord:=by
 cases f with
 | zero=>rfl
 | succ f=>simp only [numS]; rw [if_pos (.inr h)]
theorem numS_step {f:Nat} {ord:List Nat} {r:Int} (hr:0≤r) (hm:r.toNat ∉ ord) (hf:rkI rk r≤f):∃ f',f=f' + 1∧rk r.toNat≤f'∧numS ns f ord r=(kids ns r.toNat).foldl (numS ns f') (ord ++ [r.toNat]):=by
 unfold rkI at hf
 rw [if_neg (by omega)] at hf
 obtain ⟨f',rfl⟩:∃ f',f=f' + 1:=⟨f - 1,by omega⟩
 refine ⟨f',rfl,by omega,?_⟩
 simp only [numS]
 rw [if_neg (by rintro (q | q); omega; exact hm q)]
theorem foldl_ok (hR:Ranked ns rk) (f:Nat) (hf:∀ (c:Int) (ord:List Nat),c < (ns.length:Int)→OrdOk ns.length ord→OrdOk ns.length (numS ns f ord c)∧∃ t,numS ns f ord c=ord ++ t):∀ (cs:List Int),(∀ c ∈ cs,c < (ns.length:Int))→∀ ord,OrdOk ns.length ord→OrdOk ns.length (cs.foldl (numS ns f) ord)∧∃ t,cs.foldl (numS ns f) ord=ord ++ t:=by
 intro cs
 induction cs with
 | nil=>intro _ ord h; exact ⟨h,[],by simp⟩
 | cons c cs ih =>
  intro hc ord h
  obtain ⟨h1,t1,e1⟩:=hf c ord (hc c (by simp)) h
  obtain ⟨h2,t2,e2⟩:=ih (fun x hx=>hc x (by simp [hx])) _ h1
  rw [List.foldl_cons]
  exact ⟨h2,t1 ++ t2,by rw [e2,e1,List.append_assoc]⟩
theorem numS_ok (hR:Ranked ns rk):∀ (f:Nat) (c:Int) (ord:List Nat),c < (ns.length:Int)→OrdOk ns.length ord→OrdOk ns.length (numS ns f ord c)∧∃ t,numS ns f ord c=ord ++ t:=by
 intro f
 induction f with
 | zero=>intro c ord _ h; exact ⟨h,[],by simp [numS]⟩
 | succ f ih =>
  intro c ord hc h
  simp only [numS]
  split
  ·exact ⟨h,[],by simp⟩
  ·rename_i q
   have h0:0≤c:=by rcases Int.lt_or_le c 0 with r | r; exact absurd (.inl r) q; exact r
   obtain ⟨h1,t,e⟩:=foldl_ok hR f ih (kids ns c.toNat) (fun x hx=>((hR c.toNat (by omega)).2 x hx).1) (ord ++ [c.toNat]) (h.snoc (by omega) (fun r=>q (.inr r)))
   exact ⟨h1,[c.toNat] ++ t,by rw [e,List.append_assoc]⟩
theorem fold_ok (hR:Ranked ns rk) (f:Nat) (cs:List Int) (hc:∀ c ∈ cs,c < (ns.length:Int)) (ord:List Nat) (h:OrdOk ns.length ord):OrdOk ns.length (cs.foldl (numS ns f) ord)∧∃ t,cs.foldl (numS ns f) ord=ord ++ t:=foldl_ok hR f (numS_ok hR f) cs hc ord h
end
theorem range_ok (n M:Nat) (h:M≤n):OrdOk n (List.range M):=⟨List.nodup_range,fun x hx=>by have:=List.mem_range.1 hx; omega⟩
def Off (ord:List Nat):Prop:=∃ j,j < ord.length∧ord.getD j 0 ≠ j
theorem Off.app {ord:List Nat} (h:Off ord) (t:List Nat):Off (ord ++ t):=by
 obtain ⟨j,h1,h2⟩:=h
 refine ⟨j,by rw [List.length_append]; omega,?_⟩
 rw [List.getD_eq_getElem?_getD,List.getElem?_append_left h1,← List.getD_eq_getElem?_getD]
 exact h2
theorem Off.ne {n:Nat} (h:Off (List.range n)):False:=by
 obtain ⟨j,h1,h2⟩:=h
 rw [List.length_range] at h1
 rw [List.getD_eq_getElem?_getD,List.getElem?_range h1] at h2
 exact h2 rfl
theorem mono_62 (x:DS2 × Int × Int × Unit):Mo fun s=>mb62 s x.1 x.2.1 x.2.2.1:=by
 unfold mb62; (repeat' (first | exact Mo.const _ | exact Mo.self _ | apply Mo.bind | apply Mo.cond | apply Mo.map | apply Mo.join | apply Mo.loop | (intro _)))
theorem pre_T {ns:List DS1} {rk:Nat→Nat} (hR:Ranked ns rk) (hn:ns.length≤1000000) (root:Int) (r:Int) (met:Nat) (hr:r < (ns.length:Int)) (hmet:met≤ns.length) :
  T (m62 (ns,root,()) r (met:Int)) (fun y=>∃ M:Nat,y.1=(M:Int)∧(y.2.1=true→M≤ns.length∧∀ f,rkI rk r≤f→numS ns f (List.range met) r=List.range M)∧(y.2.1=false→∀ f,rkI rk r≤f→Off (numS ns f (List.range met) r))):=by
 unfold m62
 refine fix_G (ι:=Int × Nat) mono_62 (fun g=>((ns,root,()),g.1,(g.2:Int),())) (fun g=>g.1 < (ns.length:Int)∧g.2≤ns.length)
  (fun g y=>∃ M:Nat,y.1=(M:Int)∧(y.2.1=true→M≤ns.length∧∀ f,rkI rk g.1≤f→numS ns f (List.range g.2) g.1=List.range M)∧(y.2.1=false→∀ f,rkI rk g.1≤f→Off (numS ns f (List.range g.2) g.1)))
  (fun g=>rkI rk g.1) ?_ (r,met) ⟨hr,hmet⟩
 rintro ⟨r,met⟩ ⟨hr,hmet⟩ s ih
 dsimp only at hr hmet ih ⊢
 unfold mb62
 have hN:=lenI_eq ns
 refine T.cnd (fun hc=>?_) (fun hc=>?_) <;> simp only [iLt_T,iLt_F] at hc
 ·refine T.ret ⟨met,rfl,fun _=>⟨hmet,fun f _=>?_⟩,fun h=>(by cases h)⟩
  rcases Int.lt_or_le r 0 with q | q
  ·exact numS_neg f _ q
  ·exact numS_in f _ (List.mem_range.2 (by omega))
 refine T.cnd (fun hc2=>?_) (fun hc2=>?_) <;> simp only [iLt_T,iLt_F] at hc2
 ·refine T.ret ⟨met,rfl,fun h=>(by cases h),fun _ f hf=>?_⟩
  obtain ⟨f',_,_,e⟩:=numS_step (ns:=ns) (ord:=List.range met) (by omega) (fun q=>by have:=List.mem_range.1 q; omega) hf
  rw [e]
  have hk:=(hR r.toNat (by omega)).2
  obtain ⟨_,t,e2⟩:=fold_ok hR f' (kids ns r.toNat) (fun c hc=>(hk c hc).1) (List.range met ++ [r.toNat]) ((range_ok _ _ hmet).snoc (by omega) (fun q=>by have:=List.mem_range.1 q; omega))
  rw [e2]
  refine Off.app ⟨met,by simp,?_⟩ t
  rw [List.getD_eq_getElem?_getD,List.getElem?_append_right (by simp),List.length_range,Nat.sub_self]
  simp
  omega
 obtain rfl:r=(met:Int):=by omega
 have hlt:met < ns.length:=by omega
 obtain ⟨hkl,hk⟩:=hR met hlt
 have ek:(atI ns (met:Int) (0,[],[],())).2.2.1=kids ns met:=by rw [atI_getD]; rfl
 have hK:=lenI_eq (kids ns met)
 refine T.grd (by rw [bnd_T]; dsimp only; omega) ?_
 dsimp only
 rw [ek,hK,iAdd64 (by omega) (by omega)]
 have hro:OrdOk ns.length (List.range met):=range_ok _ _ hmet
 have en:met ∉ List.range met:=fun q=>by have:=List.mem_range.1 q; omega
 have unf:∀ f,rkI rk (met:Int)≤f→∃ f',rk met≤f'∧numS ns f (List.range met) (met:Int)=(kids ns met).foldl (numS ns f') (List.range (met + 1)):=fun f hf=>by
  obtain ⟨f',_,h2,h3⟩:=numS_step (ns:=ns) (rk:=rk) (ord:=List.range met) (r:=(met:Int)) (by omega) (by rw [Int.toNat_natCast]; exact en) hf
  rw [Int.toNat_natCast] at h2 h3
  exact ⟨f',h2,by rw [h3,List.range_succ]⟩
 refine T.loop (fun q=>∃ (i M:Nat),i≤(kids ns met).length∧M≤ns.length∧(∀ f',rk met≤f'→((kids ns met).take i).foldl (numS ns f') (List.range (met + 1))=List.range M)∧q=((M:Int),kids ns met,((kids ns met).length:Int),(i:Int),ns,root,())) (fun q=>(kids ns met).length - q.2.2.2.1.toNat) ⟨0,met + 1,by omega,by omega,fun f' _=>by simp,rfl⟩ ?_
 rintro _ ⟨i,M,hi,hM,hfold,rfl⟩
 dsimp only
 rw [hK,atI_getD]
 refine T.cnd (fun hc3=>?_) (fun hc3=>?_) <;> simp only [iLt_T,iLt_F] at hc3
 ·have hil:i < (kids ns met).length:=by omega
  have ec:=getD_eq (kids ns met) i 0 hil
  rw [ec]
  have hcm:=List.getElem_mem hil
  obtain ⟨k1,k2⟩:=hk _ hcm
  have hrk:rkI rk (kids ns met)[i]≤rk met:=by
   unfold rkI
   split
   ·omega
   ·rename_i q; exact k2 (by omega)
  have hlt2:rkI rk (kids ns met)[i] < rkI rk (met:Int):=by
   have:rkI rk (met:Int)=rk met + 1:=by unfold rkI; rw [if_neg (by omega),Int.toNat_natCast]
   omega
  have etk:∀ f',((kids ns met).take (i + 1)).foldl (numS ns f') (List.range (met + 1))=numS ns f' (((kids ns met).take i).foldl (numS ns f') (List.range (met + 1))) (kids ns met)[i]:=fun f'=>by
   rw [List.take_succ_eq_append_getElem hil,List.foldl_append]; rfl
  refine T.grd (by rw [bnd_T]; omega) (T.call (ih ((kids ns met)[i],M) ⟨k1,hM⟩ hlt2) ?_)
  rintro ⟨y1,y2,⟨⟩⟩ ⟨M',rfl,y3,y4⟩
  dsimp only at y3 y4 ⊢
  refine T.cnd (fun hc4=>?_) (fun hc4=>?_) <;> simp only [not_T,not_F] at hc4
  ·refine T.out ⟨M',rfl,fun h=>(by cases h),fun _ f hf=>?_⟩
   obtain ⟨f',h1,h2⟩:=unf f hf
   rw [h2,← List.take_append_drop (i + 1) (kids ns met),List.foldl_append,etk,hfold f' h1]
   have ho:=(numS_ok hR f' _ (List.range M) k1 (range_ok _ _ hM)).1
   obtain ⟨_,t,e⟩:=fold_ok hR f' ((kids ns met).drop (i + 1)) (fun c hc=>(hk c (List.mem_of_mem_drop hc)).1) _ ho
   rw [e]
   exact (y4 hc4 f' (by omega)).app t
  ·obtain ⟨y5,y6⟩:=y3 hc4
   refine T.go ⟨i + 1,M',by omega,y5,fun f' h1=>?_,by rw [iAdd64 (by omega) (by omega)]; rfl⟩ (by dsimp only; rw [iAdd64 (by omega) (by omega)]; omega)
   rw [etk,hfold f' h1]
   exact y6 f' (by omega)
 ·obtain rfl:i=(kids ns met).length:=by omega
  refine T.out ⟨M,rfl,fun _=>⟨hM,fun f hf=>?_⟩,fun h=>(by cases h)⟩
  obtain ⟨f',h1,h2⟩:=unf f hf
  rw [h2]
  have:=hfold f' h1
  rwa [List.take_length] at this
end Abs
end Go.Proofs.YtgfnhpadmifiiaaDoor
end
section
namespace Go.Proofs.YtgfnhpadmifiiaaDoor
namespace Abs
def placeS (n:Nat) (ord:List Nat):List Int:=(List.range n).map fun r=>if r ∈ ord then (ord.idxOf r:Int) else -1
def outS (ns:List DS1) (ord:List Nat):List DS1:=ord.map fun i=>ns.getD i zN
theorem placeS_len (n:Nat) (ord:List Nat):(placeS n ord).length=n:=by simp [placeS]
theorem outS_len (ns:List DS1) (ord:List Nat):(outS ns ord).length=ord.length:=by simp [outS]
theorem outS_snoc (ns:List DS1) (ord:List Nat) (r:Nat):outS ns (ord ++ [r])=outS ns ord ++ [ns.getD r zN]:=by simp [outS]
theorem placeS_get {n:Nat} {ord:List Nat} {r:Nat} (h:r < n):(placeS n ord).getD r 0=if r ∈ ord then (ord.idxOf r:Int) else -1:=by
 rw [getD_eq _ _ _ (by rw [placeS_len]; exact h)]; simp [placeS]
theorem placeS_snoc {n:Nat} {ord:List Nat} {r:Nat} (hr:r < n) (hm:r ∉ ord):(placeS n ord).set r (ord.length:Int)=placeS n (ord ++ [r]):=by
 apply List.ext_getElem (by simp [placeS])
 intro j h1 h2
 have hj:j < n:=by rw [placeS_len] at h2; exact h2
 by_cases e:r=j
 ·subst e
  rw [List.getElem_set_self]
  simp [placeS,List.idxOf_append,hm]
 ·rw [List.getElem_set_ne e]
  simp only [placeS,List.getElem_map,List.getElem_range,List.mem_append,List.mem_singleton]
  by_cases q:j ∈ ord
  ·rw [if_pos q,if_pos (.inl q),List.idxOf_append,if_pos q]
  ·rw [if_neg q,if_neg (by rintro (q' | q'); exact q q'; exact e q'.symm)]
theorem placeS_nil (n:Nat):placeS n []=List.replicate n (-1):=by
 apply List.ext_getElem (by simp [placeS])
 intro j h1 h2
 simp [placeS]
section
variable {ns:List DS1} {rk:Nat→Nat}
theorem numS_stable (hR:Ranked ns rk):∀ (m f f':Nat) (c:Int) (ord:List Nat),rkI rk c≤m→m≤f→m≤f'→c < (ns.length:Int)→numS ns f ord c=numS ns f' ord c:=by
 intro m
 induction m with
 | zero =>
  intro f f' c ord h _ _ _
  have:c < 0:=by unfold rkI at h; split at h; assumption; omega
  rw [numS_neg f ord this,numS_neg f' ord this]
 | succ m ih =>
  intro f f' c ord h h1 h2 hc
  rcases Int.lt_or_le c 0 with q | q
  ·rw [numS_neg f ord q,numS_neg f' ord q]
  by_cases hm:c.toNat ∈ ord
  ·rw [numS_in f ord hm,numS_in f' ord hm]
  have hk:=(hR c.toNat (by omega)).2
  unfold rkI at h
  rw [if_neg (by omega)] at h
  obtain ⟨g,rfl⟩:∃ g,f=g + 1:=⟨f - 1,by omega⟩
  obtain ⟨g',rfl⟩:∃ g',f'=g' + 1:=⟨f' - 1,by omega⟩
  simp only [numS]
  have hq:¬ (c < 0∨c.toNat ∈ ord):=by rintro (r | r); omega; exact hm r
  rw [if_neg hq,if_neg hq]
  have key:∀ (cs:List Int),(∀ x ∈ cs,x ∈ kids ns c.toNat)→∀ o,cs.foldl (numS ns g) o=cs.foldl (numS ns g') o:=by
   intro cs
   induction cs with
   | nil=>intro _ o; rfl
   | cons x cs ih2 =>
    intro hx o
    obtain ⟨k1,k2⟩:=hk x (hx x (by simp))
    rw [List.foldl_cons,List.foldl_cons,ih g g' x o (by unfold rkI; split; omega; rename_i q; have:=k2 (by omega); omega) (by omega) (by omega) k1]
    exact ih2 (fun y hy=>hx y (by simp [hy])) _
  exact key _ (fun _ q=>q) _
theorem numS_unfold (hR:Ranked ns rk) {F:Nat} (hF:∀ r,r < ns.length→rk r + 1≤F) {r:Int} {ord:List Nat} (h0:0≤r) (hr:r < (ns.length:Int)) (hm:r.toNat ∉ ord):numS ns F ord r=(kids ns r.toNat).foldl (numS ns F) (ord ++ [r.toNat]):=by
 have hf:=hF r.toNat (by omega)
 obtain ⟨f',rfl,h2,e⟩:=numS_step (ns:=ns) (rk:=rk) (f:=F) h0 hm (by unfold rkI; rw [if_neg (by omega)]; exact hf)
 rw [e]
 have hk:=(hR r.toNat (by omega)).2
 have key:∀ (cs:List Int),(∀ x ∈ cs,x ∈ kids ns r.toNat)→∀ o,cs.foldl (numS ns f') o=cs.foldl (numS ns (f' + 1)) o:=by
  intro cs
  induction cs with
  | nil=>intro _ o; rfl
  | cons x cs ih2 =>
   intro hx o
   obtain ⟨k1,k2⟩:=hk x (hx x (by simp))
   rw [List.foldl_cons,List.foldl_cons,numS_stable hR f' f' (f' + 1) x o (by unfold rkI; split; omega; rename_i q; have:=k2 (by omega); omega) (by omega) (by omega) k1]
   exact ih2 (fun y hy=>hx y (by simp [hy])) _
 exact key _ (fun _ q=>q) _
end
end Abs
end Go.Proofs.YtgfnhpadmifiiaaDoor
end
namespace Go.Proofs.YtgfnhpadmifiiaaDoor
namespace Abs
def vDg (l:List UInt8):Nat:=l.foldl (fun a c=>a * 10 + (c.toNat - 48)) 0
theorem vDg_snoc (l:List UInt8) (c:UInt8):vDg (l ++ [c])=vDg l * 10 + (c.toNat - 48):=by unfold vDg; rw [List.foldl_append]; rfl
theorem dg8 {k:Nat} (h:k < 10):(UInt8.ofNat (48 + k)).toNat=48 + k:=by rw [UInt8.toNat_ofNat']; omega
theorem vDg_dec (u:Nat):vDg (Lib.decDigits u)=u:=by
 induction u using Nat.strongRecOn with
 | _ u ih =>
  rw [Lib.decDigits]
  split
  ·rename_i h
   show 0 * 10 + ((UInt8.ofNat (48 + u)).toNat - 48)=u
   rw [dg8 h]; omega
  ·rename_i h
   rw [vDg_snoc,ih (u / 10) (by omega),dg8 (by omega)]; omega
theorem dec_byte (u:Nat):∀ b ∈ Lib.decDigits u,48≤b.toNat∧b.toNat≤57:=by
 induction u using Nat.strongRecOn with
 | _ u ih =>
  rw [Lib.decDigits]
  split
  ·rename_i h
   intro b hb
   obtain rfl:=List.mem_singleton.1 hb
   rw [dg8 h]; omega
  ·rename_i h
   intro b hb
   rcases List.mem_append.1 hb with q | q
   ·exact ih (u / 10) (by omega) b q
   ·obtain rfl:=List.mem_singleton.1 q
    rw [dg8 (by omega)]; omega
theorem itoa_byte (n:Int):∀ b ∈ Lib.itoa n,b ≠ 44∧b ≠ 59:=by
 have key:∀ b:UInt8,(48≤b.toNat∧b.toNat≤57)→b ≠ 44∧b ≠ 59:=fun b h=>⟨fun e=>by subst e; simp at h,fun e=>by subst e; simp at h⟩
 intro b hb
 unfold Lib.itoa at hb
 split at hb
 ·rcases List.mem_cons.1 hb with rfl | q
  ·decide
  ·exact key b (dec_byte _ b q)
 ·exact key b (dec_byte _ b hb)
theorem itoa_inj {a b:Int} (h:Lib.itoa a=Lib.itoa b):a=b:=by
 have ne:∀ u,Lib.decDigits u ≠ []:=fun u e=>by
  have:(Lib.decDigits u).length=0:=by rw [e]; rfl
  rw [Lib.decDigits] at this
  split at this <;> simp at this
 have hd:∀ (u:Nat) (t:List UInt8),Lib.decDigits u ≠ 45 :: t:=fun u t e=>by
  have:=(dec_byte u 45 (by rw [e]; simp)).1
  simp at this
 unfold Lib.itoa at h
 split at h <;> split at h
 ·have h2:=(List.cons.inj h).2
  have:=congrArg vDg h2
  rw [vDg_dec,vDg_dec] at this
  omega
 ·exact absurd h.symm (hd _ _)
 ·exact absurd h (hd _ _)
 ·have:=congrArg vDg h
  rw [vDg_dec,vDg_dec] at this
  omega
def Sep (y:List UInt8):Prop:=y=[]∨∃ t,y=44 :: t∨y=59 :: t
theorem split_sep:∀ (x x' y y':List UInt8),(∀ b ∈ x,b ≠ 44∧b ≠ 59)→(∀ b ∈ x',b ≠ 44∧b ≠ 59)→Sep y→Sep y'→x ++ y=x' ++ y'→x=x'∧y=y':=by
 intro x
 induction x with
 | nil =>
  intro x' y y' _ h' hy hy' e
  cases x' with
  | nil=>exact ⟨rfl,e⟩
  | cons b x' =>
   obtain ⟨h1,h2⟩:=h' b (by simp)
   have e:y=b :: (x' ++ y'):=e
   rcases hy with rfl | ⟨t,rfl | rfl⟩
   ·cases e
   ·exact absurd (List.cons.inj e).1.symm h1
   ·exact absurd (List.cons.inj e).1.symm h2
 | cons a x ih =>
  intro x' y y' h h' hy hy' e
  cases x' with
  | nil =>
   obtain ⟨h1,h2⟩:=h a (by simp)
   have e:a :: (x ++ y)=y':=e
   rcases hy' with rfl | ⟨t,rfl | rfl⟩
   ·cases e
   ·exact absurd (List.cons.inj e).1 h1
   ·exact absurd (List.cons.inj e).1 h2
  | cons b x' =>
   have e:a :: (x ++ y)=b :: (x' ++ y'):=e
   obtain ⟨e1,e2⟩:=List.cons.inj e
   obtain ⟨r1,r2⟩:=ih x' y y' (fun c hc=>h c (by simp [hc])) (fun c hc=>h' c (by simp [hc])) hy hy' e2
   exact ⟨by rw [e1,r1],r2⟩
def pL (cs:List Int):List UInt8:=cs.flatMap fun c=>44 :: Lib.itoa c
theorem pL_cons (c:Int) (cs:List Int):pL (c :: cs)=44 :: (Lib.itoa c ++ pL cs):=by simp [pL]
def End9 (t:List UInt8):Prop:=t=[]∨∃ u,t=59 :: u
theorem pL_sep (cs:List Int) {t:List UInt8} (h:End9 t):Sep (pL cs ++ t):=by
 cases cs with
 | nil=>rcases h with rfl | ⟨u,rfl⟩; exact .inl rfl; exact .inr ⟨u,.inr rfl⟩
 | cons c cs=>rw [pL_cons]; exact .inr ⟨_,.inl rfl⟩
theorem pL_inj:∀ (cs cs':List Int) (t t':List UInt8),End9 t→End9 t'→pL cs ++ t=pL cs' ++ t'→cs=cs'∧t=t':=by
 have bad:∀ {c:Int} {cs:List Int} {t t':List UInt8},End9 t'→pL (c :: cs) ++ t=t'→False:=by
  intro c cs t t' h e
  rw [pL_cons] at e
  rcases h with rfl | ⟨u,rfl⟩
  ·cases e
  ·have:=(List.cons.inj e).1; revert this; decide
 intro cs
 induction cs with
 | nil =>
  intro cs' t t' h h' e
  cases cs' with
  | nil=>exact ⟨rfl,e⟩
  | cons c cs'=>exact (bad h e.symm).elim
 | cons c cs ih =>
  intro cs' t t' h h' e
  cases cs' with
  | nil=>exact (bad h' e).elim
  | cons c' cs' =>
   rw [pL_cons,pL_cons] at e
   have e:(Lib.itoa c ++ pL cs) ++ t=(Lib.itoa c' ++ pL cs') ++ t':=(List.cons.inj e).2
   rw [List.append_assoc,List.append_assoc] at e
   obtain ⟨e1,e2⟩:=split_sep _ _ _ _ (itoa_byte c) (itoa_byte c') (pL_sep cs h) (pL_sep cs' h') e
   obtain ⟨r1,r2⟩:=ih cs' t t' h h' e2
   exact ⟨by rw [itoa_inj e1,r1],r2⟩
theorem keyL_eq (a:Int) (cs ns:List Int):keyL a cs ns=Lib.itoa a ++ (pL cs ++ 59 :: (pL ns ++ [])):=by unfold keyL pL; rw [List.append_nil,List.append_assoc]
theorem keyL_inj {a a':Int} {cs cs' ns ns':List Int} (h:keyL a cs ns=keyL a' cs' ns'):a=a'∧cs=cs'∧ns=ns':=by
 rw [keyL_eq,keyL_eq] at h
 obtain ⟨e1,e2⟩:=split_sep _ _ _ _ (itoa_byte a) (itoa_byte a') (pL_sep cs (.inr ⟨_,rfl⟩)) (pL_sep cs' (.inr ⟨_,rfl⟩)) h
 obtain ⟨e3,e4⟩:=pL_inj _ _ _ _ (.inr ⟨_,rfl⟩) (.inr ⟨_,rfl⟩) e2
 obtain ⟨e5,_⟩:=pL_inj _ _ _ _ (.inl rfl) (.inl rfl) (List.cons.inj e4).2
 exact ⟨itoa_inj e1,e3,e5⟩
def keyB (x:DS1):ByteArray:=⟨(keyL x.1 x.2.1 x.2.2.1).toArray⟩
theorem keyB_inj {x y:DS1} (h:keyB x=keyB y):x=y:=by
 obtain ⟨a,cs,ns,⟨⟩⟩:=x
 obtain ⟨a',cs',ns',⟨⟩⟩:=y
 have h1:=ByteArray.mk.inj h
 have h2:(keyL a cs ns).toArray.toList=(keyL a' cs' ns').toArray.toList:=congrArg Array.toList h1
 have h2:keyL a cs ns=keyL a' cs' ns':=h2
 obtain ⟨rfl,rfl,rfl⟩:=keyL_inj h2
 rfl
def VD (dm:List DS3) (ns:List DS1) (root:Int):Prop :=
 ns.length≤1000∧RefOk ns.length root∧(∀ i,i < ns.length→SoundN dm ns (ns.getD i zN))∧(∀ i,i < ns.length→∀ k,k < i→ns.getD k zN ≠ ns.getD i zN)∧numS ns 8 [] root=List.range ns.length
def SzN (ns:List DS1):Prop:=ns.length≤9223372036854775807∧∀ x ∈ ns,x.2.1.length≤9223372036854775807∧x.2.2.1.length≤9223372036854775807
theorem SzN.at {ns:List DS1} (h:SzN ns) {i:Nat} (hi:i < ns.length):(ns.getD i zN).2.1.length≤9223372036854775807∧(ns.getD i zN).2.2.1.length≤9223372036854775807:=by
 rw [getD_eq _ _ _ hi]; exact h.2 _ (List.getElem_mem hi)
theorem key_m {dm:List DS3} {ns:List DS1} {x:DS1} (hd:DmOk dm) (hn:ns.length≤1000) (h:SoundN dm ns x):mKey x.1 x.2.1 x.2.2.1=some (keyB x,()):=by
 obtain ⟨l1,l2⟩:=h.len hd
 obtain ⟨h1,h2,h3,h4,h5,h6⟩:=h
 have d2:=hd.2.1
 have hb:=hd.at (i:=x.1.toNat) (by omega)
 unfold mKey
 rw [if_pos]
 ·rfl
 ·refine ⟨?_,?_,?_,by omega⟩
  ·unfold i64B; rw [decide_eq_true_eq]; omega
  ·refine List.all_eq_true.2 fun c hc=>?_
   obtain ⟨k,hk,rfl⟩:=List.getElem_of_mem hc
   have:=h5 k hk
   rw [getD_eq _ _ _ hk] at this
   unfold i64B; rw [decide_eq_true_eq]; omega
  ·refine List.all_eq_true.2 fun c hc=>?_
   obtain ⟨k,hk,rfl⟩:=List.getElem_of_mem hc
   have:=(h6 k hk).1
   rw [getD_eq _ _ _ hk] at this
   unfold RefOk at this
   unfold i64B; rw [decide_eq_true_eq]; omega
def rkA (ns:List DS1) (r:Nat):Nat:=(6 - (ns.getD r zN).1).toNat
theorem rkA_ok {dm:List DS3} {ns:List DS1} (hd:DmOk dm) (h:∀ i,i < ns.length→SoundN dm ns (ns.getD i zN)):Ranked ns (rkA ns)∧∀ r,r < ns.length→rkA ns r + 1≤8:=by
 have d2:=hd.2.1
 refine ⟨fun r hr=>⟨((h r hr).len hd).2,fun c hc=>?_⟩,fun r hr=>?_⟩
 ·obtain ⟨k,hk,rfl⟩:=List.getElem_of_mem hc
  have h6:=(h r hr).2.2.2.2.2 k hk
  have e:(ns.getD r zN).2.2.1.getD k 0=(kids ns r)[k]:=getD_eq (kids ns r) k 0 hk
  rw [e] at h6
  refine ⟨h6.1.2,fun h0=>?_⟩
  have hc':(kids ns r)[k].toNat < ns.length:=by have:=h6.1.2; omega
  have h7:=h6.2.2 h0
  have h8:=(h _ hc').2.1
  unfold rkA
  omega
 ·have:=(h r hr).1
  unfold rkA; omega
theorem mapF_keys (g:Nat→ByteArray) (k:ByteArray):∀ (L:List Nat),(mapF sEq k (L.map fun x=>(g x,true,()))=some true∧∃ x ∈ L,k=g x)∨(mapF sEq k (L.map fun x=>(g x,true,()))=none∧∀ x ∈ L,k ≠ g x):=by
 intro L
 induction L with
 | nil=>exact .inr ⟨rfl,fun x hx=>by cases hx⟩
 | cons x L ih =>
  simp only [List.map_cons,mapF]
  cases q:sEq k (g x) with
  | true=>exact .inl ⟨rfl,x,by simp,by rwa [sEq_T] at q⟩
  | false =>
   rw [sEq_F] at q
   rcases ih with ⟨h1,y,h2,h3⟩ | ⟨h1,h2⟩
   ·exact .inl ⟨h1,y,by simp [h2],h3⟩
   ·exact .inr ⟨h1,fun y hy=>by rcases List.mem_cons.1 hy with rfl | hy; exact q; exact h2 y hy⟩
theorem mapP_new {α β:Type} {eq:α→α→Bool} (k:α) (v:β):∀ (es:List (α × β × Unit)),(∀ e ∈ es,eq k e.1=false)→mapP eq k v es=es ++ [(k,v,())]:=by
 intro es
 induction es with
 | nil=>intro _; rfl
 | cons e es ih=>intro h; simp only [mapP]; rw [h e (by simp),ih (fun x hx=>h x (by simp [hx]))]; rfl
theorem diag_m (l:List DS0) (ns:List DS1) (root:Int) (hz:SzN ns):T (m31 (l,()) (ns,root,())) (fun y=>y.1=true ↔ valS l=0∧VD (doms l) ns root):=by
 unfold m31
 refine T.callE (val_m _) ?_
 dsimp only
 have hN:=lenI_eq ns
 rw [hN]
 refine T.cnd (fun hc=>?_) (fun hc=>?_) <;> simp only [corT_T,corT_F,iNe_T,iNe_F,iLt_T,iLt_F] at hc
 ·refine T.ret ⟨fun h=>(by cases h),fun h=>?_⟩
  have h1:=h.1
  have h2:=h.2.1
  omega
 obtain ⟨hv,hn⟩:=hc
 have hd:=doms_ok hv
 refine T.callE (ref_m _ _) ?_
 dsimp only
 refine T.cnd (fun hc=>?_) (fun hc=>?_) <;> simp only [not_T,not_F,decide_eq_true_eq,decide_eq_false_iff_not] at hc
 ·exact T.ret ⟨fun h=>(by cases h),fun h=>absurd h.2.2.1 hc⟩
 refine T.callE (doms_m l hv) ?_
 dsimp only
 generalize doms l=dm at hd ⊢
 refine T.loop (fun q=>∃ i:Nat,i≤ns.length∧(∀ k,k < i→SoundN dm ns (ns.getD k zN))∧(∀ k,k < i→∀ j,j < k→ns.getD j zN ≠ ns.getD k zN)∧q=(dm,ns,(ns.length:Int),(i:Int),ns,root,(List.range i).map (fun k=>(keyB (ns.getD k zN),true,())),())) (fun q=>ns.length - q.2.2.2.1.toNat) ⟨0,by omega,fun k hk=>by omega,fun k hk=>by omega,rfl⟩ ?_
 rintro _ ⟨i,hi,hs,hne,rfl⟩
 dsimp only
 have eN:atI ns (i:Int) (0,[],[],())=ns.getD i zN:=by rw [atI_getD]; rfl
 rw [eN,hN]
 refine T.cnd (fun hc2=>?_) (fun hc2=>?_) <;> simp only [iLt_T,iLt_F] at hc2
 ·have hlt:i < ns.length:=by omega
  obtain ⟨z1,z2⟩:=hz.at hlt
  refine T.grd (by rw [bnd_T]; omega) (T.call (sound_m hd ns root (ns.getD i zN) z1 z2 hz.1) ?_)
  rintro ⟨y,⟨⟩⟩ hy
  dsimp only at hy ⊢
  refine T.cnd (fun hc3=>?_) (fun hc3=>?_) <;> simp only [not_T,not_F] at hc3
  ·refine T.out ⟨fun h=>(by cases h),fun h=>?_⟩
   rw [hy.2 (h.2.2.2.1 i hlt)] at hc3
   cases hc3
  have hsi:=hy.1 hc3
  refine T.callE (key_m hd (by omega) hsi) ?_
  dsimp only
  unfold mapG
  rcases mapF_keys (fun k=>keyB (ns.getD k zN)) (keyB (ns.getD i zN)) (List.range i) with ⟨h1,x,h2,h3⟩ | ⟨h1,h2⟩
  ·rw [h1]
   refine T.ct rfl (T.out ⟨fun h=>(by cases h),fun h=>?_⟩)
   exact absurd (keyB_inj h3).symm (h.2.2.2.2.1 i hlt x (List.mem_range.1 h2))
  ·rw [h1]
   refine T.cf rfl (T.go ⟨i + 1,by omega,fun k hk=>?_,fun k hk j hj=>?_,?_⟩ (by dsimp only; rw [iAdd64 (by omega) (by omega)]; omega))
   ·rcases Nat.lt_or_ge k i with r | r
    ·exact hs k r
    ·obtain rfl:k=i:=by omega
     exact hsi
   ·rcases Nat.lt_or_ge k i with r | r
    ·exact hne k r j hj
    ·obtain rfl:k=i:=by omega
     intro e
     exact h2 j (List.mem_range.2 hj) (congrArg keyB e.symm)
   ·rw [iAdd64 (by omega) (by omega),mapP_new _ _ _ (fun e he=>?_),List.range_succ,List.map_append]
    ·rfl
    ·obtain ⟨k,hk,rfl⟩:=List.mem_map.1 he
     rw [sEq_F]; exact h2 k hk
 ·obtain rfl:i=ns.length:=by omega
  refine T.mapL ?_
  obtain ⟨hR,hF⟩:=rkA_ok hd hs
  refine T.call (pre_T hR (by omega) root root 0 hc.2 (by omega)) ?_
  rintro ⟨y1,y2,⟨⟩⟩ ⟨M,e1,h1,h2⟩
  dsimp only at e1 h1 h2 ⊢
  subst e1
  have hf8:rkI (rkA ns) root≤8:=by
   unfold rkI
   split
   ·omega
   ·exact hF _ (by have:=hc.2; omega)
  refine T.ret ?_
  dsimp only
  rw [candF_T,iEq_T]
  refine ⟨fun ⟨q1,q2⟩=>⟨hv,by omega,hc,hs,hne,?_⟩,fun h=>?_⟩
  ·have:=(h1 q1).2 8 hf8
   rw [show List.range 0=([]:List Nat) from rfl] at this
   rw [this,show M=ns.length by omega]
  ·have h5:=h.2.2.2.2.2
   cases q:y2 with
   | false =>
    have:=h2 q 8 hf8
    rw [show List.range 0=([]:List Nat) from rfl,h5] at this
    exact this.ne.elim
   | true =>
    have:=(h1 q).2 8 hf8
    rw [show List.range 0=([]:List Nat) from rfl,h5] at this
    have:=congrArg List.length this
    rw [List.length_range,List.length_range] at this
    exact ⟨rfl,by omega⟩
end Abs
end Go.Proofs.YtgfnhpadmifiiaaDoor
section
namespace Go.Proofs.YtgfnhpadmifiiaaDoor
namespace Abs
def sat (n:Int):Int:=min n 17592186044416
theorem sat_mul {x w:Int} (hx:0≤x) (hw:0≤w):sat (sat x * w)=sat (x * w):=by
 unfold sat
 rcases Int.le_total x 17592186044416 with h | h
 ·rw [Int.min_eq_left h]
 ·rw [Int.min_eq_right h]
  rcases Int.lt_or_le 0 w with q | q
  ·have h1:17592186044416 * 1≤17592186044416 * w:=Int.mul_le_mul_of_nonneg_left (by omega) (by omega)
   have h2:17592186044416 * w≤x * w:=Int.mul_le_mul_of_nonneg_right h hw
   rw [Int.min_eq_right (by omega),Int.min_eq_right (by omega)]
  ·obtain rfl:w=0:=by omega
   simp
theorem sat_add {x y:Int} (hx:0≤x) (hy:0≤y):sat (sat x + sat y)=sat (x + y):=by unfold sat; omega
theorem sat_nn {x:Int} (hx:0≤x):0≤sat x∧sat x≤17592186044416:=by unfold sat; omega
theorem sat_zero {x:Int}:sat x=0 ↔ x=0:=by unfold sat; omega
theorem times_m {a b:Int} (ha:0≤a∧a≤17592186044416) (hb:0≤b∧b≤4611686018427387904):m82 a b=some (sat (a * b),()):=by
 refine T.eq ?_
 unfold m82
 refine T.grd ?_ (T.cnd (fun hc=>?_) (fun hc=>?_))
 ·rw [or_T,iNe_T,not_T,bEqT_F,iLt_F]; omega
 ·rw [candF_T,iLt_T,iLt_T] at hc
  have hq:iQuo .i64 17592186044416 a=17592186044416 / a:=by
   unfold iQuo
   rw [Int.tdiv_eq_ediv_of_nonneg (by omega),wrap64]
   ·have:=Int.ediv_nonneg (show (0:Int)≤17592186044416 by omega) ha.1; omega
   ·have:=Int.ediv_le_self a (show (0:Int)≤17592186044416 by omega); omega
  rw [hq] at hc
  refine T.ret ?_
  have h1:17592186044416 < a * b:=by
   have:=(Int.ediv_lt_iff_lt_mul hc.1).1 hc.2
   rw [Int.mul_comm] at this; exact this
  unfold sat
  rw [Int.min_eq_right (by omega)]
 ·rw [candF_F,iLt_F,iLt_F] at hc
  have h1:a * b≤17592186044416:=by
   rcases Int.lt_or_le 0 a with q | q
   ·have hq:iQuo .i64 17592186044416 a=17592186044416 / a:=by
     unfold iQuo
     rw [Int.tdiv_eq_ediv_of_nonneg (by omega),wrap64]
     ·have:=Int.ediv_nonneg (show (0:Int)≤17592186044416 by omega) ha.1; omega
     ·have:=Int.ediv_le_self a (show (0:Int)≤17592186044416 by omega); omega
    rw [hq] at hc
    rcases hc with r | r
    ·omega
    ·have:=(Int.le_ediv_iff_mul_le q).1 r
     rw [Int.mul_comm] at this; exact this
   ·obtain rfl:a=0:=by omega
    simp
  have h0:0≤a * b:=Int.mul_nonneg ha.1 hb.1
  refine T.ret ?_
  rw [iMul64 (by omega) (by omega)]
  unfold sat
  rw [Int.min_eq_left h1]
def wid (d:DS3):Int:=d.2.1 - d.1 + 1
def prodW (dm:List DS3) (a b:Nat):Int:=((dm.take b).drop a).foldl (fun p d=>p * wid d) 1
theorem fold_mul (l:List DS3):∀ p:Int,l.foldl (fun p d=>p * wid d) p=p * l.foldl (fun p d=>p * wid d) 1:=by
 induction l with
 | nil=>intro p; simp
 | cons d l ih=>intro p; rw [List.foldl_cons,List.foldl_cons,ih,ih (1 * wid d),Int.one_mul,Int.mul_assoc]
theorem wid_bd {dm:List DS3} (hd:DmOk dm) {d:DS3} (h:d ∈ dm):1≤wid d∧wid d≤2000000001:=by
 have:=hd.2.2 d h; unfold wid; omega
theorem prodW_pos {dm:List DS3} (hd:DmOk dm) (a b:Nat):1≤prodW dm a b:=by
 have key:∀ l:List DS3,(∀ d ∈ l,d ∈ dm)→1≤l.foldl (fun p d=>p * wid d) 1:=by
  intro l
  induction l with
  | nil=>intro _; simp
  | cons d l ih =>
   intro h
   rw [List.foldl_cons,fold_mul,Int.one_mul]
   have h1:=(wid_bd hd (h d (by simp))).1
   have h2:=ih (fun x hx=>h x (by simp [hx]))
   have:1 * 1≤wid d * l.foldl (fun p d=>p * wid d) 1:=Int.mul_le_mul h1 h2 (by omega) (by omega)
   omega
 exact key _ fun d h=>List.mem_of_mem_take (List.mem_of_mem_drop h)
theorem free_m {dm:List DS3} (hd:DmOk dm) {n:Int} (hn:0≤n) (a b:Nat) (hab:a≤b) (hb:b≤dm.length) (ns:List DS1) (leaf:Int) (me:List DS3) :
  m81 (sat n) (a:Int) (b:Int) ns dm leaf me=some (sat (n * prodW dm a b),ns,dm,leaf,me,()):=by
 refine T.eq ?_
 unfold m81
 refine T.grd (by rw [cutOk_T]; omega) ?_
 have eC:cutL (a:Int) (b:Int) dm=(dm.take b).drop a:=by unfold cutL; rw [Int.toNat_natCast,Int.toNat_natCast]
 rw [eC]
 generalize hl:(dm.take b).drop a=l
 have hll:l.length≤6:=by
  have:=hd.2.1
  rw [← hl,List.length_drop,List.length_take]; omega
 have hmem:∀ d ∈ l,d ∈ dm:=fun d h=>by rw [← hl] at h; exact List.mem_of_mem_take (List.mem_of_mem_drop h)
 have hL:=lenI_eq l
 rw [hL]
 have fin:prodW dm a b=l.foldl (fun p d=>p * wid d) 1:=by unfold prodW; rw [hl]
 have pos:∀ k,0≤(l.take k).foldl (fun p d=>p * wid d) 1:=by
  intro k
  have key:∀ l':List DS3,(∀ d ∈ l',d ∈ dm)→0≤l'.foldl (fun p d=>p * wid d) 1:=by
   intro l'
   induction l' with
   | nil=>intro _; simp
   | cons d l' ih =>
    intro h
    rw [List.foldl_cons,fold_mul,Int.one_mul]
    exact Int.mul_nonneg (by have:=(wid_bd hd (h d (by simp))).1; omega) (ih (fun x hx=>h x (by simp [hx])))
  exact key _ fun d h=>hmem d (List.mem_of_mem_take h)
 refine T.loop (fun q=>∃ k:Nat,k≤l.length∧q=(sat (n * (l.take k).foldl (fun p d=>p * wid d) 1),l,(l.length:Int),(k:Int),ns,dm,leaf,me,())) (fun q=>l.length - q.2.2.2.1.toNat) ⟨0,by omega,by simp⟩ ?_
 rintro _ ⟨k,hk,rfl⟩
 dsimp only
 rw [hL]
 have eA:atI l (k:Int) (0,0,())=l.getD k zS:=by rw [atI_getD]; rfl
 rw [eA]
 refine T.cnd (fun hc=>?_) (fun hc=>?_) <;> simp only [iLt_T,iLt_F] at hc
 ·have hkl:k < l.length:=by omega
  have hw:=wid_bd hd (hmem _ (List.getElem_mem hkl))
  have hb3:=hd.2.2 _ (hmem _ (List.getElem_mem hkl))
  rw [getD_eq _ _ _ hkl]
  refine T.grd (by rw [bnd_T]; omega) ?_
  rw [iSub64 (by omega) (by omega),iAdd64 (by omega) (by omega)]
  have h0:=Int.mul_nonneg hn (pos k)
  refine T.callE (times_m (sat_nn h0) ⟨by unfold wid at hw; omega,by unfold wid at hw; omega⟩) ?_
  dsimp only
  refine T.go ⟨k + 1,by omega,?_⟩ (by dsimp only; rw [iAdd64 (by omega) (by omega)]; omega)
  rw [iAdd64 (by omega) (by omega),List.take_succ_eq_append_getElem hkl,List.foldl_append]
  have:l[k].2.1 - l[k].1 + 1=wid l[k]:=rfl
  rw [this,sat_mul h0 (by omega),Int.mul_assoc]
  rfl
 ·obtain rfl:k=l.length:=by omega
  refine T.out ?_
  rw [List.take_length,fin]
def hiK (dm:List DS3) (x:DS1) (k:Nat):Int:=if k < x.2.1.length then x.2.1.getD k 0 else (dm.getD x.1.toNat zS).2.1 + 1
def loK (dm:List DS3) (x:DS1) (k:Nat):Int:=if k=0 then (dm.getD x.1.toNat zS).1 else hiK dm x (k - 1)
def sumS (g:Nat→Int):Nat→Int
 | 0=>0
 | k + 1=>sumS g k + g k
def cntE (dm:List DS3) (ns:List DS1) (leaf:Int):Nat→Int→Nat→Int
 | 0,_,_=>0
 | f + 1,r,a=>if r < 0 then (if -1 - r=leaf then prodW dm a dm.length else 0) else
   sumS (fun k=>cntE dm ns leaf f ((kids ns r.toNat).getD k 0) ((ns.getD r.toNat zN).1.toNat + 1) * (hiK dm (ns.getD r.toNat zN) k - loK dm (ns.getD r.toNat zN) k)) (kids ns r.toNat).length * prodW dm a (ns.getD r.toNat zN).1.toNat
def totE (dm:List DS3) (ns:List DS1) (leaf:Int) (f:Nat) (r:Nat):Int :=
 sumS (fun k=>cntE dm ns leaf f ((kids ns r).getD k 0) ((ns.getD r zN).1.toNat + 1) * (hiK dm (ns.getD r zN) k - loK dm (ns.getD r zN) k)) (kids ns r).length
theorem cntE_node (dm:List DS3) (ns:List DS1) (leaf:Int) (f:Nat) {r:Int} (h:0≤r) (a:Nat):cntE dm ns leaf (f + 1) r a=totE dm ns leaf f r.toNat * prodW dm a (ns.getD r.toNat zN).1.toNat:=by
 simp only [cntE,totE]; rw [if_neg (by omega)]
theorem cntE_leaf (dm:List DS3) (ns:List DS1) (leaf:Int) (f:Nat) {r:Int} (h:r < 0) (a:Nat):cntE dm ns leaf (f + 1) r a=if -1 - r=leaf then prodW dm a dm.length else 0:=by
 simp only [cntE]; rw [if_pos h]
theorem sumS_congr {g g':Nat→Int}:∀ n,(∀ k,k < n→g k=g' k)→sumS g n=sumS g' n:=by
 intro n
 induction n with
 | zero=>intro _; rfl
 | succ n ih=>intro h; simp only [sumS]; rw [ih (fun k hk=>h k (by omega)),h n (by omega)]
theorem sumS_nn {g:Nat→Int}:∀ n,(∀ k,k < n→0≤g k)→0≤sumS g n:=by
 intro n
 induction n with
 | zero=>intro _; simp [sumS]
 | succ n ih=>intro h; simp only [sumS]; have:=ih (fun k hk=>h k (by omega)); have:=h n (by omega); omega
def AllS (dm:List DS3) (ns:List DS1):Prop:=∀ i,i < ns.length→SoundN dm ns (ns.getD i zN)
section
variable {dm:List DS3} {ns:List DS1} {leaf:Int}
theorem AllS.wid (hs:AllS dm ns) {r:Nat} (hr:r < ns.length) {k:Nat} (hk:k < (kids ns r).length) (hd:DmOk dm):1≤hiK dm (ns.getD r zN) k - loK dm (ns.getD r zN) k∧-1000000000≤loK dm (ns.getD r zN) k∧hiK dm (ns.getD r zN) k≤1000000001:=by
 obtain ⟨h1,h2,h3,h4,h5,h6⟩:=hs r hr
 have hb:=hd.at (i:=(ns.getD r zN).1.toNat) (by omega)
 have hk':k < (ns.getD r zN).2.1.length + 1:=by rw [← h4]; exact hk
 have e1:¬ k=0→hiK dm (ns.getD r zN) (k - 1)=(ns.getD r zN).2.1.getD (k - 1) 0:=fun q=>by unfold hiK; rw [if_pos (by omega)]
 unfold loK
 split
 ·unfold hiK
  split
  ·have:=h5 k (by omega); omega
  ·omega
 ·rename_i q
  rw [e1 q]
  unfold hiK
  split
  ·have:=h5 k (by omega); have:=h5 (k - 1) (by omega); have:=(h5 k (by omega)).2.2 (by omega); omega
  ·have:=h5 (k - 1) (by omega); omega
theorem cntE_nn (hd:DmOk dm) (hs:AllS dm ns):∀ (f:Nat) (r:Int) (a:Nat),r < (ns.length:Int)→0≤cntE dm ns leaf f r a:=by
 intro f
 induction f with
 | zero=>intro r a _; simp [cntE]
 | succ f ih =>
  intro r a hr
  rcases Int.lt_or_le r 0 with h | h
  ·rw [cntE_leaf _ _ _ _ h]
   split
   ·have:=prodW_pos hd a dm.length; omega
   ·omega
  ·rw [cntE_node _ _ _ _ h]
   refine Int.mul_nonneg ?_ (by have:=prodW_pos hd a (ns.getD r.toNat zN).1.toNat; omega)
   refine sumS_nn _ fun k hk=>Int.mul_nonneg (ih _ _ ?_) (by have:=hs.wid (show r.toNat < ns.length by omega) hk hd; omega)
   rw [getD_eq _ _ _ hk]
   exact ((rkA_ok hd hs).1 r.toNat (by omega)).2 _ (List.getElem_mem hk) |>.1
theorem totE_nn (hd:DmOk dm) (hs:AllS dm ns) (f:Nat) {r:Nat} (hr:r < ns.length) (n:Nat) (hn:n≤(kids ns r).length):0≤sumS (fun k=>cntE dm ns leaf f ((kids ns r).getD k 0) ((ns.getD r zN).1.toNat + 1) * (hiK dm (ns.getD r zN) k - loK dm (ns.getD r zN) k)) n:=by
 refine sumS_nn _ fun k hk=>Int.mul_nonneg (cntE_nn hd hs _ _ _ ?_) (by have:=hs.wid hr (show k < (kids ns r).length by omega) hd; omega)
 rw [getD_eq _ _ _ (by omega)]
 exact ((rkA_ok hd hs).1 r hr).2 _ (List.getElem_mem (by omega)) |>.1
theorem cntE_stable (hd:DmOk dm) (hs:AllS dm ns):∀ (m f f':Nat) (r:Int) (a:Nat),rkI (rkA ns) r≤m→m + 1≤f→m + 1≤f'→r < (ns.length:Int)→cntE dm ns leaf f r a=cntE dm ns leaf f' r a:=by
 intro m
 induction m with
 | zero =>
  intro f f' r a h h1 h2 hr
  have hneg:r < 0:=by unfold rkI at h; split at h; assumption; omega
  obtain ⟨g,rfl⟩:∃ g,f=g + 1:=⟨f - 1,by omega⟩
  obtain ⟨g',rfl⟩:∃ g',f'=g' + 1:=⟨f' - 1,by omega⟩
  rw [cntE_leaf _ _ _ _ hneg,cntE_leaf _ _ _ _ hneg]
 | succ m ih =>
  intro f f' r a h h1 h2 hr
  obtain ⟨g,rfl⟩:∃ g,f=g + 1:=⟨f - 1,by omega⟩
  obtain ⟨g',rfl⟩:∃ g',f'=g' + 1:=⟨f' - 1,by omega⟩
  rcases Int.lt_or_le r 0 with q | q
  ·rw [cntE_leaf _ _ _ _ q,cntE_leaf _ _ _ _ q]
  ·rw [cntE_node _ _ _ _ q,cntE_node _ _ _ _ q]
   congr 1
   refine sumS_congr _ fun k hk=>?_
   have hk2:=((rkA_ok hd hs).1 r.toNat (by omega)).2 _ (List.getElem_mem hk)
   rw [getD_eq _ _ _ hk]
   rw [ih g g' _ _ ?_ (by omega) (by omega) hk2.1]
   unfold rkI at h ⊢
   rw [if_neg (by omega)] at h
   split
   ·omega
   ·rename_i q2; have:=hk2.2 (by omega); omega
theorem cntE_kid (hd:DmOk dm) (hs:AllS dm ns) {r:Nat} (hr:r < ns.length) {k:Nat} (hk:k < (kids ns r).length) (a:Nat):cntE dm ns leaf 8 ((kids ns r).getD k 0) a=cntE dm ns leaf 9 ((kids ns r).getD k 0) a:=by
 have hk2:=((rkA_ok hd hs).1 r hr).2 _ (List.getElem_mem hk)
 rw [getD_eq _ _ _ hk]
 refine cntE_stable hd hs 7 8 9 _ _ ?_ (by omega) (by omega) hk2.1
 unfold rkI
 split
 ·omega
 ·rename_i q2
  have:=hk2.2 (by omega)
  have:=(rkA_ok hd hs).2 r hr
  omega
end
def MemoOk (dm:List DS3) (ns:List DS1) (leaf:Int) (me:List DS3):Prop:=∀ r t,mapF iEq r me=some t→t=sat (totE dm ns leaf 8 r.toNat)
theorem mapF_put {β:Type} (k k':Int) (v:β):∀ es:List (Int × β × Unit),mapF iEq k (mapP iEq k' v es)=if k=k' then some v else mapF iEq k es:=by
 intro es
 induction es with
 | nil =>
  simp only [mapP,mapF]
  by_cases h:k=k'
  ·rw [iEq_t h,if_pos h]; rfl
  ·rw [iEq_f h,if_neg h]; rfl
 | cons e es ih =>
  simp only [mapP]
  by_cases h1:k'=e.1
  ·rw [iEq_t h1]
   simp only [cond_true,mapF]
   by_cases h:k=k'
   ·rw [iEq_t h,if_pos h]; rfl
   ·rw [iEq_f h,if_neg h,iEq_f (fun q=>h (q.trans h1.symm))]
    rfl
  ·rw [iEq_f h1]
   simp only [cond_false,mapF,ih]
   by_cases h:k=e.1
   ·have hne:¬ k=k':=fun q=>h1 (q.symm.trans h)
    rw [iEq_t h,if_neg hne,if_neg hne]
   ·rw [iEq_f h]; rfl
theorem mono_51 (x:Int × Int × (List DS1) × (List DS3) × Int × (List DS3) × Unit):Mo fun s=>mb51 s x.1 x.2.1 x.2.2.1 x.2.2.2.1 x.2.2.2.2.1 x.2.2.2.2.2.1:=by
 unfold mb51; (repeat' (first | exact Mo.const _ | exact Mo.self _ | apply Mo.bind | apply Mo.cond | apply Mo.map | apply Mo.join | apply Mo.loop | (intro _)))
end Abs
end Go.Proofs.YtgfnhpadmifiiaaDoor
end
section
namespace Go.Proofs.YtgfnhpadmifiiaaDoor
namespace Abs
section
variable {dm:List DS3} {ns:List DS1} {leaf:Int}
def lvl (dm:List DS3) (ns:List DS1) (r:Int):Nat:=if r < 0 then dm.length else (ns.getD r.toNat zN).1.toNat
theorem lvl_le (hd:DmOk dm) (hs:AllS dm ns) {r:Int} (hr:r < (ns.length:Int)):lvl dm ns r≤dm.length:=by
 unfold lvl
 split
 ·omega
 ·have:=(hs r.toNat (by omega)).2.1; omega
theorem lvl_kid (hd:DmOk dm) (hs:AllS dm ns) {r:Nat} (hr:r < ns.length) {k:Nat} (hk:k < (kids ns r).length):(ns.getD r zN).1.toNat + 1≤lvl dm ns ((kids ns r).getD k 0):=by
 obtain ⟨h1,h2,_,_,_,h6⟩:=hs r hr
 have h7:=h6 k hk
 unfold lvl
 split
 ·omega
 ·rename_i q
  have:=h7.2.2 (by show 0≤(kids ns r).getD k 0; omega)
  have e:(ns.getD r zN).2.2.1.getD k 0=(kids ns r).getD k 0:=rfl
  rw [e] at this
  omega
theorem below_T (hd:DmOk dm) (hs:AllS dm ns) (hn:ns.length≤1000) (r:Int) (a:Nat) (me:List DS3) (hr:RefOk ns.length r) (ha:a≤lvl dm ns r) (hm:MemoOk dm ns leaf me) :
  T (m51 r (a:Int) ns dm leaf me) (fun y=>∃ me',y=(sat (cntE dm ns leaf 9 r a),ns,dm,leaf,me',())∧MemoOk dm ns leaf me'):=by
 unfold m51
 refine fix_G (ι:=Int × Nat × List DS3) mono_51 (fun g=>(g.1,(g.2.1:Int),ns,dm,leaf,g.2.2,())) (fun g=>RefOk ns.length g.1∧g.2.1≤lvl dm ns g.1∧MemoOk dm ns leaf g.2.2)
  (fun g y=>∃ me',y=(sat (cntE dm ns leaf 9 g.1 g.2.1),ns,dm,leaf,me',())∧MemoOk dm ns leaf me') (fun g=>rkI (rkA ns) g.1) ?_ (r,a,me) ⟨hr,ha,hm⟩
 rintro ⟨r,a,me⟩ ⟨hr,ha,hm⟩ s ih
 dsimp only at hr ha hm ih ⊢
 unfold mb51
 have hD:=lenI_eq dm
 have hN:=lenI_eq ns
 have hd2:=hd.2.1
 have hll:=lvl_le hd hs hr.2
 refine T.cnd (fun hc=>?_) (fun hc=>?_) <;> simp only [iLt_T,iLt_F] at hc
 ·have hr1:=hr.1
  refine T.callE (v:=(-1 - r,())) (by show some (iSub .i64 (-1) r,())=_; rw [iSub64 (by omega) (by omega)]) ?_
  dsimp only
  rw [cntE_leaf _ _ _ _ hc]
  refine T.cnd (fun hc2=>?_) (fun hc2=>?_) <;> simp only [iNe_T,iNe_F] at hc2
  ·rw [if_neg hc2]
   exact T.ret ⟨me,rfl,hm⟩
  ·rw [if_pos hc2,hD]
   have h1:=free_m (n:=1) hd (by omega) a dm.length (by omega) (by omega) ns leaf me
   rw [show sat 1=1 by decide,Int.one_mul] at h1
   refine T.callE h1 (T.ret ⟨me,rfl,hm⟩)
 have hrt:r.toNat < ns.length:=by have:=hr.2; omega
 have hsr:=hs r.toNat hrt
 have eN:atI ns r (0,[],[],())=ns.getD r.toNat zN:=rfl
 have hlv:lvl dm ns r=(ns.getD r.toNat zN).1.toNat:=by unfold lvl; rw [if_neg (by omega)]
 rw [hlv] at ha
 have h1:=hsr.1
 have h2:=hsr.2.1
 have h3:=hsr.2.2.1
 have h4:=hsr.2.2.2.1
 have h5:=hsr.2.2.2.2.1
 have eA:(ns.getD r.toNat zN).1=(((ns.getD r.toNat zN).1.toNat:Nat):Int):=by omega
 have hlen:=hsr.len hd
 have hkl:(kids ns r.toNat).length≤2000000001:=hlen.2
 have eK:(ns.getD r.toNat zN).2.2.1=kids ns r.toNat:=rfl
 have e48:totE dm ns leaf 8 r.toNat=sumS (fun k=>cntE dm ns leaf 8 ((kids ns r.toNat).getD k 0) ((ns.getD r.toNat zN).1.toNat + 1) * (hiK dm (ns.getD r.toNat zN) k - loK dm (ns.getD r.toNat zN) k)) (kids ns r.toNat).length:=rfl
 have ht0:0≤totE dm ns leaf 8 r.toNat:=totE_nn hd hs 8 hrt _ (Nat.le_refl _)
 rw [eN,cntE_node _ _ _ _ hc]
 refine T.grd (by rw [bnd_T]; have:=hr.2; omega) (T.cnd (fun hc2=>?_) (fun hc2=>?_))
 ·have hno:mapG iEq r me 0=0:=by
   unfold mapH at hc2
   unfold mapG
   cases q:mapF iEq r me with
   | none=>rfl
   | some t=>rw [q] at hc2; cases hc2
  rw [hno]
  refine T.grd (by rw [bnd_T,hD]; omega) ?_
  rw [eK]
  have hK:=lenI_eq (kids ns r.toNat)
  have hC:=lenI_eq (ns.getD r.toNat zN).2.1
  rw [hK]
  have eD:atI dm (ns.getD r.toNat zN).1 (0,0,())=dm.getD (ns.getD r.toNat zN).1.toNat zS:=rfl
  refine T.loop (fun q=>∃ (k:Nat) (me':List DS3),k≤(kids ns r.toNat).length∧MemoOk dm ns leaf me'∧q=(r,(a:Int),sat (sumS (fun k=>cntE dm ns leaf 8 ((kids ns r.toNat).getD k 0) ((ns.getD r.toNat zN).1.toNat + 1) * (hiK dm (ns.getD r.toNat zN) k - loK dm (ns.getD r.toNat zN) k)) k),loK dm (ns.getD r.toNat zN) k,kids ns r.toNat,((kids ns r.toNat).length:Int),(k:Int),ns,dm,leaf,me',(ns.getD r.toNat zN).1,(ns.getD r.toNat zN).2.1,kids ns r.toNat,())) (fun q=>(kids ns r.toNat).length - q.2.2.2.2.2.2.1.toNat) ⟨0,me,by omega,hm,?_⟩ ?_
  ·rw [eD]; unfold loK; rw [if_pos rfl]; rfl
  rintro _ ⟨k,me',hk,hm',rfl⟩
  dsimp only
  rw [hC,hD,eD,atI_getD,atI_getD]
  refine T.cnd (fun hc3=>?_) (fun hc3=>?_) <;> simp only [iLt_T,iLt_F] at hc3
  ·have hkk:k < (kids ns r.toNat).length:=by omega
   have hw:=hs.wid hrt hkk hd
   have hb:=hd.at (i:=(ns.getD r.toNat zN).1.toNat) (by omega)
   have hkid:=hsr.2.2.2.2.2 k hkk
   have hrefk:RefOk ns.length ((kids ns r.toNat).getD k 0):=hkid.1
   have hlvk:=lvl_kid hd hs hrt hkk
   have hrk:rkI (rkA ns) ((kids ns r.toNat).getD k 0) < rkI (rkA ns) r:=by
    have hk2:=((rkA_ok hd hs).1 r.toNat hrt).2 _ (List.getElem_mem hkk)
    rw [getD_eq _ _ _ hkk]
    unfold rkI
    rw [if_neg (show ¬ r < 0 by omega)]
    split
    ·omega
    ·have:=hk2.2 (by omega); omega
   have hcn:0≤cntE dm ns leaf 8 ((kids ns r.toNat).getD k 0) ((ns.getD r.toNat zN).1.toNat + 1):=cntE_nn hd hs _ _ _ hrefk.2
   have eqc:=cntE_kid (leaf:=leaf) hd hs hrt hkk ((ns.getD r.toNat zN).1.toNat + 1)
   have hps:0≤sumS (fun k=>cntE dm ns leaf 8 ((kids ns r.toNat).getD k 0) ((ns.getD r.toNat zN).1.toNat + 1) * (hiK dm (ns.getD r.toNat zN) k - loK dm (ns.getD r.toNat zN) k)) k:=totE_nn hd hs 8 hrt k (by omega)
   have ei:iAdd .i64 (ns.getD r.toNat zN).1 1=(((ns.getD r.toNat zN).1.toNat + 1:Nat):Int):=by rw [iAdd64 (by omega) (by omega)]; omega
   have nxt:∀ me2,MemoOk dm ns leaf me2→∀ hi:Int,hi=hiK dm (ns.getD r.toNat zN) k→T ((m82 (sat (cntE dm ns leaf 9 ((kids ns r.toNat).getD k 0) ((ns.getD r.toNat zN).1.toNat + 1))) (iSub .i64 hi (loK dm (ns.getD r.toNat zN) k))).bind fun y105 =>
     some (Sum.inl (β:=Int × (List DS1) × (List DS3) × Int × (List DS3) × Unit) (r,(a:Int),iMin (iAdd .i64 (sat (sumS (fun k=>cntE dm ns leaf 8 ((kids ns r.toNat).getD k 0) ((ns.getD r.toNat zN).1.toNat + 1) * (hiK dm (ns.getD r.toNat zN) k - loK dm (ns.getD r.toNat zN) k)) k)) y105.1) 17592186044416,hi,kids ns r.toNat,((kids ns r.toNat).length:Int),iAdd .i64 (k:Int) 1,ns,dm,leaf,me2,(ns.getD r.toNat zN).1,(ns.getD r.toNat zN).2.1,kids ns r.toNat,())))
     (LQ (fun q=>∃ (k:Nat) (me':List DS3),k≤(kids ns r.toNat).length∧MemoOk dm ns leaf me'∧q=(r,(a:Int),sat (sumS (fun k=>cntE dm ns leaf 8 ((kids ns r.toNat).getD k 0) ((ns.getD r.toNat zN).1.toNat + 1) * (hiK dm (ns.getD r.toNat zN) k - loK dm (ns.getD r.toNat zN) k)) k),loK dm (ns.getD r.toNat zN) k,kids ns r.toNat,((kids ns r.toNat).length:Int),(k:Int),ns,dm,leaf,me',(ns.getD r.toNat zN).1,(ns.getD r.toNat zN).2.1,kids ns r.toNat,())) (fun q=>(kids ns r.toNat).length - q.2.2.2.2.2.2.1.toNat) ((kids ns r.toNat).length - (k:Int).toNat) (fun y=>∃ me',y=(sat (totE dm ns leaf 8 r.toNat * prodW dm a (ns.getD r.toNat zN).1.toNat),ns,dm,leaf,me',())∧MemoOk dm ns leaf me')):=by
    rintro me2 hm2 _ rfl
    rw [iSub64 (by omega) (by omega),← eqc]
    refine T.callE (times_m (sat_nn hcn) ⟨by omega,by omega⟩) ?_
    dsimp only
    have hpr:=Int.mul_nonneg hcn (show 0≤hiK dm (ns.getD r.toNat zN) k - loK dm (ns.getD r.toNat zN) k by omega)
    refine T.go ⟨k + 1,me2,by omega,hm2,?_⟩ (by dsimp only; rw [iAdd64 (by omega) (by omega)]; omega)
    have b1:=sat_nn hps
    have b2:=sat_nn hpr
    rw [sat_mul hcn (by omega),iAdd64 (by omega) (by omega),iAdd64 (by omega) (by omega)]
    have:iMin (sat (sumS (fun k=>cntE dm ns leaf 8 ((kids ns r.toNat).getD k 0) ((ns.getD r.toNat zN).1.toNat + 1) * (hiK dm (ns.getD r.toNat zN) k - loK dm (ns.getD r.toNat zN) k)) k) + sat (cntE dm ns leaf 8 ((kids ns r.toNat).getD k 0) ((ns.getD r.toNat zN).1.toNat + 1) * (hiK dm (ns.getD r.toNat zN) k - loK dm (ns.getD r.toNat zN) k))) 17592186044416=sat (sumS (fun k=>cntE dm ns leaf 8 ((kids ns r.toNat).getD k 0) ((ns.getD r.toNat zN).1.toNat + 1) * (hiK dm (ns.getD r.toNat zN) k - loK dm (ns.getD r.toNat zN) k)) (k + 1)):=by
     simp only [sumS]
     rw [← sat_add hps hpr]
     unfold iMin sat; omega
    rw [this]
    have el:loK dm (ns.getD r.toNat zN) (k + 1)=hiK dm (ns.getD r.toNat zN) k:=by
     unfold loK
     rw [if_neg (by omega),Nat.add_sub_cancel]
    rw [el]
    rfl
   refine T.grd (by rw [bnd_T]; omega) (T.grd (by rw [bnd_T]; omega) (T.cnd (fun hc4=>?_) (fun hc4=>?_))) <;> simp only [iLt_T,iLt_F] at hc4
   ·refine T.grd (by rw [bnd_T]; omega) ?_
    rw [ei]
    refine T.call (ih ((kids ns r.toNat).getD k 0,(ns.getD r.toNat zN).1.toNat + 1,me') ⟨hrefk,hlvk,hm'⟩ hrk) ?_
    rintro _ ⟨me2,rfl,hm2⟩
    exact nxt me2 hm2 _ (by unfold hiK; rw [if_pos (by omega)])
   ·rw [ei,iAdd64 (by omega) (by omega)]
    refine T.call (ih ((kids ns r.toNat).getD k 0,(ns.getD r.toNat zN).1.toNat + 1,me') ⟨hrefk,hlvk,hm'⟩ hrk) ?_
    rintro _ ⟨me2,rfl,hm2⟩
    exact nxt me2 hm2 _ (by unfold hiK; rw [if_neg (by omega)])
  ·obtain rfl:k=(kids ns r.toNat).length:=by omega
   rw [← e48]
   refine T.mapL ?_
   have hf:=free_m (n:=totE dm ns leaf 8 r.toNat) hd ht0 a (ns.getD r.toNat zN).1.toNat (by omega) (by omega) ns leaf (mapP iEq r (sat (totE dm ns leaf 8 r.toNat)) me')
   rw [← eA] at hf
   refine T.callE hf (T.ret ⟨_,rfl,fun r' t h=>?_⟩)
   rw [mapF_put] at h
   split at h
   ·rename_i q; subst q; cases h; rfl
   ·exact hm' r' t h
 ·obtain ⟨t,ht⟩:∃ t,mapF iEq r me=some t:=by
   unfold mapH at hc2
   cases q:mapF iEq r me with
   | none=>rw [q] at hc2; cases hc2
   | some t=>exact ⟨t,rfl⟩
  have hg:mapG iEq r me 0=sat (totE dm ns leaf 8 r.toNat):=by unfold mapG; rw [ht]; exact hm r t ht
  rw [hg]
  have hf:=free_m (n:=totE dm ns leaf 8 r.toNat) hd ht0 a (ns.getD r.toNat zN).1.toNat (by omega) (by omega) ns leaf me
  rw [← eA] at hf
  exact T.callE hf (T.ret ⟨me,rfl,hm⟩)
end
end Abs
end Go.Proofs.YtgfnhpadmifiiaaDoor
end
section
namespace Go.Proofs.YtgfnhpadmifiiaaDoor
namespace Abs
theorem mapF_none (r:Int):mapF iEq r ([]:List DS3)=none:=rfl
theorem VD.alls {dm:List DS3} {ns:List DS1} {root:Int} (h:VD dm ns root):AllS dm ns:=h.2.2.1
theorem count_T (l:List DS0) (ns:List DS1) (root:Int) (leaf:Int) (hz:SzN ns):T (m26 (l,()) (ns,root,()) leaf) (fun y=>(0≤leaf∧leaf≤255∧valS l=0∧VD (doms l) ns root→y.1=sat (cntE (doms l) ns leaf 9 root 0))∧(¬ (0≤leaf∧leaf≤255∧valS l=0∧VD (doms l) ns root)→y.1=0)):=by
 unfold m26
 refine T.cnd (fun hc=>?_) (fun hc=>?_) <;> simp only [corT_T,corT_F,iLt_T,iLt_F] at hc
 ·exact T.ret ⟨fun h=>by omega,fun _=>rfl⟩
 refine T.call (diag_m l ns root hz) ?_
 rintro ⟨y,⟨⟩⟩ hy
 dsimp only at hy ⊢
 refine T.cnd (fun hc2=>?_) (fun hc2=>?_) <;> simp only [not_T,not_F] at hc2
 ·refine T.ret ⟨fun h=>?_,fun _=>rfl⟩
  rw [hy.2 ⟨h.2.2.1,h.2.2.2⟩] at hc2
  cases hc2
 obtain ⟨hv,hV⟩:=hy.1 hc2
 have hd:=doms_ok hv
 refine T.callE (doms_m l hv) ?_
 dsimp only
 refine T.call (below_T hd hV.alls hV.1 root 0 [] hV.2.1 (by omega) (fun r t h=>by rw [mapF_none] at h; cases h)) ?_
 rintro _ ⟨me',rfl,_⟩
 exact T.ret ⟨fun _=>rfl,fun h=>absurd ⟨by omega,by omega,hv,hV⟩ h⟩
def firstK (p:Nat→Bool):Nat→Nat→Nat
 | 0,i=>i
 | n + 1,i=>if p i=true then i else firstK p n (i + 1)
theorem firstK_eq {p:Nat→Bool}:∀ (n i k:Nat),i≤k→k < i + n→(∀ j,i≤j→j < k→p j=false)→p k=true→firstK p n i=k:=by
 intro n
 induction n with
 | zero=>intro i k h1 h2 _ _; omega
 | succ n ih =>
  intro i k h1 h2 h3 h4
  simp only [firstK]
  by_cases e:i=k
  ·subst e; rw [if_pos h4]
  ·rw [if_neg (by rw [h3 i (by omega) (by omega)]; decide)]
   exact ih (i + 1) k (by omega) (by omega) (fun j a b=>h3 j (by omega) b) h4
section
variable {dm:List DS3} {ns:List DS1} {leaf:Int}
def kLeast (dm:List DS3) (ns:List DS1) (leaf:Int) (r:Nat):Nat:=firstK (fun k=>decide (cntE dm ns leaf 9 ((kids ns r).getD k 0) ((ns.getD r zN).1.toNat + 1) ≠ 0)) (kids ns r).length 0
def leastF (dm:List DS3) (ns:List DS1) (leaf:Int):Nat→Int→List Int→List Int
 | 0,_,fs=>fs
 | f + 1,r,fs=>if r < 0 then fs else
   leastF dm ns leaf f ((kids ns r.toNat).getD (kLeast dm ns leaf r.toNat) 0) (if 0 < kLeast dm ns leaf r.toNat then fs.set (ns.getD r.toNat zN).1.toNat ((ns.getD r.toNat zN).2.1.getD (kLeast dm ns leaf r.toNat - 1) 0) else fs)
theorem leastF_leaf (f:Nat) {r:Int} (h:r < 0) (fs:List Int):leastF dm ns leaf f r fs=fs:=by
 cases f with
 | zero=>rfl
 | succ f=>simp only [leastF]; rw [if_pos h]
theorem sumS_ne {g:Nat→Int}:∀ n,sumS g n ≠ 0→∃ k,k < n∧g k ≠ 0:=by
 intro n
 induction n with
 | zero=>intro h; exact absurd rfl h
 | succ n ih =>
  intro h
  simp only [sumS] at h
  by_cases q:g n=0
  ·obtain ⟨k,h1,h2⟩:=ih (by omega); exact ⟨k,by omega,h2⟩
  ·exact ⟨n,by omega,q⟩
theorem kid_ne (hd:DmOk dm) (hs:AllS dm ns) {r:Int} {a:Nat} (h0:0≤r) (hr:r < (ns.length:Int)) (h:cntE dm ns leaf 9 r a ≠ 0):∃ k,k < (kids ns r.toNat).length∧cntE dm ns leaf 9 ((kids ns r.toNat).getD k 0) ((ns.getD r.toNat zN).1.toNat + 1) ≠ 0:=by
 rw [cntE_node _ _ _ _ h0] at h
 have h1:totE dm ns leaf 8 r.toNat ≠ 0:=fun e=>h (by rw [e,Int.zero_mul])
 obtain ⟨k,k1,k2⟩:=sumS_ne _ h1
 refine ⟨k,k1,fun e=>k2 ?_⟩
 rw [cntE_kid hd hs (by omega) k1,e,Int.zero_mul]
theorem kLeast_eq {r:Nat} {k:Nat} (hk:k < (kids ns r).length) (h1:∀ j,j < k→cntE dm ns leaf 9 ((kids ns r).getD j 0) ((ns.getD r zN).1.toNat + 1)=0) (h2:cntE dm ns leaf 9 ((kids ns r).getD k 0) ((ns.getD r zN).1.toNat + 1) ≠ 0):kLeast dm ns leaf r=k:=by
 unfold kLeast
 exact firstK_eq _ 0 k (by omega) (by omega) (fun j _ hj=>by simpa using h1 j hj) (by simpa using h2)
end
theorem least_T (l:List DS0) (ns:List DS1) (root:Int) (leaf:Int) (hz:SzN ns):T (m21 (l,()) (ns,root,()) leaf) (fun y=>(0≤leaf∧leaf≤255∧valS l=0∧VD (doms l) ns root∧cntE (doms l) ns leaf 9 root 0 ≠ 0→y=(leastF (doms l) ns leaf 9 root ((doms l).map fun d=>d.1),true,()))∧(¬ (0≤leaf∧leaf≤255∧valS l=0∧VD (doms l) ns root∧cntE (doms l) ns leaf 9 root 0 ≠ 0)→y=([],false,()))):=by
 unfold m21
 refine T.cnd (fun hc=>?_) (fun hc=>?_) <;> simp only [corT_T,corT_F,iLt_T,iLt_F] at hc
 ·exact T.ret ⟨fun h=>by omega,fun _=>rfl⟩
 refine T.call (diag_m l ns root hz) ?_
 rintro ⟨y,⟨⟩⟩ hy
 dsimp only at hy ⊢
 refine T.cnd (fun hc2=>?_) (fun hc2=>?_) <;> simp only [not_T,not_F] at hc2
 ·refine T.ret ⟨fun h=>?_,fun _=>rfl⟩
  rw [hy.2 ⟨h.2.2.1,h.2.2.2.1⟩] at hc2
  cases hc2
 obtain ⟨hv,hV⟩:=hy.1 hc2
 have hd:=doms_ok hv
 refine T.callE (doms_m l hv) ?_
 dsimp only
 generalize hdm:doms l=dm at hd hV
 have hs:=hV.alls
 have hn:=hV.1
 refine T.call (below_T hd hs hn root 0 [] hV.2.1 (by omega) (fun r t h=>by rw [mapF_none] at h; cases h)) ?_
 rintro _ ⟨me',rfl,hme⟩
 dsimp only
 refine T.cnd (fun hc3=>?_) (fun hc3=>?_) <;> simp only [iEq_T,iEq_F,sat_zero] at hc3
 ·exact T.ret ⟨fun h=>absurd hc3 h.2.2.2.2,fun _=>rfl⟩
 have hD:=lenI_eq dm
 have hd2:=hd.2.1
 rw [hD]
 refine T.grd (by rw [fitsI_T]; omega) ?_
 rw [Int.toNat_natCast]
 have good:∀ y:List Int × Bool × Unit,y=(leastF dm ns leaf 9 root (dm.map fun d=>d.1),true,())→((0≤leaf∧leaf≤255∧valS l=0∧VD dm ns root∧cntE dm ns leaf 9 root 0 ≠ 0→y=(leastF dm ns leaf 9 root (dm.map fun d=>d.1),true,()))∧(¬ (0≤leaf∧leaf≤255∧valS l=0∧VD dm ns root∧cntE dm ns leaf 9 root 0 ≠ 0)→y=([],false,()))):=fun y e=>⟨fun _=>e,fun h=>absurd ⟨by omega,by omega,hv,hV,hc3⟩ h⟩
 refine T.mono (Q:=fun y=>y=(leastF dm ns leaf 9 root (dm.map fun d=>d.1),true,())) ?_ good
 refine T.loop (fun q=>∃ (i:Nat) (fs:List Int),i≤dm.length∧fs.length=dm.length∧(∀ j,j < i→fs.getD j 0=(dm.getD j zS).1)∧q=(dm,(dm.length:Int),(i:Int),ns,root,ns,dm,leaf,fs,me',())) (fun q=>dm.length - q.2.2.1.toNat) ⟨0,_,by omega,by simp,fun j hj=>by omega,rfl⟩ ?_
 rintro _ ⟨i,fs,hi,hfs,hg,rfl⟩
 dsimp only
 have hF:=lenI_eq fs
 have eD:atI dm (i:Int) (0,0,())=dm.getD i zS:=by rw [atI_getD]; rfl
 rw [hD,eD]
 refine T.cnd (fun hc4=>?_) (fun hc4=>?_) <;> simp only [iLt_T,iLt_F] at hc4
 ·refine T.grd (by rw [bnd_T]; omega) (T.grd (by rw [bnd_T]; omega) (T.grd (by rw [inB_T]; omega) (T.go ⟨i + 1,fs.set i (dm.getD i zS).1,by omega,by rw [List.length_set]; exact hfs,fun j hj=>?_,by rw [iAdd64 (by omega) (by omega)]; rfl⟩ (by dsimp only; rw [iAdd64 (by omega) (by omega)]; omega))))
  rw [List.getD_eq_getElem?_getD]
  by_cases e:i=j
  ·subst e
   rw [List.getElem?_set_self (by omega)]; rfl
  ·rw [List.getElem?_set_ne e,← List.getD_eq_getElem?_getD]
   exact hg j (by omega)
 obtain rfl:i=dm.length:=by omega
 obtain rfl:fs=dm.map fun d=>d.1:=by
  apply List.ext_getElem (by rw [hfs,List.length_map])
  intro j h1 h2
  have:=hg j (by omega)
  rw [getD_eq _ _ _ h1,getD_eq _ _ _ (by omega)] at this
  rw [this,List.getElem_map]
 refine T.mapL ?_
 have hN:=lenI_eq ns
 refine T.loop (fun q=>∃ (f:Nat) (r:Int) (a:Nat) (fs:List Int) (me:List DS3),RefOk ns.length r∧rkI (rkA ns) r≤f∧cntE dm ns leaf 9 r a ≠ 0∧fs.length=dm.length∧MemoOk dm ns leaf me∧leastF dm ns leaf 9 root (dm.map fun d=>d.1)=leastF dm ns leaf f r fs∧q=(r,ns,root,ns,dm,leaf,fs,me,())) (fun q=>rkI (rkA ns) q.1) ⟨9,root,0,_,me',hV.2.1,?_,hc3,by simp,hme,rfl,rfl⟩ ?_
 ·unfold rkI
  split
  ·omega
  ·have:=(rkA_ok hd hs).2 root.toNat (by have:=hV.2.1.2; omega); omega
 rintro _ ⟨f,r,a,fs,me,hr,hf,hcn,hfs,hm,hfin,rfl⟩
 dsimp only
 refine T.cnd (fun hc5=>?_) (fun hc5=>?_) <;> simp only [iLe_T,iLe_F] at hc5
 ·have hrt:r.toNat < ns.length:=by have:=hr.2; omega
  have hsr:=hs r.toNat hrt
  have h1:=hsr.1
  have h2:=hsr.2.1
  have h4:=hsr.2.2.2.1
  have eN:atI ns r (0,[],[],())=ns.getD r.toNat zN:=rfl
  have eK:(ns.getD r.toNat zN).2.2.1=kids ns r.toNat:=rfl
  have hK:=lenI_eq (kids ns r.toNat)
  have hC:=lenI_eq (ns.getD r.toNat zN).2.1
  have hlen:=hsr.len hd
  have hkl:(kids ns r.toNat).length≤2000000001:=hlen.2
  rw [eN,eK,hK]
  refine T.grd (by rw [bnd_T]; have:=hr.2; omega) ?_
  obtain ⟨k0,k01,k02⟩:=kid_ne hd hs hc5 hr.2 hcn
  obtain ⟨f',rfl⟩:∃ f',f=f' + 1:=⟨f - 1,by unfold rkI at hf; rw [if_neg (by omega)] at hf; omega⟩
  refine T.loop (fun q=>∃ (i:Nat) (me:List DS3),i≤k0∧MemoOk dm ns leaf me∧(∀ j,j < i→cntE dm ns leaf 9 ((kids ns r.toNat).getD j 0) ((ns.getD r.toNat zN).1.toNat + 1)=0)∧q=(r,kids ns r.toNat,((kids ns r.toNat).length:Int),(i:Int),ns,root,ns,dm,leaf,fs,(ns.getD r.toNat zN).1,(ns.getD r.toNat zN).2.1,kids ns r.toNat,me,())) (fun q=>(kids ns r.toNat).length - q.2.2.2.1.toNat) ⟨0,me,by omega,hm,fun j hj=>by omega,rfl⟩ ?_
  rintro _ ⟨i,me1,hi,hm1,hz0,rfl⟩
  dsimp only
  have hil:i < (kids ns r.toNat).length:=by omega
  have hFs:=lenI_eq fs
  have ei:iAdd .i64 (ns.getD r.toNat zN).1 1=(((ns.getD r.toNat zN).1.toNat + 1:Nat):Int):=by rw [iAdd64 (by omega) (by omega)]; omega
  have hkid:=hsr.2.2.2.2.2 i hil
  have hrefk:RefOk ns.length ((kids ns r.toNat).getD i 0):=hkid.1
  have hrk:rkI (rkA ns) ((kids ns r.toNat).getD i 0) < rkI (rkA ns) r:=by
   have hk2:=((rkA_ok hd hs).1 r.toNat hrt).2 _ (List.getElem_mem hil)
   rw [getD_eq _ _ _ hil]
   unfold rkI
   rw [if_neg (show ¬ r < 0 by omega)]
   split
   ·omega
   ·have:=hk2.2 (by omega); omega
  rw [hK,hC,hFs,ei,atI_getD]
  refine T.ct (by rw [iLt_T]; omega) (T.grd (by rw [bnd_T]; omega) (T.call (below_T hd hs hn _ _ me1 hrefk (lvl_kid hd hs hrt hil) hm1) ?_))
  rintro _ ⟨me2,rfl,hm2⟩
  dsimp only
  refine T.cnd (fun hc6=>?_) (fun hc6=>?_) <;> simp only [iEq_T,iEq_F,sat_zero] at hc6
  ·refine T.go ⟨i + 1,me2,?_,hm2,fun j hj=>?_,by rw [iAdd64 (by omega) (by omega)]; rfl⟩ (by dsimp only; rw [iAdd64 (by omega) (by omega)]; omega)
   ·rcases Nat.lt_or_ge i k0 with q | q
    ·omega
    ·obtain rfl:i=k0:=by omega
     exact absurd hc6 k02
   ·rcases Nat.lt_or_ge j i with q | q
    ·exact hz0 j q
    ·obtain rfl:j=i:=by omega
     exact hc6
  have hkL:kLeast dm ns leaf r.toNat=i:=kLeast_eq hil hz0 hc6
  have hfin2:leastF dm ns leaf 9 root (dm.map fun d=>d.1)=leastF dm ns leaf f' ((kids ns r.toNat).getD i 0) (if 0 < i then fs.set (ns.getD r.toNat zN).1.toNat ((ns.getD r.toNat zN).2.1.getD (i - 1) 0) else fs):=by
   rw [hfin]
   simp only [leastF]
   rw [if_neg (by omega),hkL]
  refine T.cnd (fun hc7=>?_) (fun hc7=>?_) <;> simp only [iLt_T,iLt_F] at hc7
  ·have ej:iSub .i64 (i:Int) 1=((i - 1:Nat):Int):=by rw [iSub64 (by omega) (by omega)]; omega
   rw [ej,atI_getD]
   have hik:i < (ns.getD r.toNat zN).2.1.length + 1:=by rw [← h4]; exact hil
   refine T.grd (by rw [bnd_T]; omega) (T.grd (by rw [bnd_T]; omega) (T.grd (by rw [inB_T]; omega) ?_))
   refine T.out (show LQ _ _ _ _ (Sum.inl _) from ⟨⟨f',_,_,_,me2,hrefk,by omega,hc6,by rw [List.length_set]; exact hfs,hm2,?_,rfl⟩,by exact hrk⟩)
   rw [hfin2,if_pos (by omega)]
  ·refine T.out (show LQ _ _ _ _ (Sum.inl _) from ⟨⟨f',_,_,_,me2,hrefk,by omega,hc6,hfs,hm2,?_,rfl⟩,by exact hrk⟩)
   rw [hfin2,if_neg (by omega)]
 ·refine T.out ?_
  rw [hfin,leastF_leaf f hc5]
end Abs
end Go.Proofs.YtgfnhpadmifiiaaDoor
end
namespace Go.Proofs.YtgfnhpadmifiiaaDoor
namespace Abs
def I64 (n:Int):Prop:=-9223372036854775808≤n∧n≤9223372036854775807
def testS (l:List DS0) (i lo hi:Int):DS2 × Int × Unit :=
 if valS l ≠ 0 then (([],0,()),valS l,()) else if i < 0∨(l.length:Int)≤i then (([],0,()),7,()) else
 if hi < lo∨(domS (l.getD i.toNat zA)).2 < lo∨hi < (domS (l.getD i.toNat zA)).1 then (([],-1,()),0,())
 else if lo≤(domS (l.getD i.toNat zA)).1∧(domS (l.getD i.toNat zA)).2≤hi then (([],-2,()),0,())
 else if lo≤(domS (l.getD i.toNat zA)).1 then (([(i,[hi + 1],[-2,-1],())],0,()),0,())
 else if (domS (l.getD i.toNat zA)).2≤hi then (([(i,[lo],[-1,-2],())],0,()),0,())
 else (([(i,[lo,hi + 1],[-1,-2,-1],())],0,()),0,())
theorem leaf_m (v:Int):m17 v=some (([],-1 - max 0 (min v 255),()),()):=by
 show some ((([]:List DS1),iSub .i64 (-1) (iMax 0 (iMin v 255)),()),())=_
 unfold iMax iMin
 rw [iSub64 (by omega) (by omega)]
theorem lf_m (v:Int) (h:0≤v∧v≤255):m40 v=some (-1 - v,()):=by
 show some (iSub .i64 (-1) v,())=_
 rw [iSub64 (by omega) (by omega)]
theorem test_m (l:List DS0) (i lo hi:Int):m12 (l,()) i lo hi=some (testS l i lo hi):=by
 refine T.eq ?_
 unfold m12 testS
 refine T.callE (val_m _) ?_
 dsimp only
 have hL:=lenI_eq l
 refine T.cnd (fun hc=>?_) (fun hc=>?_) <;> simp only [iNe_T,iNe_F] at hc
 ·rw [if_pos hc]; exact T.ret rfl
 rw [if_neg (by omega)]
 have v:=val_ok hc
 refine T.cnd (fun hc2=>?_) (fun hc2=>?_) <;> simp only [corT_T,corT_F,iLt_T,iLt_F,iLe_T,iLe_F,hL] at hc2
 ·rw [if_pos hc2]; exact T.ret rfl
 rw [if_neg (by omega)]
 have hil:i.toNat < l.length:=by omega
 have ei:i=(i.toNat:Int):=by omega
 have hb:=dom_bd (v.2.2 _ (List.getElem_mem hil)).2
 refine T.callE (v:=((domS l[i.toNat]).1,(domS l[i.toNat]).2,())) (by have q:=dom_sc l i.toNat hil hc; rwa [← ei] at q) ?_
 dsimp only
 rw [getD_eq l i.toNat zA hil]
 generalize domS l[i.toNat]=d at hb ⊢
 obtain ⟨d1,d2⟩:=d
 dsimp only at hb ⊢
 unfold iMin iMax
 refine T.cnd (fun hc3=>?_) (fun hc3=>?_) <;> simp only [iLt_T,iLt_F] at hc3
 ·rw [if_pos (by omega)]
  refine T.callE (leaf_m 0) (T.ret rfl)
 rw [if_neg (by omega)]
 refine T.callE (lf_m 1 (by omega)) ?_
 dsimp only
 refine T.join (fun j=>j=(i,min hi d2,d2,0,(if d1 < lo then [lo] else []),(if d1 < lo then [-1,-2] else [-2]),())) ?_ ?_
 ·refine T.cnd (fun hc4=>?_) (fun hc4=>?_) <;> simp only [iLt_T,iLt_F] at hc4
  ·refine T.grd (by rw [fits_T]; exact ⟨by simp,by simp⟩) (T.callE (lf_m 0 (by omega)) (T.callE (lf_m 1 (by omega)) (T.jgo ?_)))
   rw [if_pos (by omega),if_pos (by omega),show max lo d1=lo by omega]
   rfl
  ·refine T.jgo ?_
   rw [if_neg (by omega),if_neg (by omega)]
   rfl
 rintro _ rfl
 dsimp only
 refine T.cnd (fun hc5=>?_) (fun hc5=>?_) <;> simp only [iLt_T,iLt_F] at hc5
 ·rw [iAdd64 (by omega) (by omega),show min hi d2=hi by omega,if_neg (show ¬ (lo≤d1∧d2≤hi) by omega)]
  refine T.grd (by rw [fits_T]; split <;> exact ⟨by simp,by simp⟩) (T.callE (lf_m 0 (by omega)) (T.grd (by rw [fits_T]; split <;> exact ⟨by simp,by simp⟩) (T.cf ?_ ?_)))
  ·rw [iEq_F,lenI_eq]; split <;> simp
  ·refine T.ret ?_
   by_cases q:d1 < lo
   ·rw [if_pos q,if_pos q,if_neg (show ¬ lo≤d1 by omega),if_neg (show ¬ d2≤hi by omega)]; rfl
   ·rw [if_neg q,if_neg q,if_pos (show lo≤d1 by omega)]; rfl
 ·refine T.cnd (fun hc6=>?_) (fun hc6=>?_) <;> simp only [iEq_T,iEq_F,lenI_eq] at hc6
  ·have q:¬ d1 < lo:=fun q=>by rw [if_pos q] at hc6; simp at hc6
   refine T.callE (leaf_m 1) (T.ret ?_)
   rw [if_pos (show lo≤d1∧d2≤hi by omega)]; rfl
  ·have q:d1 < lo:=by
    rcases Int.lt_or_le d1 lo with q | q
    ·exact q
    ·rw [if_neg (by omega)] at hc6; simp at hc6
   refine T.ret ?_
   rw [if_neg (show ¬ (lo≤d1∧d2≤hi) by omega),if_neg (show ¬ lo≤d1 by omega),if_pos (show d2≤hi by omega),if_pos q,if_pos q]
def l0:List DS0:=[((bs [120]),2,[],1,9,())]
def n0:List DS1:=[(0,[3],[-1,-2],())]
theorem val0:valS l0=0:=by kernel_rfl
theorem dom0:doms l0=[(1,9,())]:=rfl
theorem test0:testS l0 0 3 20=((n0,0,()),0,()):=by
 unfold testS
 rw [if_neg (by rw [val0]; omega)]
 rfl
theorem sound0:SoundN [(1,9,())] n0 (0,[3],[-1,-2],()):=by
 refine ⟨by decide,by decide,by decide,by decide,fun k hk=>?_,fun k hk=>?_⟩
 ·have:k=0:=by have:k < 1:=hk; omega
  subst this
  exact ⟨by decide,by decide,fun q=>by omega⟩
 ·have:k=0∨k=1:=by have:k < 2:=hk; omega
  rcases this with rfl | rfl
  ·exact ⟨⟨by decide,by decide⟩,fun q=>by omega,fun q=>by revert q; decide⟩
  ·exact ⟨⟨by decide,by decide⟩,fun _=>by decide,fun q=>by revert q; decide⟩
theorem vd0:VD (doms l0) n0 0:=by
 rw [dom0]
 refine ⟨by decide,⟨by decide,by decide⟩,fun i hi=>?_,fun i hi k hk=>?_,by rfl⟩
 ·have:i=0:=by have:i < 1:=hi; omega
  subst this
  exact sound0
 ·have:i < 1:=hi
  omega
theorem cnt0:cntE (doms l0) n0 1 9 0 0=7:=by rw [dom0]; kernel_rfl
theorem least0:leastF (doms l0) n0 1 9 0 ((doms l0).map fun d=>d.1)=[3]:=by rw [dom0]; kernel_rfl
theorem sz0:SzN n0:=⟨by decide,fun x hx=>by obtain rfl:=List.mem_singleton.1 hx; exact ⟨by simp,by simp⟩⟩
theorem awake_m:m11=some (true,()):=by
 refine T.eq ?_
 unfold m11
 refine T.callE (show m12 (l0,()) 0 3 20=some ((n0,0,()),0,()) by rw [test_m,test0]) ?_
 dsimp only
 refine T.call (least_T l0 n0 0 1 sz0) ?_
 intro y hy
 obtain rfl:=hy.1 ⟨by omega,by omega,val0,vd0,by rw [cnt0]; omega⟩
 rw [least0]
 refine T.grd (by rfl) (T.ct (by rfl) (T.call (count_T l0 n0 0 1 sz0) ?_))
 rintro ⟨y,⟨⟩⟩ hy
 have e:=hy.1 ⟨by omega,by omega,val0,vd0⟩
 rw [cnt0] at e
 dsimp only at e
 subst e
 exact T.ret rfl
theorem awake_T {Q:Bool × Unit→Prop} (h:Q (true,())):T ((m11).bind fun y=>some (y.1,())) Q:=T.callE awake_m (T.ret h)
def RowOk (lo hi:Int) (r:List Int):Prop:=r.head?=some lo∧r.Pairwise (· < ·)∧∀ x ∈ r,x≤hi
def GOk (dm:List DS3) (g:List (List Int)):Prop:=g.length=dm.length∧∀ i,i < dm.length→RowOk (dm.getD i zS).1 (dm.getD i zS).2.1 (g.getD i [])
def prodL:List (List Int)→Nat
 | []=>1
 | r :: g=>r.length * prodL g
def excess:List (List Int)→Nat
 | []=>0
 | r :: g=>(r.length - 1) + excess g
def addS:List Int→Int→List Int
 | [],n=>[n]
 | x :: xs,n=>if n < x then n :: x :: xs else if n=x then x :: xs else x :: addS xs n
theorem addS_len:∀ (l:List Int) (n:Int),l.length≤(addS l n).length∧(addS l n).length≤l.length + 1:=by
 intro l
 induction l with
 | nil=>intro n; simp [addS]
 | cons x xs ih =>
  intro n
  simp only [addS]
  split
  ·simp
  ·split
   ·simp
   ·have:=ih n; simp; omega
theorem addS_mem:∀ (l:List Int) (n:Int),∀ y ∈ addS l n,y=n∨y ∈ l:=by
 intro l
 induction l with
 | nil=>intro n y hy; simp [addS] at hy; exact .inl hy
 | cons x xs ih =>
  intro n y hy
  simp only [addS] at hy
  split at hy
  ·rcases List.mem_cons.1 hy with q | q; exact .inl q; exact .inr q
  ·split at hy
   ·exact .inr hy
   ·rcases List.mem_cons.1 hy with q | q
    ·exact .inr (by simp [q])
    ·rcases ih n y q with r | r; exact .inl r; exact .inr (by simp [r])
theorem addS_mem2:∀ (l:List Int) (n:Int),n ∈ addS l n∧∀ y ∈ l,y ∈ addS l n:=by
 intro l
 induction l with
 | nil=>intro n; simp [addS]
 | cons x xs ih =>
  intro n
  simp only [addS]
  split
  ·exact ⟨by simp,fun y hy=>by simp [List.mem_cons.1 hy]⟩
  ·split
   ·rename_i h; exact ⟨by simp [h],fun y hy=>hy⟩
   ·obtain ⟨h1,h2⟩:=ih n
    exact ⟨by simp [h1],fun y hy=>by rcases List.mem_cons.1 hy with q | q; simp [q]; simp [h2 y q]⟩
theorem addS_sorted:∀ (l:List Int) (n:Int),l.Pairwise (· < ·)→(addS l n).Pairwise (· < ·):=by
 intro l
 induction l with
 | nil=>intro n _; simp [addS]
 | cons x xs ih =>
  intro n h
  obtain ⟨h1,h2⟩:=List.pairwise_cons.1 h
  simp only [addS]
  split
  ·rename_i q
   refine List.pairwise_cons.2 ⟨fun y hy=>?_,h⟩
   rcases List.mem_cons.1 hy with r | r
   ·omega
   ·have:=h1 y r; omega
  ·split
   ·exact h
   ·refine List.pairwise_cons.2 ⟨fun y hy=>?_,ih n h2⟩
    rcases addS_mem xs n y hy with r | r
    ·omega
    ·exact h1 y r
theorem addS_row {lo hi n:Int} {r:List Int} (h:RowOk lo hi r) (h1:lo < n) (h2:n≤hi):RowOk lo hi (addS r n):=by
 obtain ⟨a,b,c⟩:=h
 refine ⟨?_,addS_sorted _ _ b,fun x hx=>?_⟩
 ·cases r with
  | nil=>cases a
  | cons x xs =>
   obtain rfl:=Option.some.inj a
   simp only [addS]
   rw [if_neg (by omega),if_neg (by omega)]; rfl
 ·rcases addS_mem _ _ _ hx with q | q
  ·omega
  ·exact c x q
theorem add_m (l:List Int) (n:Int) (hl:l.length≤3000000000):m79 l n=some (addS l n,()):=by
 refine T.eq ?_
 unfold m79
 refine T.callE (v:=(addS l n,())) ?_ (T.ret rfl)
 refine T.eq ?_
 unfold m96
 have hL:=lenI_eq l
 refine T.loop (fun q=>∃ (d:Bool) (i:Nat) (o:List Int),i≤l.length∧o.length≤i + d.toNat∧(if d=true then o ++ l.drop i else o ++ addS (l.drop i) n)=addS l n∧q=(l,n,d,(i:Int),o,())) (fun q=>l.length - q.2.2.2.1.toNat) ⟨false,0,[],by omega,by simp,by simp,rfl⟩ ?_
 rintro _ ⟨d,i,o,hi,ho,hg,rfl⟩
 dsimp only
 have hdt:d.toNat≤1:=by cases d <;> decide
 rw [hL,atI_getD]
 refine T.cnd (fun hc=>?_) (fun hc=>?_) <;> simp only [iLt_T,iLt_F] at hc
 ·have hil:i < l.length:=by omega
  have b1:bnd (i:Int) (l.length:Int)=true:=by rw [bnd_T]; omega
  have hdr:l.drop i=l[i] :: l.drop (i + 1):=List.drop_eq_getElem_cons hil
  rw [getD_eq _ _ _ hil]
  have next:∀ (d':Bool) (o':List Int),o'.length≤i + 1 + d'.toNat→(if d'=true then o' ++ l.drop (i + 1) else o' ++ addS (l.drop (i + 1)) n)=addS l n→T (some (Sum.inl (β:=(List Int) × Unit) (l,n,d',iAdd .i64 (i:Int) 1,o',()))) (LQ (fun q=>∃ (d:Bool) (i:Nat) (o:List Int),i≤l.length∧o.length≤i + d.toNat∧(if d=true then o ++ l.drop i else o ++ addS (l.drop i) n)=addS l n∧q=(l,n,d,(i:Int),o,())) (fun q=>l.length - q.2.2.2.1.toNat) (l.length - (i:Int).toNat) (fun x=>x=(addS l n,()))):=fun d' o' h1 h2 =>
   T.go ⟨d',i + 1,o',by omega,by omega,h2,by rw [iAdd64 (by omega) (by omega)]; rfl⟩ (by dsimp only; rw [iAdd64 (by omega) (by omega)]; omega)
  refine T.grd (by rw [or_T]; exact .inl b1) (T.cnd (fun hc2=>?_) (fun hc2=>?_))
  ·rw [candF_T,not_T,iLe_T] at hc2
   obtain ⟨rfl,hle⟩:=hc2
   rw [if_neg (by decide),hdr] at hg
   refine T.grd b1 (T.cnd (fun hc3=>?_) (fun hc3=>?_)) <;> simp only [iLt_T,iLt_F] at hc3
   ·refine T.grd (by rw [fits_T,List.length_singleton]; omega) (T.grd b1 (T.grd (by rw [fits_T,List.length_append,List.length_singleton,List.length_singleton]; omega) (next true _ (by rw [List.length_append,List.length_append,List.length_singleton,List.length_singleton]; simp only [Bool.toNat_false,Bool.toNat_true] at ho ⊢; omega) ?_)))
    rw [if_pos rfl,← hg]
    simp only [addS]
    rw [if_pos hc3]
    simp
   ·refine T.grd b1 (T.grd (by rw [fits_T,List.length_singleton]; omega) (next true _ (by rw [List.length_append,List.length_singleton]; simp only [Bool.toNat_false,Bool.toNat_true] at ho ⊢; omega) ?_))
    rw [if_pos rfl,← hg]
    simp only [addS]
    rw [if_neg (by omega),if_pos (by omega)]
    simp
  ·refine T.grd b1 (T.grd (by rw [fits_T,List.length_singleton]; omega) (next d _ (by rw [List.length_append,List.length_singleton]; omega) ?_))
   rw [candF_F,not_F,iLe_F] at hc2
   cases d with
   | true=>rw [if_pos rfl,hdr] at hg; rw [if_pos rfl,← hg]; simp
   | false =>
    rw [if_neg (by decide),hdr] at hg
    rw [if_neg (by decide),← hg]
    have hlt:l[i] < n:=by rcases hc2 with q | q; cases q; exact q
    simp only [addS]
    rw [if_neg (by omega),if_neg (by omega)]
    simp
 ·obtain rfl:i=l.length:=by omega
  rw [List.drop_length] at hg
  refine T.mapL (T.cnd (fun hc2=>?_) (fun hc2=>?_)) <;> simp only [not_T,not_F] at hc2 <;> subst hc2
  ·rw [if_neg (by decide)] at hg
   refine T.grd (by rw [fits_T,List.length_singleton]; omega) (T.ret ?_)
   rw [← hg]; rfl
  ·rw [if_pos rfl,List.append_nil] at hg
   exact T.ret (by rw [← hg])
theorem starts_m (l:List DS0) (hv:valS l=0):m44 (l,())=some ((doms l).map fun d=>[d.1],()):=by
 refine T.eq ?_
 unfold m44
 have hL:=lenI_eq l
 have v:=val_ok hv
 refine T.loop (fun q=>∃ i:Nat,i≤l.length∧q=((i:Int),l,((doms l).take i).map (fun d=>[d.1]),())) (fun q=>l.length - q.1.toNat) ⟨0,by omega,rfl⟩ ?_
 rintro _ ⟨i,hi,rfl⟩
 dsimp only
 rw [hL]
 refine T.cnd (fun hc=>?_) (fun hc=>?_) <;> simp only [iLt_T,iLt_F] at hc
 ·have hil:i < l.length:=by omega
  refine T.callE (dom_r l i hil hv) (T.grd ?_ (T.go ⟨i + 1,by omega,?_⟩ (by dsimp only; rw [iAdd64 (by omega) (by omega)]; omega)))
  ·rw [fits_T,List.length_map,List.length_take,List.length_singleton]; omega
  ·rw [iAdd64 (by omega) (by omega),List.take_succ_eq_append_getElem (by rw [doms_len]; exact hil),List.map_append]
   have:=doms_get l i hil
   rw [getD_eq _ _ _ (by rw [doms_len]; exact hil)] at this
   simp only [List.map_cons,List.map_nil,this]
   rfl
 ·obtain rfl:i=l.length:=by omega
  refine T.out ?_
  rw [← doms_len l,List.take_length]
theorem starts_ok {dm:List DS3} (hd:DmOk dm):GOk dm (dm.map fun d=>[d.1])∧excess (dm.map fun d=>[d.1])=0:=by
 refine ⟨⟨by simp,fun i hi=>?_⟩,?_⟩
 ·have:=hd.at hi
  have e1:(dm.map fun d=>[d.1]).getD i []=[dm[i].1]:=by rw [getD_eq _ _ _ (by simpa using hi),List.getElem_map]
  rw [getD_eq _ _ _ hi] at this
  rw [e1,getD_eq _ _ _ hi]
  exact ⟨rfl,by simp,fun x hx=>by obtain rfl:=List.mem_singleton.1 hx; exact this.1⟩
 ·generalize dm=l
  induction l with
  | nil=>rfl
  | cons d l ih=>simp only [List.map_cons,excess,ih]; rfl
def gCut (dm:List DS3) (g:List (List Int)) (i:Nat) (v:Int):List (List Int):=if v≤(dm.getD i zS).1∨(dm.getD i zS).2.1 < v then g else g.set i (addS (g.getD i []) v)
theorem cut_m (l:List DS0) (hv:valS l=0) (g:List (List Int)) (hg:g.length=l.length) (hgl:∀ r ∈ g,r.length≤3000000000) (i:Nat) (hi:i < l.length) (v:Int):m46 (l,()) g (i:Int) v=some (gCut (doms l) g i v,()):=by
 refine T.eq ?_
 unfold m46 gCut
 have vo:=val_ok hv
 rw [doms_get l i hi]
 refine T.callE (dom_r l i hi hv) ?_
 dsimp only
 have hG:=lenI_eq g
 refine T.cnd (fun hc=>?_) (fun hc=>?_) <;> simp only [corT_T,corT_F,iLe_T,iLe_F,iLt_T,iLt_F] at hc
 ·rw [if_pos hc]; exact T.ret rfl
 ·rw [if_neg (by omega)]
  have e:atI g (i:Int) []=g.getD i []:=by rw [atI_getD]
  have hgi:i < g.length:=by omega
  rw [e,List.nil_append,hG,Int.toNat_natCast]
  refine T.grd (by rw [fits_T,List.length_nil]; omega) (T.grd (by rw [bnd_T]; omega) (T.callE (add_m _ _ (by rw [getD_eq _ _ _ hgi]; exact hgl _ (List.getElem_mem hgi))) (T.grd (by rw [bnd_T]; omega) (T.grd (by rw [inB_T]; omega) (T.ret rfl)))))
theorem excess_set:∀ (g:List (List Int)) (i:Nat) (r:List Int),i < g.length→r.length≤(g.getD i []).length + 1→excess (g.set i r)≤excess g + 1:=by
 intro g
 induction g with
 | nil=>intro i r h; cases h
 | cons x g ih =>
  intro i r h hr
  cases i with
  | zero=>simp only [List.set_cons_zero,excess]; simp at hr; omega
  | succ i=>simp only [List.set_cons_succ,excess]; have:=ih i r (by simpa using h) (by simpa using hr); omega
theorem set_getD {α:Type} (g:List α) (i j:Nat) (r z:α) (h:i < g.length):(g.set i r).getD j z=if i=j then r else g.getD j z:=by
 rw [List.getD_eq_getElem?_getD]
 by_cases e:i=j
 ·subst e; rw [List.getElem?_set_self h,if_pos rfl]; rfl
 ·rw [List.getElem?_set_ne e,if_neg e,← List.getD_eq_getElem?_getD]
theorem cut_ok {dm:List DS3} {g:List (List Int)} (hg:GOk dm g) {i:Nat} (hi:i < dm.length) (v:Int):GOk dm (gCut dm g i v)∧excess (gCut dm g i v)≤excess g + 1:=by
 unfold gCut
 split
 ·exact ⟨hg,by omega⟩
 ·rename_i q
  have hgi:i < g.length:=by rw [hg.1]; exact hi
  refine ⟨⟨by rw [List.length_set]; exact hg.1,fun j hj=>?_⟩,excess_set g i _ hgi (addS_len _ _).2⟩
  rw [set_getD g i j _ _ hgi]
  split
  ·rename_i e; subst e
   exact addS_row (hg.2 i hj) (by omega) (by omega)
  ·exact hg.2 j hj
theorem prod_le:∀ g:List (List Int),prodL g≤2 ^ excess g:=by
 intro g
 induction g with
 | nil=>simp [prodL,excess]
 | cons r g ih =>
  simp only [prodL,excess]
  rw [Nat.pow_add]
  refine Nat.mul_le_mul ?_ ih
  have:∀ n:Nat,n≤2 ^ (n - 1):=by
   intro n
   induction n with
   | zero=>simp
   | succ n ihn =>
    cases n with
    | zero=>simp
    | succ n =>
     simp only [Nat.add_sub_cancel] at ihn ⊢
     rw [Nat.pow_succ]; omega
  exact this _
theorem GOk.row {dm:List DS3} {g:List (List Int)} (hg:GOk dm g) {i:Nat} (hi:i < g.length):RowOk (dm.getD i zS).1 (dm.getD i zS).2.1 g[i]:=by
 have:=hg.2 i (by rw [← hg.1]; exact hi)
 rwa [getD_eq _ _ _ hi] at this
theorem RowOk.pos {lo hi:Int} {r:List Int} (h:RowOk lo hi r):1≤r.length:=by
 cases r with
 | nil=>cases h.1
 | cons x xs=>simp
theorem row_excess:∀ (g:List (List Int)),∀ r ∈ g,r.length≤excess g + 1:=by
 intro g
 induction g with
 | nil=>intro r h; cases h
 | cons x g ih =>
  intro r h
  simp only [excess]
  rcases List.mem_cons.1 h with rfl | q
  ·omega
  ·have:=ih r q; omega
theorem prod_drop (g:List (List Int)) (i:Nat) (h:i < g.length):prodL (g.drop i)=g[i].length * prodL (g.drop (i + 1)):=by
 rw [List.drop_eq_getElem_cons h]; rfl
theorem cells_m (g:List (List Int)) (hl:g.length≤6) (hp:∀ r ∈ g,1≤r.length) (hc:prodL g≤8192):m47 g=some ((prodL g:Int),()):=by
 refine T.eq ?_
 unfold m47
 have hG:=lenI_eq g
 have pd:∀ g':List (List Int),(∀ r ∈ g',1≤r.length)→1≤prodL g':=by
  intro g'
  induction g' with
  | nil=>intro _; simp [prodL]
  | cons r g' ih=>intro h; simp only [prodL]; exact Nat.mul_le_mul (h r (by simp)) (ih fun x hx=>h x (by simp [hx]))
 refine T.loop (fun q=>∃ (i n:Nat),i≤g.length∧n * prodL (g.drop i)=prodL g∧q=(g,(n:Int),(i:Int),())) (fun q=>g.length - q.2.2.1.toNat) ⟨0,1,by omega,by simp,rfl⟩ ?_
 rintro _ ⟨i,n,hi,hn,rfl⟩
 dsimp only
 rw [hG,atI_getD]
 refine T.cnd (fun hc2=>?_) (fun hc2=>?_) <;> simp only [iLt_T,iLt_F] at hc2
 ·have hil:i < g.length:=by omega
  rw [getD_eq _ _ _ hil,lenI_eq]
  rw [prod_drop g i hil,← Nat.mul_assoc] at hn
  have h1:1≤prodL (g.drop (i + 1)):=pd _ fun r hr=>hp r (List.mem_of_mem_drop hr)
  have h2:n * g[i].length≤8192:=by
   have:n * g[i].length * 1≤n * g[i].length * prodL (g.drop (i + 1)):=Nat.mul_le_mul (Nat.le_refl _) h1
   omega
  have e:((n:Int) * (g[i].length:Int))=((n * g[i].length:Nat):Int):=by push_cast; rfl
  refine T.grd (by rw [bnd_T]; omega) (T.go ⟨i + 1,n * g[i].length,by omega,hn,?_⟩ (by dsimp only; rw [iAdd64 (by omega) (by omega)]; omega))
  rw [iAdd64 (by omega) (by omega),iMul64 (by omega) (by omega),e]
  unfold iMin
  rw [Int.min_eq_left (by omega)]
  rfl
 ·obtain rfl:i=g.length:=by omega
  refine T.out ?_
  rw [List.drop_length] at hn
  simp only [prodL,Nat.mul_one] at hn
  rw [hn]
def NInv (dm:List DS3) (lo:Int) (ns:List DS1):Prop:=AllS dm ns∧(∀ i,i < ns.length→∀ k,k < i→ns.getD k zN ≠ ns.getD i zN)∧∀ x ∈ ns,∀ c ∈ x.2.2.1,lo≤c
def Rf (ns:List DS1) (lo:Int) (i:Nat) (r:Int):Prop:=lo≤r∧r < (ns.length:Int)∧(0≤r→(i:Int)≤(ns.getD r.toNat zN).1)
theorem getD_app {α:Type} (a b:List α) (z:α) {i:Nat} (h:i < a.length):(a ++ b).getD i z=a.getD i z:=by
 rw [List.getD_eq_getElem?_getD,List.getElem?_append_left h,← List.getD_eq_getElem?_getD]
theorem Rf.app {ns:List DS1} {lo:Int} {i:Nat} {r:Int} (h:Rf ns lo i r) (t:List DS1):Rf (ns ++ t) lo i r:=by
 obtain ⟨h1,h2,h3⟩:=h
 refine ⟨h1,by rw [List.length_append]; omega,fun q=>?_⟩
 rw [getD_app _ _ _ (by omega)]; exact h3 q
theorem Rf.weak {ns:List DS1} {lo:Int} {i j:Nat} {r:Int} (h:Rf ns lo i r) (hj:j≤i):Rf ns lo j r:=⟨h.1,h.2.1,fun q=>by have:=h.2.2 q; omega⟩
theorem SoundN.app {dm:List DS3} {ns:List DS1} {x:DS1} (h:SoundN dm ns x) (t:List DS1):SoundN dm (ns ++ t) x:=by
 obtain ⟨h1,h2,h3,h4,h5,h6⟩:=h
 refine ⟨h1,h2,h3,h4,h5,fun k hk=>?_⟩
 obtain ⟨a,b,c⟩:=h6 k hk
 refine ⟨⟨a.1,by rw [List.length_append]; have:=a.2; omega⟩,b,fun q=>?_⟩
 rw [getD_app _ _ _ (by have:=a.2; omega)]; exact c q
theorem NInv.nil (dm:List DS3) (lo:Int):NInv dm lo []:=⟨fun i hi=>(by cases hi),fun i hi=>(by cases hi),fun x hx=>(by cases hx)⟩
theorem NInv.snoc {dm:List DS3} {lo:Int} {ns:List DS1} (h:NInv dm lo ns) {x:DS1} (hs:SoundN dm (ns ++ [x]) x) (hx:∀ c ∈ x.2.2.1,lo≤c) (hn:∀ k,k < ns.length→ns.getD k zN ≠ x):NInv dm lo (ns ++ [x]):=by
 obtain ⟨h1,h2,h3⟩:=h
 have el:(ns ++ [x]).getD ns.length zN=x:=by rw [List.getD_eq_getElem?_getD,List.getElem?_append_right (Nat.le_refl _)]; simp
 refine ⟨fun i hi=>?_,fun i hi k hk=>?_,fun y hy=>?_⟩
 ·rw [List.length_append,List.length_singleton] at hi
  rcases Nat.lt_or_ge i ns.length with q | q
  ·rw [getD_app _ _ _ q]; exact (h1 i q).app _
  ·obtain rfl:i=ns.length:=by omega
   rw [el]; exact hs
 ·rw [List.length_append,List.length_singleton] at hi
  rcases Nat.lt_or_ge i ns.length with q | q
  ·rw [getD_app _ _ _ q,getD_app _ _ _ (by omega)]; exact h2 i q k hk
  ·obtain rfl:i=ns.length:=by omega
   rw [el,getD_app _ _ _ hk]; exact hn k hk
 ·rcases List.mem_append.1 hy with q | q
  ·exact h3 y q
  ·obtain rfl:=List.mem_singleton.1 q; exact hx
theorem row_at {lo hi:Int} {r:List Int} (h:RowOk lo hi r):∀ k,0 < k→k < r.length→lo < r.getD k 0∧r.getD k 0≤hi∧r.getD (k - 1) 0 < r.getD k 0:=by
 intro k h0 hk
 obtain ⟨a,b,c⟩:=h
 have hp:=List.pairwise_iff_getElem.1 b
 rw [getD_eq _ _ _ hk,getD_eq _ _ _ (by omega)]
 have e0:r[0]'(by omega)=lo:=by
  cases r with
  | nil=>cases a
  | cons x xs=>exact Option.some.inj a
 refine ⟨?_,c _ (List.getElem_mem hk),hp (k - 1) k (by omega) hk (by omega)⟩
 have:=hp 0 k (by omega) hk h0
 omega
theorem row_lo {lo hi:Int} {r:List Int} (h:RowOk lo hi r):r.getD 0 0=lo∧∀ k,k < r.length→lo≤r.getD k 0:=by
 have e0:r.getD 0 0=lo:=by
  cases r with
  | nil=>cases h.1
  | cons x xs=>exact Option.some.inj h.1
 refine ⟨e0,fun k hk=>?_⟩
 rcases Nat.eq_zero_or_pos k with rfl | q
 ·omega
 ·have:=(row_at h k q hk).1; omega
theorem getD_snoc {α:Type} (a:List α) (x z:α):(a ++ [x]).getD a.length z=x:=by rw [List.getD_eq_getElem?_getD,List.getElem?_append_right (Nat.le_refl _)]; simp
theorem node_T {dm:List DS3} {lo:Int} (hd:DmOk dm) (hlo:-256≤lo) (hlo0:lo≤0) {i:Nat} (hi:i < dm.length) {cuts next:List Int} {ns:List DS1} (hr:RowOk (dm.getD i zS).1 (dm.getD i zS).2.1 cuts) (hl:next.length=cuts.length) (hcl:cuts.length≤1000000)
  (hnx:∀ c ∈ next,Rf ns lo (i + 1) c) (hN:NInv dm lo ns) (hn:ns.length≤1000000) (gg:List (List Int)) (vv:List Int) :
  T (m97_1 (i:Int) cuts gg vv next ns) (fun y=>∃ t,y=(y.1,gg,vv,next,ns ++ t,())∧NInv dm lo (ns ++ t)∧Rf (ns ++ t) lo i y.1∧t.length≤1∧(next.length=1→t=[])):=by
 have hp:=hr.pos
 unfold m97_1
 have hX:=lenI_eq next
 refine T.grd (by rw [bnd_T]; omega) (T.grd (by rw [inB_T]; simp; omega) ?_)
 have e0:next.getD (Int.toNat 0) 0=next[0]'(by omega):=getD_eq next 0 0 (by omega)
 rw [e0]
 refine T.loop (fun q=>∃ (k:Nat) (c n:List Int),1≤k∧k≤next.length∧n.length=c.length + 1∧c.length + 1≤k∧(∀ j,j < c.length→(dm.getD i zS).1 < c.getD j 0∧c.getD j 0≤(dm.getD i zS).2.1∧(0 < j→c.getD (j - 1) 0 < c.getD j 0))∧(∀ x ∈ c,x≤cuts.getD (k - 1) 0) ∧
  (∀ x ∈ n,Rf ns lo (i + 1) x)∧(∀ j,j < n.length→0 < j→n.getD j 0 ≠ n.getD (j - 1) 0)∧q=((i:Int),cuts,(k:Int),gg,vv,next,ns,c,n,())) (fun q=>next.length - q.2.2.1.toNat)
  ⟨1,[],[next[0]'(by omega)],by omega,by omega,rfl,by simp,fun j hj=>(by cases hj),fun x hx=>(by cases hx),fun x hx=>(by obtain rfl:=List.mem_singleton.1 hx; exact hnx _ (List.getElem_mem _)),fun j hj q=>(by simp at hj; omega),rfl⟩ ?_
 rintro _ ⟨k,c,n,hk1,hk,hnl,hck,hc,hcx,hnr,hna,rfl⟩
 dsimp only
 have hCl:=lenI_eq n
 have hCu:=lenI_eq cuts
 rw [hX,hCl,hCu]
 refine T.cnd (fun hc1=>?_) (fun hc1=>?_) <;> simp only [iLt_T,iLt_F] at hc1
 ·have hkl:k < next.length:=by omega
  have en1:iSub .i64 (n.length:Int) 1=((n.length - 1:Nat):Int):=by rw [iSub64 (by omega) (by omega)]; omega
  rw [en1,Int.toNat_natCast,Int.toNat_natCast,atI_getD]
  refine T.grd (by rw [bnd_T]; omega) (T.grd (by rw [inB_T]; omega) (T.grd (by rw [bnd_T]; omega) (T.grd (by rw [inB_T]; omega) (T.cnd (fun hc2=>?_) (fun hc2=>?_))))) <;> simp only [iNe_T,iNe_F] at hc2
  ·refine T.grd (by rw [bnd_T]; omega) (T.grd (by rw [fits_T,List.length_singleton]; omega) (T.grd (by rw [bnd_T]; omega) (T.grd (by rw [inB_T]; omega) (T.grd (by rw [fits_T,List.length_singleton]; omega) ?_))))
   have hrk:=row_at hr k (by omega) (by omega)
   refine T.go ⟨k + 1,c ++ [cuts.getD k 0],n ++ [next.getD k 0],by omega,by omega,by rw [List.length_append,List.length_append,List.length_singleton,List.length_singleton]; omega,by rw [List.length_append,List.length_singleton]; omega,fun j hj=>?_,fun x hx=>?_,fun x hx=>?_,fun j hj hj0=>?_,by rw [iAdd64 (by omega) (by omega)]; rfl⟩ (by dsimp only; rw [iAdd64 (by omega) (by omega)]; omega)
   ·rw [List.length_append,List.length_singleton] at hj
    rcases Nat.lt_or_ge j c.length with q | q
    ·rw [getD_app _ _ _ q]
     have:=hc j q
     refine ⟨this.1,this.2.1,fun q0=>?_⟩
     rw [getD_app _ _ _ (by omega)]; exact this.2.2 q0
    ·obtain rfl:j=c.length:=by omega
     rw [getD_snoc]
     refine ⟨hrk.1,hrk.2.1,fun q0=>?_⟩
     rw [getD_app _ _ _ (by omega),getD_eq c _ _ (by omega)]
     have:=hcx _ (List.getElem_mem (show c.length - 1 < c.length by omega))
     omega
   ·rw [Nat.add_sub_cancel]
    rcases List.mem_append.1 hx with q | q
    ·have:=hcx x q; omega
    ·obtain rfl:=List.mem_singleton.1 q; omega
   ·rcases List.mem_append.1 hx with q | q
    ·exact hnr x q
    ·obtain rfl:=List.mem_singleton.1 q
     rw [getD_eq _ _ _ hkl]; exact hnx _ (List.getElem_mem hkl)
   ·rw [List.length_append,List.length_singleton] at hj
    rcases Nat.lt_or_ge j n.length with q | q
    ·rw [getD_app _ _ _ q,getD_app _ _ _ (by omega)]; exact hna j q hj0
    ·obtain rfl:j=n.length:=by omega
     rw [getD_snoc,getD_app _ _ _ (by omega)]; exact hc2
  ·have hrk:=row_at hr k (by omega) (by omega)
   refine T.go ⟨k + 1,c,n,by omega,by omega,hnl,by omega,hc,fun x hx=>?_,hnr,hna,by rw [iAdd64 (by omega) (by omega)]; rfl⟩ (by dsimp only; rw [iAdd64 (by omega) (by omega)]; omega)
   rw [Nat.add_sub_cancel]
   have:=hcx x hx; omega
 ·obtain rfl:k=next.length:=by omega
  refine T.mapL (T.cnd (fun hc2=>?_) (fun hc2=>?_)) <;> simp only [iEq_T,iEq_F] at hc2
  ·refine T.grd (by rw [bnd_T]; omega) (T.grd (by rw [inB_T]; simp; omega) (T.ret ⟨[],by rw [List.append_nil],by rw [List.append_nil]; exact hN,?_,by simp,fun _=>rfl⟩))
   have en:n.getD (Int.toNat 0) 0=n[0]'(by omega):=getD_eq n 0 0 (by omega)
   rw [List.append_nil]
   show Rf ns lo i (n.getD (Int.toNat 0) 0)
   rw [en]
   exact (hnr _ (List.getElem_mem _)).weak (by omega)
  have hNs:=lenI_eq ns
  refine T.loop (fun q=>∃ j:Nat,j≤ns.length∧(∀ j',j' < j→ns.getD j' zN ≠ ((i:Int),c,n,()))∧q=((i:Int),(j:Int),gg,vv,next,ns,c,n,())) (fun q=>ns.length - q.2.1.toNat) ⟨0,by omega,fun j hj=>by omega,rfl⟩ ?_
  rintro _ ⟨j,hj,hjn,rfl⟩
  dsimp only
  rw [hNs,Int.toNat_natCast]
  refine T.cnd (fun hc3=>?_) (fun hc3=>?_) <;> simp only [iLt_T,iLt_F] at hc3
  ·have hjl:j < ns.length:=by omega
   have hsj:=(hN.1 j hjl).len hd
   have next2:ns.getD j zN ≠ ((i:Int),c,n,())→T (some (Sum.inl (β:=Int × (List (List Int)) × (List Int) × (List Int) × (List DS1) × Unit) ((i:Int),iAdd .i64 (j:Int) 1,gg,vv,next,ns,c,n,()))) (LQ (fun q=>∃ j:Nat,j≤ns.length∧(∀ j',j' < j→ns.getD j' zN ≠ ((i:Int),c,n,()))∧q=((i:Int),(j:Int),gg,vv,next,ns,c,n,())) (fun q=>ns.length - q.2.1.toNat) (ns.length - (j:Int).toNat)
     (fun y=>∃ t,y=(y.1,gg,vv,next,ns ++ t,())∧NInv dm lo (ns ++ t)∧Rf (ns ++ t) lo i y.1∧t.length≤1∧(next.length=1→t=[]))):=fun hx=>by
    refine T.go ⟨j + 1,by omega,fun j' hj'=>?_,by rw [iAdd64 (by omega) (by omega)]; rfl⟩ (by dsimp only; rw [iAdd64 (by omega) (by omega)]; omega)
    rcases Nat.lt_or_ge j' j with q | q
    ·exact hjn j' q
    ·obtain rfl:j'=j:=by omega
     exact hx
   have ez:ns.getD j (0,[],[],())=ns.getD j zN:=rfl
   rw [ez]
   refine T.grd (by rw [bnd_T]; omega) (T.grd (by rw [inB_T]; omega) (T.cnd (fun hc4=>?_) (fun hc4=>?_))) <;> simp only [iEq_T,iEq_F] at hc4
   ·refine T.callE (same_m _ _ (by omega)) ?_
    dsimp only
    refine T.cnd (fun hc5=>?_) (fun hc5=>?_) <;> simp only [decide_eq_true_eq,decide_eq_false_iff_not] at hc5
    ·refine T.callE (same_m _ _ (by omega)) ?_
     dsimp only
     refine T.cnd (fun hc6=>?_) (fun hc6=>?_) <;> simp only [decide_eq_true_eq,decide_eq_false_iff_not] at hc6
     ·refine T.out ⟨[],by rw [List.append_nil],by rw [List.append_nil]; exact hN,?_,by simp,fun _=>rfl⟩
      rw [List.append_nil]
      exact ⟨by show lo≤(j:Int); omega,by show (j:Int) < _; omega,fun _=>by show (i:Int)≤(ns.getD (j:Int).toNat zN).1; rw [Int.toNat_natCast,hc4]; omega⟩
     ·exact next2 fun e=>hc6 (by rw [e])
    ·exact next2 fun e=>hc5 (by rw [e])
   ·exact next2 fun e=>hc4 (by rw [e])
  ·obtain rfl:j=ns.length:=by omega
   refine T.mapL (T.grd (by rw [fits_T,List.length_singleton]; omega) (T.ret ⟨[((i:Int),c,n,())],?_,hN.snoc ?_ ?_ hjn,?_,by simp,fun q=>?_⟩))
   ·have e1:iSub .i64 (lenI (ns ++ [((i:Int),c,n,())])) 1=(ns.length:Int):=by rw [lenI_eq,List.length_append,List.length_singleton,iSub64 (by omega) (by omega)]; omega
    rw [e1]
   ·refine ⟨by show (0:Int)≤i; omega,by show (i:Int) < _; omega,by show 0 < c.length; omega,hnl,fun k hk=>?_,fun k hk=>?_⟩
    ·have:=hc k hk
     show (dm.getD (i:Int).toNat zS).1 < _∧_≤(dm.getD (i:Int).toNat zS).2.1∧_
     rw [Int.toNat_natCast]; exact this
    ·have hk':k < n.length:=hk
     have hm:=hnr (n.getD k 0) (by rw [getD_eq _ _ _ hk']; exact List.getElem_mem hk')
     refine ⟨⟨by show -256≤n.getD k 0; have:=hm.1; omega,(hm.app _).2.1⟩,fun q=>hna k hk' q,fun q=>?_⟩
     have:=(hm.app [((i:Int),c,n,())]).2.2 q
     show (i:Int) < ((ns ++ [((i:Int),c,n,())]).getD (n.getD k 0).toNat zN).1
     omega
   ·intro x hx
    exact (hnr x hx).1
   ·have e1:iSub .i64 (lenI (ns ++ [((i:Int),c,n,())])) 1=(ns.length:Int):=by rw [lenI_eq,List.length_append,List.length_singleton,iSub64 (by omega) (by omega)]; omega
    show Rf _ lo i (iSub .i64 (lenI (ns ++ [((i:Int),c,n,())])) 1)
    rw [e1]
    refine ⟨by omega,by rw [List.length_append,List.length_singleton]; omega,fun _=>?_⟩
    rw [Int.toNat_natCast,getD_snoc]
    exact Int.le_refl _
   ·omega
theorem mono_80 (x:Int × Int × Int × (List (List Int)) × (List Int) × (List DS1) × Unit):Mo fun s=>mb80 s x.1 x.2.1 x.2.2.1 x.2.2.2.1 x.2.2.2.2.1 x.2.2.2.2.2.1:=by
 unfold mb80; (repeat' (first | exact Mo.const _ | exact Mo.self _ | apply Mo.bind | apply Mo.cond | apply Mo.map | apply Mo.join | apply Mo.loop | (intro _)))
theorem build_T {dm:List DS3} {lo:Int} (hd:DmOk dm) (hlo:-256≤lo) (hlo0:lo≤0) {g:List (List Int)} (hg:GOk dm g) (hgl:∀ r ∈ g,r.length≤1000000) (hP:prodL g≤1000000) {v:List Int} (hv:∀ x ∈ v,0≤x∧lo≤-1 - x) (hvl:v.length≤1000000) (i at_:Nat) (ns:List DS1) (hi:i≤g.length) (hat:at_ + prodL (g.drop i)≤v.length) (hN:NInv dm lo ns) (hns:ns.length + prodL (g.drop i)≤1000000) :
  T (m80 (i:Int) (at_:Int) (prodL (g.drop i):Int) g v ns) (fun y=>∃ t,y=(y.1,g,v,ns ++ t,())∧NInv dm lo (ns ++ t)∧Rf (ns ++ t) lo i y.1∧t.length + 1≤prodL (g.drop i)):=by
 unfold m80
 refine fix_G (ι:=Nat × Nat × List DS1) mono_80 (fun q=>((q.1:Int),(q.2.1:Int),(prodL (g.drop q.1):Int),g,v,q.2.2,())) (fun q=>q.1≤g.length∧q.2.1 + prodL (g.drop q.1)≤v.length∧NInv dm lo q.2.2∧q.2.2.length + prodL (g.drop q.1)≤1000000)
  (fun q y=>∃ t,y=(y.1,g,v,q.2.2 ++ t,())∧NInv dm lo (q.2.2 ++ t)∧Rf (q.2.2 ++ t) lo q.1 y.1∧t.length + 1≤prodL (g.drop q.1)) (fun q=>g.length - q.1) ?_ (i,at_,ns) ⟨hi,hat,hN,hns⟩
 rintro ⟨i,at_,ns⟩ ⟨hi,hat,hN,hns⟩ s ih
 dsimp only at hi hat hN hns ih ⊢
 unfold mb80
 have hG:=lenI_eq g
 have hV:=lenI_eq v
 have hd2:=hd.2.1
 have hgd:=hg.1
 rw [hG,hV]
 refine T.cnd (fun hc=>?_) (fun hc=>?_) <;> simp only [iEq_T,iEq_F] at hc
 ·obtain rfl:i=g.length:=by omega
  rw [List.drop_length] at hat ⊢
  simp only [prodL] at hat ⊢
  have hal:at_ < v.length:=by omega
  rw [atI_getD,getD_eq _ _ _ hal]
  have hx:=hv _ (List.getElem_mem hal)
  refine T.grd (by rw [bnd_T]; omega) (T.ret ⟨[],by rw [List.append_nil],by rw [List.append_nil]; exact hN,?_,by simp⟩)
  rw [List.append_nil,iSub64 (by omega) (by omega)]
  exact ⟨hx.2,by show -1 - v[at_] < _; omega,fun q=>absurd q (by show ¬ 0≤-1 - v[at_]; omega)⟩
 have hil:i < g.length:=by omega
 have hrow:=hg.row hil
 have hrp:=hrow.pos
 have hpd:=prod_drop g i hil
 have epart:iQuo .i64 (prodL (g.drop i):Int) (g[i].length:Int)=(prodL (g.drop (i + 1)):Int):=by
  unfold iQuo
  rw [hpd,Int.tdiv_eq_ediv_of_nonneg (by omega)]
  have:((g[i].length * prodL (g.drop (i + 1)):Nat):Int) / (g[i].length:Int)=(prodL (g.drop (i + 1)):Int):=by
   rw [← Int.natCast_ediv,Nat.mul_div_cancel_left _ (by omega)]
  rw [this]
  have h1:prodL (g.drop (i + 1))≤prodL (g.drop i):=by
   rw [hpd]
   have:1 * prodL (g.drop (i + 1))≤g[i].length * prodL (g.drop (i + 1)):=Nat.mul_le_mul hrp (Nat.le_refl _)
   omega
  rw [wrap64] <;> omega
 have hgi:=hgl _ (List.getElem_mem hil)
 have hR:=lenI_eq g[i]
 rw [atI_getD,getD_eq _ _ _ hil,hR,epart]
 generalize hpt:prodL (g.drop (i + 1))=part at hpd
 refine T.grd (by rw [bnd_T]; omega) (T.grd (by rw [iNe_T]; omega) ?_)
 refine T.loop (fun q=>∃ (k:Nat) (t:List DS1) (nx:List Int),k≤g[i].length∧nx.length=k∧NInv dm lo (ns ++ t)∧(∀ c ∈ nx,Rf (ns ++ t) lo (i + 1) c)∧t.length + k≤k * part∧q=((i:Int),(at_:Int),(part:Int),(k:Int),g,v,ns ++ t,nx,())) (fun q=>g[i].length - q.2.2.2.1.toNat) ⟨0,[],[],by omega,rfl,by rw [List.append_nil]; exact hN,fun c hc=>(by cases hc),by simp,by rw [List.append_nil]; rfl⟩ ?_
 rintro _ ⟨k,t,nx,hk,hnx,hNt,hrf,htl,rfl⟩
 dsimp only
 rw [hG,atI_getD,getD_eq _ _ _ hil,hR]
 refine T.grd (by rw [bnd_T]; omega) (T.cnd (fun hc2=>?_) (fun hc2=>?_)) <;> simp only [iLt_T,iLt_F] at hc2
 ·have hkl:k < g[i].length:=by omega
  have hkp:(k + 1) * part≤g[i].length * part:=Nat.mul_le_mul hkl (Nat.le_refl _)
  rw [Nat.add_mul,Nat.one_mul] at hkp
  have e1:iAdd .i64 (i:Int) 1=((i + 1:Nat):Int):=by rw [iAdd64 (by omega) (by omega)]; omega
  have ekp:(k:Int) * (part:Int)=((k * part:Nat):Int):=by push_cast; rfl
  have e2:iAdd .i64 (at_:Int) (iMul .i64 (k:Int) (part:Int))=((at_ + k * part:Nat):Int):=by
   rw [iMul64 (by omega) (by omega),ekp,iAdd64 (by omega) (by omega)]; omega
  rw [e1,e2]
  have hcall:=ih (i + 1,at_ + k * part,ns ++ t) ⟨by omega,by dsimp only; rw [hpt]; omega,hNt,by dsimp only; rw [hpt,List.length_append]; omega⟩ (by dsimp only; omega)
  dsimp only at hcall
  rw [hpt] at hcall
  refine T.call hcall ?_
  rintro ⟨r,q1,q2,q3,⟨⟩⟩ ⟨t2,heq,hN2,hr2,ht2⟩
  obtain ⟨rfl,rfl,rfl⟩:g=q1∧v=q2∧ns ++ t ++ t2=q3:=by
   simp only [Prod.mk.injEq] at heq
   exact ⟨heq.2.1.symm,heq.2.2.1.symm,heq.2.2.2.1.symm⟩
  dsimp only at hr2 ⊢
  rw [List.append_assoc] at hN2 hr2
  rw [List.append_assoc]
  refine T.grd (by rw [fits_T,List.length_singleton]; omega) (T.go ⟨k + 1,t ++ t2,nx ++ [r],by omega,by rw [List.length_append,List.length_singleton,hnx],hN2,fun c hc=>?_,?_,by rw [iAdd64 (by omega) (by omega)]; rfl⟩ (by dsimp only; rw [iAdd64 (by omega) (by omega)]; omega))
  ·rcases List.mem_append.1 hc with q | q
   ·have:=(hrf c q).app t2
    rwa [List.append_assoc] at this
   ·obtain rfl:=List.mem_singleton.1 q; exact hr2
  ·rw [List.length_append,Nat.add_mul,Nat.one_mul]; omega
 ·obtain rfl:k=g[i].length:=by omega
  refine T.mapL (T.grd (by rw [bnd_T]; omega) (T.call (node_T hd hlo hlo0 (by omega) (cuts:=g[i]) (next:=nx) (ns:=ns ++ t) hrow (by omega) hgi hrf hNt (by rw [List.length_append]; omega) g v) ?_))
  rintro ⟨r,q1,q2,q3,q4,⟨⟩⟩ ⟨t2,heq,hN2,hr2,ht2,ht3⟩
  obtain ⟨rfl,rfl,rfl,rfl⟩:g=q1∧v=q2∧nx=q3∧ns ++ t ++ t2=q4:=by
   simp only [Prod.mk.injEq] at heq
   exact ⟨heq.2.1.symm,heq.2.2.1.symm,heq.2.2.2.1.symm,heq.2.2.2.2.1.symm⟩
  dsimp only at hr2 ⊢
  rw [List.append_assoc] at hN2 hr2
  rw [List.append_assoc]
  refine T.grd (by rw [and_T]; exact ⟨Nat.beq_refl _,rfl⟩) (T.ret ⟨t ++ t2,rfl,hN2,hr2,?_⟩)
  rw [List.length_append,hpd]
  have hlx:g[i].length=nx.length:=hnx.symm
  rw [hlx] at htl ⊢
  rw [hlx] at hrp
  by_cases h1:nx.length=1
  ·rw [ht3 h1,List.length_nil]; omega
  ·omega
end Abs
end Go.Proofs.YtgfnhpadmifiiaaDoor
section
namespace Go.Proofs.YtgfnhpadmifiiaaDoor
namespace Abs
section
variable {ns:List DS1} {rk:Nat→Nat}
theorem numS_closed (hR:Ranked ns rk):∀ (m f:Nat) (c:Int) (o:List Nat),rkI rk c≤m→m≤f→c < (ns.length:Int)→OrdOk ns.length o→(0≤c→c.toNat ∈ numS ns f o c)∧∀ r ∈ numS ns f o c,r ∉ o→∀ k ∈ kids ns r,0≤k→k.toNat ∈ numS ns f o c:=by
 intro m
 induction m with
 | zero =>
  intro f c o h _ hc ho
  have hneg:c < 0:=by unfold rkI at h; split at h; assumption; omega
  rw [numS_neg f o hneg]
  exact ⟨fun q=>by omega,fun r hr hn=>absurd hr hn⟩
 | succ m ih =>
  intro f c o h hf hc ho
  rcases Int.lt_or_le c 0 with q | q
  ·rw [numS_neg f o q]
   exact ⟨fun q=>by omega,fun r hr hn=>absurd hr hn⟩
  by_cases hm:c.toNat ∈ o
  ·rw [numS_in f o hm]
   exact ⟨fun _=>hm,fun r hr hn=>absurd hr hn⟩
  obtain ⟨g,rfl⟩:∃ g,f=g + 1:=⟨f - 1,by omega⟩
  unfold rkI at h
  rw [if_neg (by omega)] at h
  have hk:=(hR c.toNat (by omega)).2
  have e:numS ns (g + 1) o c=(kids ns c.toNat).foldl (numS ns g) (o ++ [c.toNat]):=by
   simp only [numS]
   rw [if_neg (by rintro (r | r); omega; exact hm r)]
  rw [e]
  have key:∀ (cs:List Int),(∀ x ∈ cs,x ∈ kids ns c.toNat)→∀ o',OrdOk ns.length o'→(∀ x ∈ cs,0≤x→x.toNat ∈ cs.foldl (numS ns g) o')∧∀ r ∈ cs.foldl (numS ns g) o',r ∉ o'→∀ k ∈ kids ns r,0≤k→k.toNat ∈ cs.foldl (numS ns g) o':=by
   intro cs
   induction cs with
   | nil=>intro _ o' _; exact ⟨fun x hx=>(by cases hx),fun r hr hn=>absurd hr hn⟩
   | cons x cs ih2 =>
    intro hx o' ho'
    obtain ⟨k1,k2⟩:=hk x (hx x (by simp))
    have hrx:rkI rk x≤m:=by unfold rkI; split; omega; rename_i q2; have:=k2 (by omega); omega
    obtain ⟨a1,a2⟩:=ih g x o' hrx (by omega) k1 ho'
    obtain ⟨ho2,t1,e1⟩:=numS_ok hR g x o' k1 ho'
    obtain ⟨b1,b2⟩:=ih2 (fun y hy=>hx y (by simp [hy])) _ ho2
    obtain ⟨_,t2,e2⟩:=fold_ok hR g cs (fun y hy=>(hk y (hx y (by simp [hy]))).1) _ ho2
    rw [List.foldl_cons]
    have up:∀ z,z ∈ numS ns g o' x→z ∈ cs.foldl (numS ns g) (numS ns g o' x):=fun z hz=>by rw [e2]; exact List.mem_append_left _ hz
    refine ⟨fun y hy h0=>?_,fun r hr hn k hk' h0=>?_⟩
    ·rcases List.mem_cons.1 hy with rfl | hy
     ·exact up _ (a1 h0)
     ·exact b1 y hy h0
    ·by_cases hin:r ∈ numS ns g o' x
     ·exact up _ (a2 r hin hn k hk' h0)
     ·exact b2 r hr hin k hk' h0
  have hso:=ho.snoc (show c.toNat < ns.length by omega) hm
  obtain ⟨c1,c2⟩:=key (kids ns c.toNat) (fun _ q=>q) _ hso
  obtain ⟨_,t,e2⟩:=fold_ok hR g (kids ns c.toNat) (fun y hy=>(hk y hy).1) _ hso
  refine ⟨fun _=>?_,fun r hr hn k hk' h0=>?_⟩
  ·rw [e2]; simp
  ·by_cases hin:r ∈ o ++ [c.toNat]
   ·rcases List.mem_append.1 hin with q2 | q2
    ·exact absurd q2 hn
    ·obtain rfl:=List.mem_singleton.1 q2
     exact c1 k hk' h0
   ·exact c2 r hr hin k hk' h0
end
def renC (O:List Nat) (c:Int):Int:=if c < 0 then c else (O.idxOf c.toNat:Int)
def imN (ns:List DS1) (O:List Nat) (r:Nat):DS1:=((ns.getD r zN).1,(ns.getD r zN).2.1,(kids ns r).map (renC O),())
def renN (ns:List DS1) (O:List Nat):List DS1:=O.map (imN ns O)
theorem renN_len (ns:List DS1) (O:List Nat):(renN ns O).length=O.length:=by simp [renN]
theorem renN_at (ns:List DS1) (O:List Nat) {r:Nat} (h:r ∈ O):(renN ns O).getD (O.idxOf r) zN=imN ns O r:=by
 have hl:=List.idxOf_lt_length_of_mem h
 rw [getD_eq _ _ _ (by rw [renN_len]; exact hl)]
 simp only [renN,List.getElem_map,List.getElem_idxOf]
theorem renC_neg {O:List Nat} {c:Int}:renC O c < 0 ↔ c < 0:=by unfold renC; split <;> omega
theorem idx_inj {O:List Nat} {a b:Nat} (ha:a ∈ O) (hb:b ∈ O) (h:O.idxOf a=O.idxOf b):a=b:=by
 have h1:=List.getElem_idxOf (List.idxOf_lt_length_of_mem ha)
 have h2:=List.getElem_idxOf (List.idxOf_lt_length_of_mem hb)
 simp only [h] at h1
 rw [← h1,h2]
theorem renC_inj {O:List Nat} {a b:Int} (ha:0≤a→a.toNat ∈ O) (hb:0≤b→b.toNat ∈ O) (h:renC O a=renC O b):a=b:=by
 unfold renC at h
 split at h <;> split at h
 ·exact h
 ·omega
 ·omega
 ·have:=idx_inj (ha (by omega)) (hb (by omega)) (by omega)
  omega
theorem numS_ren (ns:List DS1) (O:List Nat) (hcl:∀ r ∈ O,∀ k ∈ kids ns r,0≤k→k.toNat ∈ O):∀ (f:Nat) (c:Int) (o:List Nat),(0≤c→c.toNat ∈ O)→(∀ x ∈ o,x ∈ O) →
  numS (renN ns O) f (o.map O.idxOf) (renC O c)=(numS ns f o c).map O.idxOf∧∀ x ∈ numS ns f o c,x ∈ O:=by
 intro f
 induction f with
 | zero=>intro c o _ ho; exact ⟨rfl,ho⟩
 | succ f ih =>
  intro c o hc ho
  rcases Int.lt_or_le c 0 with q | q
  ·rw [numS_neg _ _ q,numS_neg _ _ (renC_neg.2 q)]; exact ⟨rfl,ho⟩
  have e:(renC O c).toNat=O.idxOf c.toNat:=by unfold renC; rw [if_neg (by omega)]; rfl
  by_cases hm:c.toNat ∈ o
  ·rw [numS_in _ _ hm,numS_in _ _ (by rw [e]; exact List.mem_map_of_mem hm)]; exact ⟨rfl,ho⟩
  have hcO:=hc q
  have hnm:(renC O c).toNat ∉ o.map O.idxOf:=fun h=>by
   rw [e] at h
   obtain ⟨x,hx,hxe⟩:=List.mem_map.1 h
   have:=idx_inj (ho x hx) hcO hxe
   exact hm (this ▸ hx)
  have e1:numS ns (f + 1) o c=(kids ns c.toNat).foldl (numS ns f) (o ++ [c.toNat]):=by
   simp only [numS]; rw [if_neg (by rintro (r | r); omega; exact hm r)]
  have e2:numS (renN ns O) (f + 1) (o.map O.idxOf) (renC O c)=(kids (renN ns O) (renC O c).toNat).foldl (numS (renN ns O) f) (o.map O.idxOf ++ [(renC O c).toNat]):=by
   simp only [numS]; rw [if_neg (by rintro (r | r); exact absurd (renC_neg.1 r) (by omega); exact hnm r)]
  rw [e1,e2,e]
  have e3:kids (renN ns O) (O.idxOf c.toNat)=(kids ns c.toNat).map (renC O):=by
   unfold kids
   rw [renN_at ns O hcO]; rfl
  have e4:o.map O.idxOf ++ [O.idxOf c.toNat]=(o ++ [c.toNat]).map O.idxOf:=by simp
  rw [e3,e4,List.foldl_map]
  have key:∀ (cs:List Int),(∀ x ∈ cs,x ∈ kids ns c.toNat)→∀ o',(∀ x ∈ o',x ∈ O)→cs.foldl (fun x y=>numS (renN ns O) f x (renC O y)) (o'.map O.idxOf)=(cs.foldl (numS ns f) o').map O.idxOf∧∀ x ∈ cs.foldl (numS ns f) o',x ∈ O:=by
   intro cs
   induction cs with
   | nil=>intro _ o' ho'; exact ⟨rfl,ho'⟩
   | cons x cs ih2 =>
    intro hx o' ho'
    obtain ⟨a1,a2⟩:=ih x o' (fun h0=>hcl c.toNat hcO x (hx x (by simp)) h0) ho'
    rw [List.foldl_cons,List.foldl_cons,a1]
    exact ih2 (fun y hy=>hx y (by simp [hy])) _ a2
  exact key (kids ns c.toNat) (fun _ h=>h) _ (fun x hx=>by
   rcases List.mem_append.1 hx with r | r
   ·exact ho x r
   ·obtain rfl:=List.mem_singleton.1 r; exact hcO)
theorem map_idx {O:List Nat} (h:O.Nodup):O.map O.idxOf=List.range O.length:=by
 apply List.ext_getElem (by simp)
 intro i h1 h2
 rw [List.getElem_map,List.getElem_range,h.idxOf_getElem]
theorem ren_VD {dm:List DS3} {lo:Int} {ns:List DS1} {root:Int} (hd:DmOk dm) (hN:NInv dm lo ns) (hlo:-256≤lo) (hlo0:lo≤0) (hroot:root < (ns.length:Int)) (hrl:lo≤root) (hlen:ns.length≤1000) :
  VD dm (renN ns (numS ns 8 [] root)) (renC (numS ns 8 [] root) root)∧(∀ x ∈ renN ns (numS ns 8 [] root),∀ c ∈ x.2.2.1,lo≤c)∧lo≤renC (numS ns 8 [] root) root:=by
 obtain ⟨hs,hdi,hlw⟩:=hN
 obtain ⟨hR,hF⟩:=rkA_ok hd hs
 have h0:OrdOk ns.length []:=⟨List.nodup_nil,fun x hx=>by cases hx⟩
 have hO:=(numS_ok hR 8 root [] hroot h0).1
 have hr8:rkI (rkA ns) root≤8:=by
  unfold rkI
  split
  ·omega
  ·exact hF _ (by omega)
 obtain ⟨hcr,hcl0⟩:=numS_closed hR 8 8 root [] hr8 (Nat.le_refl _) hroot h0
 have hsim0:=numS_ren ns (numS ns 8 [] root)
 generalize hOe:numS ns 8 [] root=O at *
 have hcl:∀ r ∈ O,∀ k ∈ kids ns r,0≤k→k.toNat ∈ O:=fun r hr=>hcl0 r hr (fun q=>by cases q)
 have hsim:=(hsim0 hcl 8 root [] hcr (fun x hx=>by cases hx)).1
 rw [hOe,map_idx hO.1] at hsim
 have hOl:=hO.len
 have hloR:∀ c:Int,lo≤c→lo≤renC O c:=fun c h=>by unfold renC; split; exact h; omega
 have hltR:∀ c:Int,(0≤c→c.toNat ∈ O)→renC O c < (O.length:Int):=fun c h=>by
  unfold renC
  split
  ·omega
  ·have:=List.idxOf_lt_length_of_mem (h (by omega)); omega
 have at_:∀ j (hj:j < O.length),(renN ns O).getD j zN=imN ns O O[j]:=fun j hj=>by
  rw [getD_eq _ _ _ (by rw [renN_len]; exact hj)]; simp [renN]
 have kl:∀ r,r < ns.length→∀ c ∈ kids ns r,lo≤c:=fun r hr c hc=>hlw (ns.getD r zN) (by rw [getD_eq _ _ _ hr]; exact List.getElem_mem hr) c hc
 refine ⟨⟨by rw [renN_len]; omega,⟨by have:=hloR root hrl; omega,by rw [renN_len]; exact hltR root hcr⟩,fun i hi=>?_,fun i hi k hk=>?_,by rw [renN_len]; exact hsim⟩,fun x hx c hc=>?_,hloR root hrl⟩
 ·rw [renN_len] at hi
  rw [at_ i hi]
  have hrm:=List.getElem_mem hi
  have hrn:=hO.2 _ hrm
  generalize O[i]=r at hrm hrn
  obtain ⟨s1,s2,s3,s4,s5,s6⟩:=hs r hrn
  have s6':∀ k,k < (kids ns r).length→RefOk ns.length ((kids ns r).getD k 0)∧(0 < k→(kids ns r).getD k 0 ≠ (kids ns r).getD (k - 1) 0)∧(0≤(kids ns r).getD k 0→(ns.getD r zN).1 < (ns.getD ((kids ns r).getD k 0).toNat zN).1):=s6
  have eg:∀ k,k < (kids ns r).length→((kids ns r).map (renC O)).getD k 0=renC O ((kids ns r).getD k 0):=fun k hk=>by
   rw [getD_eq _ _ _ (by rw [List.length_map]; exact hk),List.getElem_map,getD_eq _ _ _ hk]
  have km:∀ k,k < (kids ns r).length→(kids ns r).getD k 0 ∈ kids ns r:=fun k hk=>by rw [getD_eq _ _ _ hk]; exact List.getElem_mem hk
  refine ⟨s1,s2,s3,by show ((kids ns r).map (renC O)).length=_; rw [List.length_map]; exact s4,s5,fun k hk=>?_⟩
  have hk':k < (kids ns r).length:=by
   have:k < ((kids ns r).map (renC O)).length:=hk
   rwa [List.length_map] at this
  show RefOk (renN ns O).length (((kids ns r).map (renC O)).getD k 0)∧(0 < k→((kids ns r).map (renC O)).getD k 0 ≠ ((kids ns r).map (renC O)).getD (k - 1) 0)∧(0≤((kids ns r).map (renC O)).getD k 0→(ns.getD r zN).1 < ((renN ns O).getD (((kids ns r).map (renC O)).getD k 0).toNat zN).1)
  rw [eg k hk',renN_len]
  have hc0:0≤(kids ns r).getD k 0→((kids ns r).getD k 0).toNat ∈ O:=fun q=>hcl r hrm _ (km k hk') q
  refine ⟨⟨by have:=hloR _ (kl r hrn _ (km k hk')); omega,hltR _ hc0⟩,fun q e=>?_,fun q=>?_⟩
  ·rw [eg (k - 1) (by omega)] at e
   exact (s6' k hk').2.1 q (renC_inj hc0 (fun q2=>hcl r hrm _ (km (k - 1) (by omega)) q2) e)
  ·have hc1:0≤(kids ns r).getD k 0:=by
    rcases Int.lt_or_le ((kids ns r).getD k 0) 0 with r2 | r2
    ·have:=renC_neg (O:=O).2 r2; omega
    ·exact r2
   have e:(renC O ((kids ns r).getD k 0)).toNat=O.idxOf ((kids ns r).getD k 0).toNat:=by
    unfold renC; rw [if_neg (by omega)]; rfl
   rw [e,renN_at ns O (hc0 hc1)]
   exact (s6' k hk').2.2 hc1
 ·rw [renN_len] at hi
  have hkl:k < O.length:=by omega
  rw [at_ i hi,at_ k hkl]
  intro e
  have hi2:=hO.2 _ (List.getElem_mem hi)
  have hk2:=hO.2 _ (List.getElem_mem hkl)
  have hne:O[k] ≠ O[i]:=fun q=>by have:=(List.getElem_inj hO.1).1 q; omega
  have hmi:=List.getElem_mem hi
  have hmk:=List.getElem_mem hkl
  generalize O[i]=a at e hi2 hne hmi
  generalize O[k]=b at e hk2 hne hmk
  have e1:=congrArg Prod.fst e
  have e2:=congrArg (fun x:DS1=>x.2.1) e
  have e3:=congrArg (fun x:DS1=>x.2.2.1) e
  have e1:(ns.getD b zN).1=(ns.getD a zN).1:=e1
  have e2:(ns.getD b zN).2.1=(ns.getD a zN).2.1:=e2
  have e3:(kids ns b).map (renC O)=(kids ns a).map (renC O):=e3
  have inj:∀ (xs ys:List Int),(∀ x ∈ xs,0≤x→x.toNat ∈ O)→(∀ x ∈ ys,0≤x→x.toNat ∈ O)→xs.map (renC O)=ys.map (renC O)→xs=ys:=by
   intro xs
   induction xs with
   | nil=>intro ys _ _ h; cases ys with
    | nil=>rfl
    | cons y ys=>cases h
   | cons x xs ih =>
    intro ys hx hy h
    cases ys with
    | nil=>cases h
    | cons y ys =>
     rw [List.map_cons,List.map_cons] at h
     obtain ⟨h1,h2⟩:=List.cons.inj h
     rw [renC_inj (hx x (by simp)) (hy y (by simp)) h1,ih ys (fun z hz=>hx z (by simp [hz])) (fun z hz=>hy z (by simp [hz])) h2]
  have e4:kids ns b=kids ns a:=inj _ _ (hcl b hmk) (hcl a hmi) e3
  have e5:ns.getD b zN=ns.getD a zN:=Prod.ext e1 (Prod.ext e2 (Prod.ext e4 rfl))
  rcases Nat.lt_trichotomy a b with q | q | q
  ·exact hdi b hk2 a q e5.symm
  ·exact hne q.symm
  ·exact hdi a hi2 b q e5
 ·obtain ⟨r,hr,rfl⟩:=List.mem_map.1 hx
  have hc:c ∈ (kids ns r).map (renC O):=hc
  obtain ⟨k,hk,rfl⟩:=List.mem_map.1 hc
  exact hloR k (kl r (hO.2 r hr) k hk)
end Abs
end Go.Proofs.YtgfnhpadmifiiaaDoor
end
namespace Go.Proofs.YtgfnhpadmifiiaaDoor
namespace Abs
theorem mono_58 (x:Int × (List (List Int)) × (List Int) × (List DS1) × (List Int) × (List DS1) × Unit):Mo fun s=>mb58 s x.1 x.2.1 x.2.2.1 x.2.2.2.1 x.2.2.2.2.1 x.2.2.2.2.2.1:=by
 unfold mb58; (repeat' (first | exact Mo.const _ | exact Mo.self _ | apply Mo.bind | apply Mo.cond | apply Mo.map | apply Mo.join | apply Mo.loop | (intro _)))
theorem numb_0 {ns:List DS1} {rk:Nat→Nat} (hR:Ranked ns rk) (hn:ns.length≤1000000) {F:Nat} (hF:∀ r,r < ns.length→rk r + 1≤F) (g:List (List Int)) (v:List Int) (r:Int) (ord:List Nat) (hr:r < (ns.length:Int)) (ho:OrdOk ns.length ord) :
  T (m58 r g v (outS ns ord) (placeS ns.length ord) ns) (fun y=>y=(g,v,outS ns (numS ns F ord r),placeS ns.length (numS ns F ord r),ns,())):=by
 unfold m58
 refine fix_G (ι:=Int × List Nat) mono_58 (fun q=>(q.1,g,v,outS ns q.2,placeS ns.length q.2,ns,())) (fun q=>q.1 < (ns.length:Int)∧OrdOk ns.length q.2)
  (fun q y=>y=(g,v,outS ns (numS ns F q.2 q.1),placeS ns.length (numS ns F q.2 q.1),ns,())) (fun q=>rkI rk q.1) ?_ (r,ord) ⟨hr,ho⟩
 rintro ⟨r,ord⟩ ⟨hr,ho⟩ s ih
 dsimp only at hr ho ih ⊢
 unfold mb58
 have hN:=lenI_eq ns
 have hP:=lenI_eq (placeS ns.length ord)
 have hPl:=placeS_len ns.length ord
 have hO:=ho.len
 rcases Int.lt_or_le r 0 with h0 | h0
 ·refine T.grd (by rw [or_T,not_T,bEqF_F,iLt_T]; exact .inr h0) (T.grd (by rw [or_T,not_T,bEqF_F,iLt_T]; exact .inr h0) (T.ct (by rw [corT_T,iLt_T]; exact .inl h0) (T.ret ?_)))
  rw [numS_neg F ord h0]
 have hrt:r.toNat < ns.length:=by omega
 refine T.grd (by rw [or_T,bnd_T]; left; omega) (T.grd (by rw [or_T,inB_T]; left; omega) (T.cnd (fun hc=>?_) (fun hc=>?_)))
 ·rw [corT_T,iLt_T,iLe_T,placeS_get hrt] at hc
  have hin:r.toNat ∈ ord:=by
   rcases hc with q | q
   ·omega
   ·split at q
    ·assumption
    ·omega
  refine T.ret ?_
  rw [numS_in F ord hin]
 rw [corT_F,iLt_F,iLe_F,placeS_get hrt] at hc
 have hni:r.toNat ∉ ord:=fun q=>by
  rw [if_pos q] at hc
  omega
 obtain ⟨hkl,hk⟩:=hR r.toNat hrt
 have hun:=numS_unfold hR hF h0 hr hni
 have hso:=ho.snoc hrt hni
 have hOl:=outS_len ns ord
 have hlO:=lenI_eq (outS ns ord)
 have hrI:bnd r (lenI ns)=true:=by rw [bnd_T]; omega
 have hrB:inB r.toNat ns=true:=by rw [inB_T]; omega
 refine T.grd (by rw [bnd_T]; omega) (T.grd (by rw [inB_T]; omega) (T.grd hrI (T.grd hrB (T.grd (by rw [fits_T,List.length_singleton]; omega) ?_))))
 have eN:ns.getD r.toNat (0,[],[],())=ns.getD r.toNat zN:=rfl
 have eK:(ns.getD r.toNat zN).2.2.1=kids ns r.toNat:=rfl
 have e1:List.set (placeS ns.length ord) r.toNat (lenI (outS ns ord))=placeS ns.length (ord ++ [r.toNat]):=by rw [hlO,hOl,placeS_snoc hrt hni]
 rw [eN,← outS_snoc,e1]
 have hK:=lenI_eq (kids ns r.toNat)
 refine T.loop (fun q=>∃ (i:Nat) (o:List Nat),i≤(kids ns r.toNat).length∧OrdOk ns.length o∧((kids ns r.toNat).take i).foldl (numS ns F) (ord ++ [r.toNat])=o∧q=(r,(i:Int),g,v,outS ns o,placeS ns.length o,ns,())) (fun q=>(kids ns r.toNat).length - q.2.1.toNat) ⟨0,_,by omega,hso,rfl,rfl⟩ ?_
 rintro _ ⟨i,o,hi,hoo,hfold,rfl⟩
 dsimp only
 rw [eN,eK,hK,atI_getD]
 refine T.grd hrI (T.grd hrB (T.cnd (fun hc3=>?_) (fun hc3=>?_))) <;> simp only [iLt_T,iLt_F] at hc3
 ·have hil:i < (kids ns r.toNat).length:=by omega
  have ec:=getD_eq (kids ns r.toNat) i 0 hil
  rw [ec]
  obtain ⟨k1,k2⟩:=hk _ (List.getElem_mem hil)
  have hlt2:rkI rk (kids ns r.toNat)[i] < rkI rk r:=by
   unfold rkI
   rw [if_neg (show ¬ r < 0 by omega)]
   split
   ·omega
   ·rename_i q; have:=k2 (by omega); omega
  refine T.grd hrI (T.grd hrB (T.grd (by rw [bnd_T]; omega) (T.call (ih ((kids ns r.toNat)[i],o) ⟨k1,hoo⟩ hlt2) ?_)))
  rintro _ rfl
  dsimp only
  refine T.grd (by rw [and_T]; exact ⟨by rw [placeS_len,placeS_len]; exact Nat.beq_refl _,rfl⟩) (T.go ⟨i + 1,_,by omega,(numS_ok hR F _ o k1 hoo).1,?_,by rw [iAdd64 (by omega) (by omega)]; rfl⟩ (by dsimp only; rw [iAdd64 (by omega) (by omega)]; omega))
  rw [List.take_succ_eq_append_getElem hil,List.foldl_append,hfold]; rfl
 ·obtain rfl:i=(kids ns r.toNat).length:=by omega
  refine T.out ?_
  rw [List.take_length] at hfold
  rw [hun,hfold]
theorem numb_1 {ns:List DS1} {rk:Nat→Nat} (hR:Ranked ns rk) (hn:ns.length≤1000000) {F:Nat} (hF:∀ r,r < ns.length→rk r + 1≤F) (g:List (List Int)) (v:List Int) (r:Int) (hr:r < (ns.length:Int)) :
  T (m58_1 r g v (placeS ns.length []) ns) (fun y=>y=(g,v,placeS ns.length (numS ns F [] r),ns,outS ns (numS ns F [] r),())):=by
 have ho:OrdOk ns.length []:=⟨List.nodup_nil,fun x hx=>by cases hx⟩
 unfold m58_1
 have hN:=lenI_eq ns
 have hP:=lenI_eq (placeS ns.length [])
 have hPl:=placeS_len ns.length []
 rcases Int.lt_or_le r 0 with h0 | h0
 ·refine T.grd (by rw [or_T,not_T,bEqF_F,iLt_T]; exact .inr h0) (T.grd (by rw [or_T,not_T,bEqF_F,iLt_T]; exact .inr h0) (T.ct (by rw [corT_T,iLt_T]; exact .inl h0) (T.ret ?_)))
  rw [numS_neg F [] h0]; rfl
 have hrt:r.toNat < ns.length:=by omega
 refine T.grd (by rw [or_T,bnd_T]; left; omega) (T.grd (by rw [or_T,inB_T]; left; omega) (T.cf ?_ ?_))
 ·rw [corT_F,iLt_F,iLe_F,placeS_get hrt]
  exact ⟨h0,by simp⟩
 have hni:r.toNat ∉ ([]:List Nat):=fun q=>by cases q
 obtain ⟨hkl,hk⟩:=hR r.toNat hrt
 have hun:=numS_unfold hR hF h0 hr hni
 have hso:=ho.snoc hrt hni
 have hrI:bnd r (lenI ns)=true:=by rw [bnd_T]; omega
 have hrB:inB r.toNat ns=true:=by rw [inB_T]; omega
 refine T.grd (by rw [bnd_T]; omega) (T.grd (by rw [inB_T]; omega) (T.grd hrI (T.grd hrB (T.grd (by rw [fits_T,List.length_singleton]; omega) ?_))))
 have eN:ns.getD r.toNat (0,[],[],())=ns.getD r.toNat zN:=rfl
 have eK:(ns.getD r.toNat zN).2.2.1=kids ns r.toNat:=rfl
 have e1:List.set (placeS ns.length []) r.toNat 0=placeS ns.length ([] ++ [r.toNat]):=by rw [← placeS_snoc hrt hni]; rfl
 have e2:([ns.getD r.toNat zN]:List DS1)=outS ns ([] ++ [r.toNat]):=by rw [outS_snoc]; rfl
 rw [eN,e2,e1]
 have hK:=lenI_eq (kids ns r.toNat)
 refine T.loop (fun q=>∃ (i:Nat) (o:List Nat),i≤(kids ns r.toNat).length∧OrdOk ns.length o∧((kids ns r.toNat).take i).foldl (numS ns F) ([] ++ [r.toNat])=o∧q=(r,(i:Int),g,v,placeS ns.length o,ns,outS ns o,())) (fun q=>(kids ns r.toNat).length - q.2.1.toNat) ⟨0,_,by omega,hso,rfl,rfl⟩ ?_
 rintro _ ⟨i,o,hi,hoo,hfold,rfl⟩
 dsimp only
 rw [eN,eK,hK,atI_getD]
 refine T.grd hrI (T.grd hrB (T.cnd (fun hc3=>?_) (fun hc3=>?_))) <;> simp only [iLt_T,iLt_F] at hc3
 ·have hil:i < (kids ns r.toNat).length:=by omega
  have ec:=getD_eq (kids ns r.toNat) i 0 hil
  rw [ec]
  obtain ⟨k1,k2⟩:=hk _ (List.getElem_mem hil)
  refine T.grd hrI (T.grd hrB (T.grd (by rw [bnd_T]; omega) (T.call (numb_0 hR hn hF g v (kids ns r.toNat)[i] o k1 hoo) ?_)))
  rintro _ rfl
  dsimp only
  refine T.grd (by rw [and_T]; exact ⟨by rw [placeS_len,placeS_len]; exact Nat.beq_refl _,rfl⟩) (T.go ⟨i + 1,_,by omega,(numS_ok hR F _ o k1 hoo).1,?_,by rw [iAdd64 (by omega) (by omega)]; rfl⟩ (by dsimp only; rw [iAdd64 (by omega) (by omega)]; omega))
  rw [List.take_succ_eq_append_getElem hil,List.foldl_append,hfold]; rfl
 ·obtain rfl:i=(kids ns r.toNat).length:=by omega
  refine T.out ?_
  rw [List.take_length] at hfold
  rw [hun,hfold]
theorem build_1 {dm:List DS3} {lo:Int} (hd:DmOk dm) (hlo:-256≤lo) (hlo0:lo≤0) {g:List (List Int)} (hg:GOk dm g) (hgl:∀ r ∈ g,r.length≤1000000) (hP:prodL g≤500000) {v:List Int} (hv:∀ x ∈ v,0≤x∧lo≤-1 - x) (hvl:v.length=prodL g) :
  T (m80_1 0 0 (lenI v) g v) (fun y=>∃ t,y=(y.1,g,v,t,())∧NInv dm lo t∧Rf t lo 0 y.1∧t.length + 1≤prodL g):=by
 unfold m80_1
 have hG:=lenI_eq g
 have hV:=lenI_eq v
 have hd1:=hd.1
 have hd2:=hd.2.1
 have hgd:=hg.1
 have hil:0 < g.length:=by omega
 have hrow:=hg.row hil
 have hrp:=hrow.pos
 have hpd:=prod_drop g 0 hil
 rw [List.drop_zero,Nat.zero_add] at hpd
 have epart:iQuo .i64 (lenI v) (g[0].length:Int)=(prodL (g.drop 1):Int):=by
  unfold iQuo
  rw [hV,hvl,hpd,Int.tdiv_eq_ediv_of_nonneg (by omega)]
  have:((g[0].length * prodL (g.drop 1):Nat):Int) / (g[0].length:Int)=(prodL (g.drop 1):Int):=by
   rw [← Int.natCast_ediv,Nat.mul_div_cancel_left _ (by omega)]
  rw [this]
  have h1:prodL (g.drop 1)≤prodL g:=by
   rw [hpd]
   have:1 * prodL (g.drop 1)≤g[0].length * prodL (g.drop 1):=Nat.mul_le_mul hrp (Nat.le_refl _)
   omega
  rw [wrap64] <;> omega
 have hgi:=hgl _ (List.getElem_mem hil)
 have hR:=lenI_eq g[0]
 have e00:atI g 0 []=g[0]:=getD_eq g 0 [] hil
 rw [e00,hR,epart,hG]
 have hpt0:prodL (g.drop (0 + 1))=prodL (g.drop 1):=rfl
 generalize hpt:prodL (g.drop 1)=part at hpd
 refine T.cf (by rw [iEq_F]; omega) (T.grd (by rw [bnd_T]; omega) (T.grd (by rw [iNe_T]; omega) ?_))
 refine T.loop (fun q=>∃ (k:Nat) (t:List DS1) (nx:List Int),k≤g[0].length∧nx.length=k∧NInv dm lo t∧(∀ c ∈ nx,Rf t lo 1 c)∧t.length + k≤k * part∧q=(0,0,(part:Int),(k:Int),g,v,nx,t,())) (fun q=>g[0].length - q.2.2.2.1.toNat) ⟨0,[],[],by omega,rfl,NInv.nil dm lo,fun c hc=>(by cases hc),by simp,rfl⟩ ?_
 rintro _ ⟨k,t,nx,hk,hnx,hNt,hrf,htl,rfl⟩
 dsimp only
 rw [hG,e00,hR]
 refine T.grd (by rw [bnd_T]; omega) (T.cnd (fun hc2=>?_) (fun hc2=>?_)) <;> simp only [iLt_T,iLt_F] at hc2
 ·have hkl:k < g[0].length:=by omega
  have hkp:(k + 1) * part≤g[0].length * part:=Nat.mul_le_mul hkl (Nat.le_refl _)
  rw [Nat.add_mul,Nat.one_mul] at hkp
  have e1:iAdd .i64 0 1=((0 + 1:Nat):Int):=by rw [iAdd64 (by omega) (by omega)]; rfl
  have ekp:(k:Int) * (part:Int)=((k * part:Nat):Int):=by push_cast; rfl
  have e2:iAdd .i64 0 (iMul .i64 (k:Int) (part:Int))=((k * part:Nat):Int):=by
   rw [iMul64 (by omega) (by omega),ekp,iAdd64 (by omega) (by omega)]; omega
  rw [e1,e2]
  have hcall:=build_T hd hlo hlo0 hg hgl (by omega) hv (by omega) 1 (k * part) t (by omega) (by rw [hpt]; omega) hNt (by rw [hpt]; omega)
  rw [hpt] at hcall
  refine T.call hcall ?_
  rintro ⟨r,q1,q2,q3,⟨⟩⟩ ⟨t2,heq,hN2,hr2,ht2⟩
  obtain ⟨rfl,rfl,rfl⟩:g=q1∧v=q2∧t ++ t2=q3:=by
   simp only [Prod.mk.injEq] at heq
   exact ⟨heq.2.1.symm,heq.2.2.1.symm,heq.2.2.2.1.symm⟩
  dsimp only at hr2 ⊢
  refine T.grd (by rw [fits_T,List.length_singleton]; omega) (T.go ⟨k + 1,t ++ t2,nx ++ [r],by omega,by rw [List.length_append,List.length_singleton,hnx],hN2,fun c hc=>?_,?_,by rw [iAdd64 (by omega) (by omega)]; rfl⟩ (by dsimp only; rw [iAdd64 (by omega) (by omega)]; omega))
  ·rcases List.mem_append.1 hc with q | q
   ·exact (hrf c q).app t2
   ·obtain rfl:=List.mem_singleton.1 q; exact hr2
  ·rw [List.length_append,Nat.add_mul,Nat.one_mul]; omega
 ·obtain rfl:k=g[0].length:=by omega
  refine T.mapL (T.grd (by rw [bnd_T]; omega) (T.call (node_T (i:=0) hd hlo hlo0 (by omega) (cuts:=g[0]) (next:=nx) (ns:=t) hrow (by omega) hgi hrf hNt (by omega) g v) ?_))
  rintro ⟨r,q1,q2,q3,q4,⟨⟩⟩ ⟨t2,heq,hN2,hr2,ht2,ht3⟩
  obtain ⟨rfl,rfl,rfl,rfl⟩:g=q1∧v=q2∧nx=q3∧t ++ t2=q4:=by
   simp only [Prod.mk.injEq] at heq
   exact ⟨heq.2.1.symm,heq.2.2.1.symm,heq.2.2.2.1.symm,heq.2.2.2.2.1.symm⟩
  dsimp only at hr2 ⊢
  refine T.grd (by rw [and_T]; exact ⟨Nat.beq_refl _,rfl⟩) (T.ret ⟨t ++ t2,rfl,hN2,hr2,?_⟩)
  rw [List.length_append,hpd]
  have hlx:g[0].length=nx.length:=hnx.symm
  rw [hlx] at htl ⊢
  rw [hlx] at hrp
  by_cases h1:nx.length=1
  ·rw [ht3 h1,List.length_nil]; omega
  ·omega
theorem place_ren {n:Nat} {O:List Nat} {c:Int} (h:c < (n:Int)) (h0:0≤c) (hm:c.toNat ∈ O):(placeS n O).getD c.toNat 0=renC O c:=by
 rw [placeS_get (by omega),if_pos hm]; unfold renC; rw [if_neg (by omega)]
theorem Build_T {dm:List DS3} {lo:Int} (hd:DmOk dm) (hlo:-256≤lo) (hlo0:lo≤0) {g:List (List Int)} (hg:GOk dm g) (hgl:∀ r ∈ g,r.length≤1000000) (hP:prodL g≤1000) {v:List Int} (hv:∀ x ∈ v,0≤x∧lo≤-1 - x) (hvl:v.length=prodL g) :
  T (m48 g v) (fun y=>VD dm y.1.1 y.1.2.1∧(∀ x ∈ y.1.1,∀ c ∈ x.2.2.1,lo≤c)∧lo≤y.1.2.1∧y.2.1=0):=by
 unfold m48
 refine T.call (build_1 hd hlo hlo0 hg hgl (by omega) hv hvl) ?_
 rintro ⟨root,q1,q2,ns,⟨⟩⟩ ⟨t,heq,hN,hr,ht⟩
 obtain ⟨rfl,rfl,rfl⟩:g=q1∧v=q2∧t=ns:=by
  simp only [Prod.mk.injEq] at heq
  exact ⟨heq.2.1.symm,heq.2.2.1.symm,heq.2.2.2.1.symm⟩
 dsimp only at hr ⊢
 have hN':=lenI_eq t
 have hs:=hN.1
 obtain ⟨hR,hF⟩:=rkA_ok hd hs
 have hfin:=ren_VD hd hN hlo hlo0 hr.2.1 hr.1 (by omega)
 have h0:OrdOk t.length []:=⟨List.nodup_nil,fun x hx=>by cases hx⟩
 have hO:=(numS_ok hR 8 root [] hr.2.1 h0).1
 have hr8:rkI (rkA t) root≤8:=by
  unfold rkI
  split
  ·omega
  ·exact hF _ (by have:=hr.2.1; omega)
 obtain ⟨hcr,hcl0⟩:=numS_closed hR 8 8 root [] hr8 (Nat.le_refl _) hr.2.1 h0
 rw [hN']
 refine T.cf (by rw [iLt_F]; omega) (T.grd (by rw [fitsI_T]; omega) ?_)
 rw [Int.toNat_natCast]
 refine T.loop (fun q=>∃ (i:Nat) (p:List Int),i≤t.length∧p.length=t.length∧(∀ j,j < i→p.getD j 0=-1)∧q=(root,(i:Int),0,g,v,p,t,())) (fun q=>t.length - q.2.1.toNat) ⟨0,_,by omega,by simp,fun j hj=>by omega,rfl⟩ ?_
 rintro _ ⟨i,p,hi,hp,hpg,rfl⟩
 dsimp only
 have hpI:=lenI_eq p
 rw [hpI,Int.toNat_natCast]
 refine T.cnd (fun hc2=>?_) (fun hc2=>?_) <;> simp only [iLt_T,iLt_F] at hc2
 ·refine T.grd (by rw [bnd_T]; omega) (T.grd (by rw [inB_T]; omega) (T.go ⟨i + 1,p.set i (-1),by omega,by rw [List.length_set]; exact hp,fun j hj=>?_,by rw [iAdd64 (by omega) (by omega)]; rfl⟩ (by dsimp only; rw [iAdd64 (by omega) (by omega)]; omega)))
  rw [set_getD p i j _ _ (by omega)]
  split
  ·rfl
  ·exact hpg j (by omega)
 obtain rfl:i=t.length:=by omega
 obtain rfl:p=placeS t.length []:=by
  rw [placeS_nil]
  apply List.ext_getElem (by simp [hp])
  intro j h1 h2
  have:=hpg j (by omega)
  rw [getD_eq _ _ _ h1] at this
  rw [this]; simp
 refine T.mapL (T.call (numb_1 hR (by omega) hF g v root hr.2.1) ?_)
 rintro _ rfl
 dsimp only
 generalize hOe:numS t 8 [] root=O at hfin hO hcr hcl0
 have hcl:∀ r ∈ O,∀ k ∈ kids t r,0≤k→k.toNat ∈ O:=fun r hr=>hcl0 r hr (fun q=>by cases q)
 have hOl:=hO.len
 have hPl:=placeS_len t.length O
 have hPI:=lenI_eq (placeS t.length O)
 refine T.grd (by rw [and_T]; exact ⟨by rw [placeS_len,placeS_len]; exact Nat.beq_refl _,rfl⟩) ?_
 refine T.loop (fun q=>∃ (i:Nat) (o:List DS1),i≤O.length∧o.length=O.length∧(∀ j (hj:j < O.length),o.getD j zN=if j < i then imN t O O[j] else t.getD O[j] zN)∧q=(root,(i:Int),0,placeS t.length O,o,())) (fun q=>O.length - q.2.1.toNat) ⟨0,outS t O,by omega,outS_len t O,fun j hj=>?_,rfl⟩ ?_
 ·rw [if_neg (by omega),getD_eq _ _ _ (by rw [outS_len]; exact hj)]; simp [outS]
 rintro _ ⟨i,o,hi,hol,hog,rfl⟩
 dsimp only
 have hoI:=lenI_eq o
 rw [hoI]
 refine T.cnd (fun hc2=>?_) (fun hc2=>?_) <;> simp only [iLt_T,iLt_F] at hc2
 ·have hil:i < O.length:=by omega
  have hoi:=hog i hil
  rw [if_neg (by omega)] at hoi
  have hrm:=List.getElem_mem hil
  have hrn:=hO.2 _ hrm
  obtain ⟨hkl,hk⟩:=hR _ hrn
  have hK:=lenI_eq (kids t O[i])
  have eo:o.getD i (0,[],[],())=t.getD O[i] zN:=hoi
  have eK:(t.getD O[i] zN).2.2.1=kids t O[i]:=rfl
  have b1:bnd (i:Int) (o.length:Int)=true:=by rw [bnd_T]; omega
  have b2:inB i o=true:=by rw [inB_T]; omega
  refine T.loop (fun q=>∃ k:Nat,k≤(kids t O[i]).length∧q=(root,(i:Int),(k:Int),0,placeS t.length O,o,((kids t O[i]).take k).map (renC O),())) (fun q=>(kids t O[i]).length - q.2.2.1.toNat) ⟨0,by omega,rfl⟩ ?_
  rintro _ ⟨k,hkk,rfl⟩
  dsimp only
  rw [hoI,Int.toNat_natCast,eo,eK,hK,atI_getD,hPI]
  refine T.grd b1 (T.grd b2 (T.cnd (fun hc3=>?_) (fun hc3=>?_))) <;> simp only [iLt_T,iLt_F] at hc3
  ·have hkl2:k < (kids t O[i]).length:=by omega
   rw [getD_eq _ _ _ hkl2]
   have hkm:=List.getElem_mem hkl2
   obtain ⟨k1,_⟩:=hk _ hkm
   have hcm:=hcl _ hrm _ hkm
   have etk:((kids t O[i]).take (k + 1)).map (renC O)=((kids t O[i]).take k).map (renC O) ++ [renC O (kids t O[i])[k]]:=by
    rw [List.take_succ_eq_append_getElem hkl2,List.map_append]; rfl
   have nxt:T (cond (fits (List.length (((kids t O[i]).take k).map (renC O)) + List.length ([renC O (kids t O[i])[k]]:List Int)) 8) (some (Sum.inl (β:=(Int × Int × Int × (List Int) × (List DS1) × Unit) ⊕ (DS2 × Int × Unit)) (root,(i:Int),iAdd .i64 (k:Int) 1,(0:Int),placeS t.length O,o,((kids t O[i]).take k).map (renC O) ++ ([renC O (kids t O[i])[k]]:List Int),()))) none)
     (LQ (fun q=>∃ k:Nat,k≤(kids t O[i]).length∧q=(root,(i:Int),(k:Int),0,placeS t.length O,o,((kids t O[i]).take k).map (renC O),())) (fun q=>(kids t O[i]).length - q.2.2.1.toNat) ((kids t O[i]).length - (k:Int).toNat)
      (LQ (fun q=>∃ (i:Nat) (o:List DS1),i≤O.length∧o.length=O.length∧(∀ j (hj:j < O.length),o.getD j zN=if j < i then imN t O O[j] else t.getD O[j] zN)∧q=(root,(i:Int),0,placeS t.length O,o,())) (fun q=>O.length - q.2.1.toNat) (O.length - (i:Int).toNat) (fun y=>VD dm y.1.1 y.1.2.1∧(∀ x ∈ y.1.1,∀ c ∈ x.2.2.1,lo≤c)∧lo≤y.1.2.1∧y.2.1=0))):=by
    refine T.grd (by rw [fits_T,List.length_map,List.length_take,List.length_singleton]; omega) (T.go ⟨k + 1,by omega,?_⟩ (by dsimp only; rw [iAdd64 (by omega) (by omega)]; omega))
    rw [etk,iAdd64 (by omega) (by omega)]; rfl
   refine T.grd b1 (T.grd b2 (T.grd (by rw [bnd_T]; omega) (T.cnd (fun hc4=>?_) (fun hc4=>?_)))) <;> simp only [iLe_T,iLe_F] at hc4
   ·rw [place_ren k1 hc4 (hcm hc4)]
    exact T.grd (by rw [bnd_T]; omega) (T.grd (by rw [inB_T]; omega) nxt)
   ·have er:renC O (kids t O[i])[k]=(kids t O[i])[k]:=by unfold renC; rw [if_pos hc4]
    rw [er] at nxt
    exact nxt
  ·obtain rfl:k=(kids t O[i]).length:=by omega
   rw [List.take_length]
   refine T.mapL (T.grd b1 (T.grd b2 (T.grd b1 (T.grd b2 (T.grd b1 (T.grd b2 (T.ret (show LQ _ _ _ _ (Sum.inl _) from ⟨⟨i + 1,o.set i (imN t O O[i]),by omega,by rw [List.length_set]; exact hol,fun j hj=>?_,by rw [iAdd64 (by omega) (by omega)]; rfl⟩,by dsimp only; rw [iAdd64 (by omega) (by omega)]; omega⟩))))))))
   rw [set_getD o i j _ _ (by omega)]
   by_cases e:i=j
   ·subst e; rw [if_pos rfl,if_pos (by omega)]
   ·rw [if_neg e,hog j hj]
    by_cases q:j < i
    ·rw [if_pos q,if_pos (by omega)]
    ·rw [if_neg q,if_neg (by omega)]
 ·obtain rfl:i=O.length:=by omega
  obtain rfl:o=renN t O:=by
   apply List.ext_getElem (by rw [hol,renN_len])
   intro j h1 h2
   have hj:j < O.length:=by rw [← hol]; exact h1
   have:=hog j hj
   rw [if_pos hj,getD_eq _ _ _ h1] at this
   rw [this]; simp [renN]
  rw [hPI]
  refine T.mapL (T.cnd (fun hc3=>?_) (fun hc3=>?_)) <;> simp only [iLe_T,iLe_F] at hc3
  ·have hrl:=hr.2.1
   refine T.grd (by rw [bnd_T]; omega) (T.grd (by rw [inB_T]; omega) (T.ret ?_))
   dsimp only
   rw [place_ren hrl hc3 (hcr hc3)]
   exact ⟨hfin.1,hfin.2.1,hfin.2.2,rfl⟩
  ·refine T.ret ?_
   have er:renC O root=root:=by unfold renC; rw [if_pos hc3]
   rw [er] at hfin
   exact ⟨hfin.1,hfin.2.1,hfin.2.2,rfl⟩
theorem valid_len {l:List DS0} {f:List Int} (h:validS l f=true):f.length=l.length:=by
 unfold validS at h
 rw [Bool.and_eq_true,Bool.and_eq_true] at h
 exact of_decide_eq_true h.1.2
theorem made_T (l:List DS0) (hv:valS l=0) (values:Int) (h1:1≤values) (h2:values≤256) {L:List Int} {a:Int} (hk:DeckOk L a) :
  T (m18 (l,()) values L a) (fun y=>VD (doms l) y.1 y.2.1∧(∀ x ∈ y.1,∀ c ∈ x.2.2.1,-values≤c)∧-values≤y.2.1∧DeckOk y.2.2.1 y.2.2.2.1):=by
 unfold m18
 have hd:=doms_ok hv
 have vo:=val_ok hv
 have hL:=lenI_eq l
 have hdl:=doms_len l
 refine T.callE (starts_m l hv) (T.call (next_T hk (by omega) (by omega)) ?_)
 rintro ⟨k0,K,a0,⟨⟩⟩ ⟨n1,n2,n3⟩
 dsimp only at n1 n2 n3 ⊢
 obtain ⟨g1,g2⟩:=starts_ok hd
 refine T.loop (fun q=>∃ (g:List (List Int)) (k:Nat) (K:List Int) (a:Int),GOk (doms l) g∧excess g + k≤4∧DeckOk K a∧q=(values,g,(k:Int),K,a,l,0,())) (fun q=>q.2.2.1.toNat) ⟨_,k0.toNat,K,a0,g1,by omega,n1,by rw [show ((k0.toNat:Nat):Int)=k0 by omega]⟩ ?_
 rintro _ ⟨g,k,K,a,hg,hek,hK,rfl⟩
 dsimp only
 rw [hL]
 have hgd:=hg.1
 have hgl:∀ r ∈ g,r.length≤1000000:=fun r hr=>by have:=row_excess g r hr; omega
 refine T.cnd (fun hc=>?_) (fun hc=>?_) <;> simp only [iLt_T,iLt_F] at hc
 ·refine T.call (next_T hK (by omega) (by omega)) ?_
  rintro ⟨i,K1,a1,⟨⟩⟩ ⟨m1,m2,m3⟩
  dsimp only at m1 m2 m3 ⊢
  refine T.call (facts_T l hv m1) ?_
  rintro ⟨K2,a2,f,⟨⟩⟩ ⟨f1,f2⟩
  dsimp only at f1 f2 ⊢
  have hfl:=valid_len f2
  have hfI:=lenI_eq f
  refine T.grd (by rw [bnd_T]; omega) (T.grd (by rw [inB_T]; omega) ?_)
  have ei:i=(i.toNat:Int):=by omega
  have hil:i.toNat < l.length:=by omega
  have hcm:=cut_m l hv g (by omega) (fun r hr=>by have:=hgl r hr; omega) i.toNat hil (f.getD i.toNat 0)
  rw [← ei] at hcm
  refine T.callE hcm ?_
  obtain ⟨c1,c2⟩:=cut_ok hg (i:=i.toNat) (by omega) (f.getD i.toNat 0)
  refine T.go ⟨_,k - 1,K2,a2,c1,by omega,f1,?_⟩ (by dsimp only; rw [iSub64 (by omega) (by omega)]; omega)
  rw [iSub64 (by omega) (by omega),show ((k - 1:Nat):Int)=(k:Int) - 1 by omega]
 ·obtain rfl:k=0:=by omega
  refine T.mapL ?_
  have hp:prodL g≤16:=by
   refine Nat.le_trans (prod_le g) ?_
   have:excess g≤4:=by omega
   exact Nat.le_trans (Nat.pow_le_pow_right (by omega) this) (by decide)
  have hpos:∀ r ∈ g,1≤r.length:=fun r hr=>by
   obtain ⟨j,hj,rfl⟩:=List.getElem_of_mem hr
   exact (hg.row hj).pos
  refine T.callE (cells_m g (by have:=hd.2.1; omega) hpos (by omega)) ?_
  dsimp only
  refine T.loop (fun q=>∃ (k:Nat) (v K:List Int) (a:Int),v.length + k=prodL g∧(∀ x ∈ v,0≤x∧x < values)∧DeckOk K a∧q=(values,g,(k:Int),K,a,0,v,())) (fun q=>q.2.2.1.toNat) ⟨prodL g,[],K,a,by simp,fun x hx=>(by cases hx),hK,rfl⟩ ?_
  rintro _ ⟨k,v,K,a,hvk,hvx,hK,rfl⟩
  dsimp only
  refine T.cnd (fun hc2=>?_) (fun hc2=>?_) <;> simp only [iLt_T,iLt_F] at hc2
  ·refine T.call (next_T hK (by omega) (by omega)) ?_
   rintro ⟨x,K1,a1,⟨⟩⟩ ⟨m1,m2,m3⟩
   dsimp only at m1 m2 m3 ⊢
   refine T.grd (by rw [fits_T,List.length_singleton]; omega) (T.go ⟨k - 1,v ++ [x],K1,a1,by rw [List.length_append,List.length_singleton]; omega,fun y hy=>?_,m1,?_⟩ (by dsimp only; rw [iSub64 (by omega) (by omega)]; omega))
   ·rcases List.mem_append.1 hy with q | q
    ·exact hvx y q
    ·obtain rfl:=List.mem_singleton.1 q; exact ⟨m2,m3⟩
   ·rw [iSub64 (by omega) (by omega),show ((k - 1:Nat):Int)=(k:Int) - 1 by omega]
  ·obtain rfl:k=0:=by omega
   refine T.mapL (T.call (Build_T (lo:=-values) hd (by omega) (by omega) hg hgl (by omega) (fun x hx=>by have:=hvx x hx; omega) (by omega)) ?_)
   intro y ⟨y1,y2,y3,y4⟩
   exact T.ret ⟨y1,y2,y3,hK⟩
def SzB (ns:List DS1):Prop:=ns.length≤1002∧∀ x ∈ ns,x.2.1.length≤2000000003∧x.2.2.1.length≤2000000003
theorem SzB.n {ns:List DS1} (h:SzB ns):SzN ns:=⟨by have:=h.1; omega,fun x hx=>by have:=h.2 x hx; omega⟩
theorem SzB.set {ns:List DS1} (h:SzB ns) (k:Nat) {x:DS1} (hx:x.2.1.length≤2000000003∧x.2.2.1.length≤2000000003):SzB (ns.set k x):=by
 refine ⟨by rw [List.length_set]; exact h.1,fun y hy=>?_⟩
 rcases List.mem_or_eq_of_mem_set hy with q | q
 ·exact h.2 y q
 ·rw [q]; exact hx
theorem VD.sz {dm:List DS3} {ns:List DS1} {root:Int} (hd:DmOk dm) (h:VD dm ns root):(∀ x ∈ ns,1≤x.2.1.length∧x.2.1.length≤2000000001∧1≤x.2.2.1.length∧x.2.2.1.length≤2000000001)∧SzN ns:=by
 have key:∀ x ∈ ns,1≤x.2.1.length∧x.2.1.length≤2000000001∧1≤x.2.2.1.length∧x.2.2.1.length≤2000000001:=fun x hx=>by
  obtain ⟨i,hi,rfl⟩:=List.getElem_of_mem hx
  have hs:=h.2.2.1 i hi
  rw [getD_eq _ _ _ hi] at hs
  have hl:=hs.len hd
  have h3:=hs.2.2.1
  have h4:=hs.2.2.2.1
  omega
 exact ⟨key,by have:=h.1; omega,fun x hx=>by have:=key x hx; omega⟩
theorem deck_ok {L:List Int} (h:OkT (.list (.int .i64)) L):DeckOk L 0:=⟨fun x hx=>ok_i64 ((ok_list (e:=.int .i64) h).2 x hx),(ok_list (e:=.int .i64) h).1,by omega⟩
def Sub (g g':List (List Int)):Prop:=g.length=g'.length∧∀ a,(∀ x ∈ g.getD a [],x ∈ g'.getD a [])∧(g.getD a []).length≤(g'.getD a []).length
theorem Sub.refl (g:List (List Int)):Sub g g:=⟨rfl,fun a=>⟨fun x h=>h,Nat.le_refl _⟩⟩
theorem Sub.trans {a b c:List (List Int)} (h:Sub a b) (h':Sub b c):Sub a c:=⟨h.1.trans h'.1,fun i=>⟨fun x q=>(h'.2 i).1 x ((h.2 i).1 x q),Nat.le_trans (h.2 i).2 (h'.2 i).2⟩⟩
theorem cut_sub {dm:List DS3} (g:List (List Int)) (i:Nat) (hi:i < g.length) (v:Int):Sub g (gCut dm g i v):=by
 unfold gCut
 split
 ·exact Sub.refl g
 ·refine ⟨by rw [List.length_set],fun a=>?_⟩
  rw [set_getD g i a _ _ hi]
  split
  ·rename_i e; subst e
   exact ⟨(addS_mem2 _ _).2,(addS_len _ _).1⟩
  ·exact ⟨fun x h=>h,Nat.le_refl _⟩
theorem cut_has {dm:List DS3} (g:List (List Int)) (i:Nat) (hi:i < g.length) (v:Int) (h1:(dm.getD i zS).1 < v) (h2:v≤(dm.getD i zS).2.1):v ∈ (gCut dm g i v).getD i []:=by
 unfold gCut
 rw [if_neg (by omega),set_getD g i i _ _ hi,if_pos rfl]
 exact (addS_mem2 _ _).1
theorem row_rise {lo hi:Int} {r:List Int} (h:RowOk lo hi r):∀ k,k < r.length→lo + k≤r.getD k 0:=by
 intro k
 induction k with
 | zero=>intro _; rw [(row_lo h).1]; omega
 | succ k ih=>intro hk; have:=(row_at h (k + 1) (by omega) hk).2.2; rw [Nat.add_sub_cancel] at this; have:=ih (by omega); omega
theorem row_len {lo hi:Int} {r:List Int} (h:RowOk lo hi r):(r.length:Int)≤hi - lo + 1∨r.length=1:=by
 have hp:=h.pos
 rcases Nat.lt_or_ge 1 r.length with q | q
 ·have h1:=row_rise h (r.length - 1) (by omega)
  have h2:=(row_at h (r.length - 1) (by omega) (by omega)).2.1
  left; omega
 ·right; omega
theorem GOk.len {dm:List DS3} (hd:DmOk dm) {g:List (List Int)} (hg:GOk dm g):∀ r ∈ g,1≤r.length∧r.length≤2000000001:=by
 intro r hr
 obtain ⟨i,hi,rfl⟩:=List.getElem_of_mem hr
 have h1:=hg.row hi
 have h2:=row_len h1
 have h3:=hd.at (i:=i) (by rw [← hg.1]; exact hi)
 have h4:=h1.pos
 omega
theorem prod_mono:∀ (g g':List (List Int)),g.length=g'.length→(∀ a,(g.getD a []).length≤(g'.getD a []).length)→prodL g≤prodL g':=by
 intro g
 induction g with
 | nil=>intro g' h _; cases g' with
  | nil=>exact Nat.le_refl _
  | cons=>cases h
 | cons r g ih =>
  intro g' h hl
  cases g' with
  | nil=>cases h
  | cons r' g' =>
   simp only [prodL]
   refine Nat.mul_le_mul ?_ (ih g' (by simpa using h) (fun a=>?_))
   ·have:=hl 0; simpa using this
   ·have:=hl (a + 1); simpa using this
def Has (ns:List DS1) (n:Nat) (g:List (List Int)):Prop:=∀ r,r < n→∀ c ∈ (ns.getD r zN).2.1,c ∈ g.getD (ns.getD r zN).1.toNat []
theorem cutdia_T (l:List DS0) (hv:valS l=0) (g0:List (List Int)) (hg0:GOk (doms l) g0) (ns:List DS1) (root:Int) (hs:AllS (doms l) ns) (hn:ns.length≤1000) :
  T (m49 (l,()) g0 (ns,root,())) (fun y=>GOk (doms l) y.1∧Sub g0 y.1∧Has ns ns.length y.1):=by
 unfold m49
 have hd:=doms_ok hv
 have hdl:=doms_len l
 have hN:=lenI_eq ns
 refine T.loop (fun q=>∃ (i:Nat) (g:List (List Int)),i≤ns.length∧GOk (doms l) g∧Sub g0 g∧Has ns i g∧q=(g,(i:Int),l,ns,root,())) (fun q=>ns.length - q.2.1.toNat) ⟨0,g0,by omega,hg0,Sub.refl _,fun r hr=>by omega,rfl⟩ ?_
 rintro _ ⟨i,g,hi,hg,hsb,hh,rfl⟩
 dsimp only
 rw [hN]
 refine T.cnd (fun hc=>?_) (fun hc=>?_) <;> simp only [iLt_T,iLt_F] at hc
 ·have hil:i < ns.length:=by omega
  have hsi:=hs i hil
  have hle:=hsi.len hd
  have h1:=hsi.1
  have h2:=hsi.2.1
  have h5:=hsi.2.2.2.2.1
  have eN:atI ns (i:Int) (0,[],[],())=ns.getD i zN:=by rw [atI_getD]; rfl
  have hC:=lenI_eq (ns.getD i zN).2.1
  have b1:bnd (i:Int) (ns.length:Int)=true:=by rw [bnd_T]; omega
  refine T.loop (fun q=>∃ (k:Nat) (g:List (List Int)),k≤(ns.getD i zN).2.1.length∧GOk (doms l) g∧Sub g0 g∧Has ns i g∧(∀ j,j < k→(ns.getD i zN).2.1.getD j 0 ∈ g.getD (ns.getD i zN).1.toNat [])∧q=(g,(i:Int),(k:Int),l,ns,root,())) (fun q=>(ns.getD i zN).2.1.length - q.2.2.1.toNat) ⟨0,g,by omega,hg,hsb,hh,fun j hj=>by omega,rfl⟩ ?_
  rintro _ ⟨k,g,hk,hg,hsb,hh,hj,rfl⟩
  dsimp only
  rw [eN,hC,hN,atI_getD]
  refine T.grd b1 (T.cnd (fun hc2=>?_) (fun hc2=>?_)) <;> simp only [iLt_T,iLt_F] at hc2
  ·have hkl:k < (ns.getD i zN).2.1.length:=by omega
   have hck:=h5 k hkl
   have hgd:=hg.1
   have hal:(ns.getD i zN).1.toNat < l.length:=by omega
   have ea:(ns.getD i zN).1=((ns.getD i zN).1.toNat:Int):=by omega
   have hcm:=cut_m l hv g (by omega) (fun r hr=>by have:=hg.len hd r hr; omega) (ns.getD i zN).1.toNat hal ((ns.getD i zN).2.1.getD k 0)
   rw [← ea] at hcm
   refine T.grd b1 (T.grd b1 (T.grd (by rw [bnd_T]; omega) (T.callE hcm ?_)))
   have hs2:=cut_sub (dm:=doms l) g (ns.getD i zN).1.toNat (by omega) ((ns.getD i zN).2.1.getD k 0)
   refine T.go ⟨k + 1,_,by omega,(cut_ok hg (by omega) _).1,hsb.trans hs2,fun r hr c hc=>(hs2.2 _).1 c (hh r hr c hc),fun j hj2=>?_,by rw [iAdd64 (by omega) (by omega)]; rfl⟩ (by dsimp only; rw [iAdd64 (by omega) (by omega)]; omega)
   rcases Nat.lt_or_ge j k with q | q
   ·exact (hs2.2 _).1 _ (hj j q)
   ·obtain rfl:j=k:=by omega
    exact cut_has g _ (by omega) _ hck.1 hck.2.1
  ·obtain rfl:k=(ns.getD i zN).2.1.length:=by omega
   refine T.out (show LQ _ _ _ _ (Sum.inl _) from ⟨⟨i + 1,g,by omega,hg,hsb,fun r hr c hcm=>?_,by rw [iAdd64 (by omega) (by omega)]; rfl⟩,by dsimp only; rw [iAdd64 (by omega) (by omega)]; omega⟩)
   rcases Nat.lt_or_ge r i with q | q
   ·exact hh r q c hcm
   ·obtain rfl:r=i:=by omega
    obtain ⟨j,hjl,rfl⟩:=List.getElem_of_mem hcm
    have:=hj j hjl
    rwa [getD_eq _ _ _ hjl] at this
 ·obtain rfl:i=ns.length:=by omega
  exact T.out ⟨hg,hsb,hh⟩
theorem cells_T (g:List (List Int)) (hl:g.length≤6) (hp:∀ r ∈ g,1≤r.length∧r.length≤2000000001):T (m47 g) (fun y=>(y.1≤8192→y.1=(prodL g:Int))∧(8192 < y.1→8192 < prodL g)):=by
 unfold m47
 have hG:=lenI_eq g
 have pd:∀ g':List (List Int),(∀ r ∈ g',1≤r.length)→1≤prodL g':=by
  intro g'
  induction g' with
  | nil=>intro _; simp [prodL]
  | cons r g' ih=>intro h; simp only [prodL]; exact Nat.mul_le_mul (h r (by simp)) (ih fun x hx=>h x (by simp [hx]))
 refine T.loop (fun q=>∃ (i n:Nat),i≤g.length∧((n≤8192∧n * prodL (g.drop i)=prodL g)∨(n=8193∧8192 < prodL g))∧q=(g,(n:Int),(i:Int),())) (fun q=>g.length - q.2.2.1.toNat) ⟨0,1,by omega,.inl ⟨by omega,by simp⟩,rfl⟩ ?_
 rintro _ ⟨i,n,hi,hn,rfl⟩
 dsimp only
 rw [hG,atI_getD]
 refine T.cnd (fun hc2=>?_) (fun hc2=>?_) <;> simp only [iLt_T,iLt_F] at hc2
 ·have hil:i < g.length:=by omega
  rw [getD_eq _ _ _ hil,lenI_eq]
  have hpi:=hp _ (List.getElem_mem hil)
  have h1:1≤prodL (g.drop (i + 1)):=pd _ fun r hr=>(hp r (List.mem_of_mem_drop hr)).1
  have hn8:n≤8193:=by omega
  have hub:n * g[i].length≤8193 * 2000000001:=Nat.mul_le_mul hn8 hpi.2
  have e:((n:Int) * (g[i].length:Int))=((n * g[i].length:Nat):Int):=by push_cast; rfl
  refine T.grd (by rw [bnd_T]; omega) (T.go ⟨i + 1,min (n * g[i].length) 8193,by omega,?_,?_⟩ (by dsimp only; rw [iAdd64 (by omega) (by omega)]; omega))
  ·rcases hn with ⟨a,b⟩ | ⟨a,b⟩
   ·rw [prod_drop g i hil,← Nat.mul_assoc] at b
    rcases Nat.lt_or_ge (n * g[i].length) 8193 with q | q
    ·left; rw [Nat.min_eq_left (by omega)]; exact ⟨by omega,b⟩
    ·right
     refine ⟨by omega,?_⟩
     have:n * g[i].length * 1≤n * g[i].length * prodL (g.drop (i + 1)):=Nat.mul_le_mul (Nat.le_refl _) h1
     omega
   ·right
    subst a
    have:8193 * 1≤8193 * g[i].length:=Nat.mul_le_mul (Nat.le_refl _) hpi.1
    exact ⟨by omega,b⟩
  ·rw [iAdd64 (by omega) (by omega),iMul64 (by omega) (by omega),e]
   unfold iMin
   have:min ((n * g[i].length:Nat):Int) 8193=((min (n * g[i].length) 8193:Nat):Int):=by omega
   rw [this]; rfl
 ·obtain rfl:i=g.length:=by omega
  refine T.out ?_
  rw [List.drop_length] at hn
  simp only [prodL,Nat.mul_one] at hn
  dsimp only
  omega
def atS (g:List (List Int)) (k:Nat):List Int:=(List.range g.length).map fun t=>(g.getD t []).getD ((k / prodL (g.drop (t + 1))) % (g.getD t []).length) 0
theorem atS_len (g:List (List Int)) (k:Nat):(atS g k).length=g.length:=by simp [atS]
theorem atS_get (g:List (List Int)) (k t:Nat) (h:t < g.length):(atS g k).getD t 0=(g.getD t []).getD ((k / prodL (g.drop (t + 1))) % (g.getD t []).length) 0:=by
 rw [getD_eq _ _ _ (by rw [atS_len]; exact h)]; simp [atS]
theorem at_m (g:List (List Int)) (hl:g.length≤6) (hp:∀ r ∈ g,1≤r.length∧r.length≤2000000001) (k:Nat) (hk:k≤8192):m52 g (k:Int)=some (atS g k,()):=by
 refine T.eq ?_
 unfold m52
 have hG:=lenI_eq g
 rw [hG]
 refine T.grd (by rw [fitsI_T]; omega) ?_
 rw [Int.toNat_natCast]
 refine T.loop (fun q=>∃ (j:Nat) (f:List Int),j≤g.length∧f.length=g.length∧(∀ t,j≤t→t < g.length→f.getD t 0=(atS g k).getD t 0)∧q=(g,((k / prodL (g.drop j):Nat):Int),(j:Int) - 1,f,())) (fun q=>(q.2.2.1 + 1).toNat) ⟨g.length,List.replicate g.length 0,by omega,by simp,fun t a b=>by omega,?_⟩ ?_
 ·rw [List.drop_length,iSub64 (by omega) (by omega)]; simp [prodL]
 rintro _ ⟨j,f,hj,hf,hg,rfl⟩
 dsimp only
 have hfI:=lenI_eq f
 rw [hG,hfI]
 refine T.cnd (fun hc=>?_) (fun hc=>?_) <;> simp only [iLe_T,iLe_F] at hc
 ·obtain ⟨t,rfl⟩:∃ t,j=t + 1:=⟨j - 1,by omega⟩
  have e1:((t + 1:Nat):Int) - 1=(t:Int):=by omega
  have htl:t < g.length:=by omega
  rw [e1,atI_getD,getD_eq _ _ _ htl]
  have hpi:=hp _ (List.getElem_mem htl)
  have hR:=lenI_eq g[t]
  rw [hR]
  generalize hm:k / prodL (g.drop (t + 1))=m
  have hmk:m≤8192:=by rw [← hm]; exact Nat.le_trans (Nat.div_le_self _ _) hk
  have er:iRem (m:Int) (g[t].length:Int)=((m % g[t].length:Nat):Int):=by
   rw [iRem_pos (by omega)]; omega
  have eq1:iQuo .i64 (m:Int) (g[t].length:Int)=((m / g[t].length:Nat):Int):=by
   unfold iQuo
   have hle:m / g[t].length≤m:=Nat.div_le_self _ _
   have hle0:(0:Int)≤((m / g[t].length:Nat):Int):=Int.natCast_nonneg _
   rw [Int.tdiv_eq_ediv_of_nonneg (by omega),← Int.natCast_ediv,wrap64 (by omega) (by omega)]
  have hml:m % g[t].length < g[t].length:=Nat.mod_lt _ (by omega)
  have b1:bnd (t:Int) (g.length:Int)=true:=by rw [bnd_T]; omega
  rw [er,eq1,atI_getD,Int.toNat_natCast]
  refine T.grd b1 (T.grd b1 (T.grd (by rw [iNe_T]; omega) (T.grd (by rw [bnd_T]; omega) (T.grd (by rw [bnd_T]; omega) (T.grd (by rw [inB_T]; omega) (T.grd b1 (T.grd (by rw [iNe_T]; omega) ?_)))))))
  refine T.go ⟨t,f.set t (g[t].getD (m % g[t].length) 0),by omega,by rw [List.length_set]; exact hf,fun u h1 h2=>?_,?_⟩ ?_
  ·rw [set_getD f t u _ _ (by omega)]
   split
   ·rename_i e; subst e
    rw [atS_get g k t htl,hm,getD_eq g t [] htl]
   ·exact hg u (by omega) h2
  ·rw [iSub64 (by omega) (by omega),prod_drop g t htl,Nat.mul_comm,← Nat.div_div_eq_div_mul,hm]
  ·dsimp only; rw [iSub64 (by omega) (by omega)]; omega
 ·obtain rfl:j=0:=by omega
  refine T.out ?_
  congr 1
  apply List.ext_getElem (by rw [hf,atS_len])
  intro t h1 h2
  have:=hg t (by omega) (by omega)
  rwa [getD_eq _ _ _ h1,getD_eq _ _ _ h2] at this
theorem times_r {a b:Int} (ha:0≤a∧a≤17592186044416) (hb:0≤b∧b≤4611686018427387904):m54 a b=some (sat (a * b),()):=by
 have h0:0≤a * b:=Int.mul_nonneg ha.1 hb.1
 refine T.eq ?_
 unfold m54
 have hq:0 < b→iQuo .i64 17592186044416 b=17592186044416 / b:=fun q=>by
  unfold iQuo
  rw [Int.tdiv_eq_ediv_of_nonneg (by omega),wrap64]
  ·have:=Int.ediv_nonneg (show (0:Int)≤17592186044416 by omega) hb.1; omega
  ·have:=Int.ediv_le_self b (show (0:Int)≤17592186044416 by omega); omega
 refine T.grd ?_ (T.cnd (fun hc=>?_) (fun hc=>?_))
 ·rw [or_T,iNe_T,not_T,bEqT_F,iLt_F]; omega
 ·rw [candF_T,iLt_T,iLt_T] at hc
  rw [hq hc.1] at hc
  refine T.ret ?_
  have h1:17592186044416 < a * b:=(Int.ediv_lt_iff_lt_mul hc.1).1 hc.2
  unfold sat
  rw [Int.min_eq_right (by omega)]
 ·rw [candF_F,iLt_F,iLt_F] at hc
  have h1:a * b≤17592186044416:=by
   rcases Int.lt_or_le 0 b with q | q
   ·rw [hq q] at hc
    rcases hc with r | r
    ·omega
    ·exact (Int.le_ediv_iff_mul_le q).1 r
   ·obtain rfl:b=0:=by omega
    simp
  refine T.ret ?_
  rw [iMul64 (by omega) (by omega)]
  rfl
def cw (hi:Int) (r:List Int) (c:Nat):Int:=(if c + 1 < r.length then r.getD (c + 1) 0 else hi + 1) - r.getD c 0
def widS (dm:List DS3):Nat→List (List Int)→Nat→Int
 | _,[],_=>1
 | i,r :: g,k=>cw (dm.getD i zS).2.1 r ((k / prodL g) % r.length) * widS dm (i + 1) g k
theorem cw_pos {lo hi:Int} {r:List Int} (h:RowOk lo hi r) (hb:lo≤hi) {c:Nat} (hc:c < r.length):1≤cw hi r c∧cw hi r c≤hi - lo + 1:=by
 have h1:=(row_lo h).2 c hc
 have h2:r.getD c 0≤hi:=by
  rcases Nat.eq_zero_or_pos c with rfl | q
  ·rw [(row_lo h).1]; exact hb
  ·exact (row_at h c q hc).2.1
 unfold cw
 split
 ·rename_i q
  have:=row_at h (c + 1) (by omega) q
  rw [Nat.add_sub_cancel] at this
  omega
 ·omega
theorem widS_nn {dm:List DS3} (hd:DmOk dm):∀ (g:List (List Int)) (i:Nat),i + g.length=dm.length→(∀ t,t < g.length→RowOk (dm.getD (i + t) zS).1 (dm.getD (i + t) zS).2.1 (g.getD t []))→∀ k,1≤widS dm i g k:=by
 intro g
 induction g with
 | nil=>intro i _ _ k; simp [widS]
 | cons r g ih =>
  intro i hi hr k
  simp only [widS]
  have h0:=hr 0 (by simp)
  simp only [Nat.add_zero,List.getD_cons_zero] at h0
  have hb:=(hd.at (i:=i) (by simp at hi; omega)).1
  have h1:=(cw_pos h0 hb (c:=(k / prodL g) % r.length) (Nat.mod_lt _ h0.pos)).1
  have h2:=ih (i + 1) (by simp at hi; omega) (fun t ht=>by
   have:=hr (t + 1) (by simp; omega)
   rw [show i + (t + 1)=i + 1 + t by omega] at this
   simpa using this) k
  have:1 * 1≤cw (dm.getD i zS).2.1 r ((k / prodL g) % r.length) * widS dm (i + 1) g k:=Int.mul_le_mul h1 h2 (by omega) (by omega)
  omega
theorem width_m (l:List DS0) (hv:valS l=0) (g:List (List Int)) (hg:GOk (doms l) g) (k:Nat) (hk:k≤8192):m53 (l,()) g (k:Int)=some (sat (widS (doms l) 0 g k),()):=by
 refine T.eq ?_
 unfold m53
 have hd:=doms_ok hv
 have hd2:=hd.2.1
 have hdl:=doms_len l
 have hgd:=hg.1
 have hG:=lenI_eq g
 have wn:∀ j,j≤g.length→1≤widS (doms l) j (g.drop j) k:=fun j hj=>widS_nn hd (g.drop j) j (by rw [List.length_drop]; omega) (fun t ht=>by
  rw [List.length_drop] at ht
  have:=hg.2 (j + t) (by omega)
  rw [List.getD_eq_getElem?_getD (l:=g.drop j),List.getElem?_drop,← List.getD_eq_getElem?_getD]
  exact this) k
 refine T.loop (fun q=>∃ j:Nat,j≤g.length∧q=(g,((k / prodL (g.drop j):Nat):Int),sat (widS (doms l) j (g.drop j) k),(j:Int) - 1,l,())) (fun q=>(q.2.2.2.1 + 1).toNat) ⟨g.length,by omega,?_⟩ ?_
 ·rw [List.drop_length,hG,iSub64 (by omega) (by omega)]; simp [prodL,widS,sat]; omega
 rintro _ ⟨j,hj,rfl⟩
 dsimp only
 rw [hG]
 refine T.cnd (fun hc=>?_) (fun hc=>?_) <;> simp only [iLe_T,iLe_F] at hc
 ·obtain ⟨t,rfl⟩:∃ t,j=t + 1:=⟨j - 1,by omega⟩
  have e1:((t + 1:Nat):Int) - 1=(t:Int):=by omega
  have htl:t < g.length:=by omega
  have htd:t < l.length:=by omega
  rw [e1,atI_getD,getD_eq _ _ _ htl]
  have hrow:=hg.row htl
  have hpi:=hg.len hd _ (List.getElem_mem htl)
  have hR:=lenI_eq g[t]
  rw [hR]
  have hw1:=wn (t + 1) (by omega)
  have edr:widS (doms l) t (g.drop t) k=cw ((doms l).getD t zS).2.1 g[t] ((k / prodL (g.drop (t + 1))) % g[t].length) * widS (doms l) (t + 1) (g.drop (t + 1)) k:=by
   rw [List.drop_eq_getElem_cons htl]; simp only [widS]
  have edv:k / prodL (g.drop (t + 1)) / g[t].length=k / prodL (g.drop t):=by rw [prod_drop g t htl,Nat.mul_comm,← Nat.div_div_eq_div_mul]
  generalize hm:k / prodL (g.drop (t + 1))=m at edr edv
  have hmk:m≤8192:=by rw [← hm]; exact Nat.le_trans (Nat.div_le_self _ _) hk
  have er:iRem (m:Int) (g[t].length:Int)=((m % g[t].length:Nat):Int):=by
   rw [iRem_pos (by omega)]; omega
  have eq1:iQuo .i64 (m:Int) (g[t].length:Int)=((m / g[t].length:Nat):Int):=by
   unfold iQuo
   have hle:m / g[t].length≤m:=Nat.div_le_self _ _
   have hle0:(0:Int)≤((m / g[t].length:Nat):Int):=Int.natCast_nonneg _
   rw [Int.tdiv_eq_ediv_of_nonneg (by omega),← Int.natCast_ediv,wrap64 (by omega) (by omega)]
  have hml:m % g[t].length < g[t].length:=Nat.mod_lt _ (by omega)
  have b1:bnd (t:Int) (g.length:Int)=true:=by rw [bnd_T]; omega
  have ea1:iAdd .i64 ((m % g[t].length:Nat):Int) 1=((m % g[t].length + 1:Nat):Int):=by rw [iAdd64 (by omega) (by omega)]; omega
  rw [er,eq1,ea1,atI_getD,atI_getD]
  have hdt:=doms_get l t htd
  have hb:=hd.at (i:=t) (by omega)
  have hcw:=cw_pos hrow hb.1 hml
  have hrl:=(row_lo hrow).2 _ hml
  have hrh:g[t].getD (m % g[t].length) 0≤((doms l).getD t zS).2.1:=by
   rcases Nat.eq_zero_or_pos (m % g[t].length) with q | q
   ·rw [q,(row_lo hrow).1]; exact hb.1
   ·exact (row_at hrow _ q hml).2.1
  have fin:T (m54 (sat (widS (doms l) (t + 1) (g.drop (t + 1)) k)) (cw ((doms l).getD t zS).2.1 g[t] (m % g[t].length))) (fun y=>y=(sat (widS (doms l) t (g.drop t) k),())):=by
   refine ⟨_,times_r (sat_nn (by omega)) ⟨by omega,by omega⟩,?_⟩
   rw [sat_mul (by omega) (by omega),edr,Int.mul_comm]
  refine T.grd b1 (T.grd (by rw [iNe_T]; omega) (T.grd b1 (T.grd (by rw [iNe_T]; omega) (T.callE (dom_r l t htd hv) (T.grd b1 (T.cnd (fun hc2=>?_) (fun hc2=>?_))))))) <;> simp only [iLt_T,iLt_F] at hc2
  ·have hnx:=row_at hrow (m % g[t].length + 1) (by omega) (by omega)
   have ew:iSub .i64 (g[t].getD (m % g[t].length + 1) 0) (g[t].getD (m % g[t].length) 0)=cw ((doms l).getD t zS).2.1 g[t] (m % g[t].length):=by
    unfold cw
    rw [if_pos (by omega),iSub64 (by omega) (by omega)]
   rw [ew]
   refine T.grd b1 (T.grd (by rw [bnd_T]; omega) (T.grd b1 (T.grd (by rw [bnd_T]; omega) (T.call fin ?_))))
   rintro _ rfl
   refine T.go ⟨t,by omega,?_⟩ (by dsimp only; rw [iSub64 (by omega) (by omega)]; omega)
   rw [iSub64 (by omega) (by omega),edv]
  ·have ew:iSub .i64 (iAdd .i64 (domS l[t]).2 1) (g[t].getD (m % g[t].length) 0)=cw ((doms l).getD t zS).2.1 g[t] (m % g[t].length):=by
    unfold cw
    rw [if_neg (by omega),show (domS l[t]).2=((doms l).getD t zS).2.1 by rw [hdt],iAdd64 (by omega) (by omega),iSub64 (by omega) (by omega)]
   dsimp only
   rw [ew]
   refine T.grd b1 (T.grd (by rw [bnd_T]; omega) (T.call fin ?_))
   rintro _ rfl
   refine T.go ⟨t,by omega,?_⟩ (by dsimp only; rw [iSub64 (by omega) (by omega)]; omega)
   rw [iSub64 (by omega) (by omega),edv]
 ·obtain rfl:j=0:=by omega
  exact T.out rfl
end Abs
end Go.Proofs.YtgfnhpadmifiiaaDoor
section
namespace Go.Proofs.YtgfnhpadmifiiaaDoor
namespace Abs
def brK:List Int→Int→Nat
 | [],_=>0
 | c :: cs,v=>if c≤v then brK cs v + 1 else 0
theorem brK_eq:∀ (cs:List Int) (v:Int) (k:Nat),k≤cs.length→(∀ j,j < k→cs.getD j 0≤v)→(k=cs.length∨v < cs.getD k 0)→brK cs v=k:=by
 intro cs
 induction cs with
 | nil=>intro v k h _ _; simp at h; subst h; rfl
 | cons c cs ih =>
  intro v k hk h1 h2
  simp only [brK]
  cases k with
  | zero =>
   rcases h2 with q | q
   ·cases q
   ·rw [if_neg (by simpa using q)]
  | succ k =>
   have:=h1 0 (by omega)
   rw [if_pos (by simpa using this),ih v k (by simpa using hk) (fun j hj=>by have:=h1 (j + 1) (by omega); simpa using this) (by rcases h2 with q | q; left; simpa using q; right; simpa using q)]
theorem brK_le:∀ (cs:List Int) (v:Int),brK cs v≤cs.length:=by
 intro cs
 induction cs with
 | nil=>intro v; exact Nat.le_refl _
 | cons c cs ih=>intro v; simp only [brK]; split; have:=ih v; simp; omega; simp
def vlF (ns:List DS1):Nat→Int→List Int→Int
 | 0,r,_=>-1 - r
 | f + 1,r,fs=>if r < 0 then -1 - r else vlF ns f ((kids ns r.toNat).getD (brK (ns.getD r.toNat zN).2.1 (fs.getD (ns.getD r.toNat zN).1.toNat 0)) 0) fs
theorem vlF_neg (ns:List DS1) (f:Nat) {r:Int} (h:r < 0) (fs:List Int):vlF ns f r fs=-1 - r:=by
 cases f with
 | zero=>rfl
 | succ f=>simp only [vlF]; rw [if_pos h]
theorem vlF_node (ns:List DS1) (f:Nat) {r:Int} (h:0≤r) (fs:List Int):vlF ns (f + 1) r fs=vlF ns f ((kids ns r.toNat).getD (brK (ns.getD r.toNat zN).2.1 (fs.getD (ns.getD r.toNat zN).1.toNat 0)) 0) fs:=by
 simp only [vlF]; rw [if_neg (by omega)]
section
variable {dm:List DS3} {ns:List DS1}
theorem kid_at (hs:AllS dm ns) {r:Nat} (hr:r < ns.length) (v:Int):brK (ns.getD r zN).2.1 v < (kids ns r).length:=by
 have:=brK_le (ns.getD r zN).2.1 v
 have h4:=(hs r hr).2.2.2.1
 have:(kids ns r).length=(ns.getD r zN).2.1.length + 1:=h4
 omega
theorem kid_ref (hs:AllS dm ns) {r:Nat} (hr:r < ns.length) {k:Nat} (hk:k < (kids ns r).length):RefOk ns.length ((kids ns r).getD k 0):=((hs r hr).2.2.2.2.2 k hk).1
theorem kid_rk (hd:DmOk dm) (hs:AllS dm ns) {r:Nat} (hr:r < ns.length) {k:Nat} (hk:k < (kids ns r).length):rkI (rkA ns) ((kids ns r).getD k 0)≤rkA ns r:=by
 have hk2:=((rkA_ok hd hs).1 r hr).2 _ (List.getElem_mem hk)
 rw [getD_eq _ _ _ hk]
 unfold rkI
 split
 ·omega
 ·exact hk2.2 (by omega)
theorem vlF_stable (hd:DmOk dm) (hs:AllS dm ns):∀ (m f f':Nat) (r:Int) (fs:List Int),rkI (rkA ns) r≤m→m≤f→m≤f'→r < (ns.length:Int)→vlF ns f r fs=vlF ns f' r fs:=by
 intro m
 induction m with
 | zero =>
  intro f f' r fs h _ _ _
  have:r < 0:=by unfold rkI at h; split at h; assumption; omega
  rw [vlF_neg ns f this,vlF_neg ns f' this]
 | succ m ih =>
  intro f f' r fs h h1 h2 hr
  rcases Int.lt_or_le r 0 with q | q
  ·rw [vlF_neg ns f q,vlF_neg ns f' q]
  obtain ⟨g,rfl⟩:∃ g,f=g + 1:=⟨f - 1,by omega⟩
  obtain ⟨g',rfl⟩:∃ g',f'=g' + 1:=⟨f' - 1,by omega⟩
  rw [vlF_node ns g q,vlF_node ns g' q]
  have hrt:r.toNat < ns.length:=by omega
  have hk:=kid_at hs hrt (fs.getD (ns.getD r.toNat zN).1.toNat 0)
  unfold rkI at h
  rw [if_neg (by omega)] at h
  exact ih g g' _ fs (Nat.le_trans (kid_rk hd hs hrt hk) (by omega)) (by omega) (by omega) (kid_ref hs hrt hk).2
theorem val_T (hd:DmOk dm) (hs:AllS dm ns) (root:Int) (hr:RefOk ns.length root) (hn:ns.length≤1000) (fs:List Int) (hf:fs.length=dm.length):m25 (ns,root,()) fs=some (vlF ns 9 root fs,()):=by
 refine T.eq ?_
 unfold m25
 have hN:=lenI_eq ns
 have hF:=lenI_eq fs
 refine T.loop (fun q=>∃ (f:Nat) (r:Int),RefOk ns.length r∧rkI (rkA ns) r≤f∧vlF ns 9 root fs=vlF ns f r fs∧q=(fs,r,ns,root,())) (fun q=>rkI (rkA ns) q.2.1) ⟨9,root,hr,?_,rfl,rfl⟩ ?_
 ·unfold rkI
  split
  ·omega
  ·have:=(rkA_ok hd hs).2 root.toNat (by have:=hr.2; omega); omega
 rintro _ ⟨f,r,hr,hfr,hv,rfl⟩
 dsimp only
 rw [hN]
 refine T.cnd (fun hc=>?_) (fun hc=>?_) <;> simp only [iLe_T,iLe_F] at hc
 ·have hr2:=hr.2
  have hrt:r.toNat < ns.length:=by omega
  have hsr:=hs r.toNat hrt
  have h1:=hsr.1
  have h2:=hsr.2.1
  have h4:=hsr.2.2.2.1
  have hle:=hsr.len hd
  have eN:atI ns r (0,[],[],())=ns.getD r.toNat zN:=rfl
  have eK:(ns.getD r.toNat zN).2.2.1=kids ns r.toNat:=rfl
  have hC:=lenI_eq (ns.getD r.toNat zN).2.1
  have hK:=lenI_eq (kids ns r.toNat)
  have hkl:(kids ns r.toNat).length=(ns.getD r.toNat zN).2.1.length + 1:=h4
  have eA:atI fs (ns.getD r.toNat zN).1 0=fs.getD (ns.getD r.toNat zN).1.toNat 0:=rfl
  obtain ⟨f',rfl⟩:∃ f',f=f' + 1:=⟨f - 1,by unfold rkI at hfr; rw [if_neg (by omega)] at hfr; omega⟩
  rw [vlF_node ns f' hc] at hv
  rw [eN,eK]
  refine T.grd (by rw [bnd_T]; omega) ?_
  refine T.loop (fun q=>∃ k:Nat,k≤(ns.getD r.toNat zN).2.1.length∧(∀ j,j < k→(ns.getD r.toNat zN).2.1.getD j 0≤fs.getD (ns.getD r.toNat zN).1.toNat 0)∧q=(fs,(k:Int),ns,root,(ns.getD r.toNat zN).1,(ns.getD r.toNat zN).2.1,kids ns r.toNat,())) (fun q=>(ns.getD r.toNat zN).2.1.length - q.2.1.toNat) ⟨0,by omega,fun j hj=>by omega,rfl⟩ ?_
  rintro _ ⟨k,hk,hj,rfl⟩
  dsimp only
  rw [hC,hF,hK,eA,atI_getD,atI_getD]
  refine T.grd (by rw [or_T,bnd_T]; left; omega) (T.grd ?_ (T.cnd (fun hc2=>?_) (fun hc2=>?_)))
  ·rw [or_T,bnd_T,not_T,bEqT_F,iLt_F]; omega
  ·rw [candF_T,iLt_T,iLe_T] at hc2
   refine T.go ⟨k + 1,by omega,fun j hj2=>?_,by rw [iAdd64 (by omega) (by omega)]; rfl⟩ (by dsimp only; rw [iAdd64 (by omega) (by omega)]; omega)
   rcases Nat.lt_or_ge j k with q | q
   ·exact hj j q
   ·obtain rfl:j=k:=by omega
    exact hc2.2
  ·rw [candF_F,iLt_F,iLe_F] at hc2
   have hb:brK (ns.getD r.toNat zN).2.1 (fs.getD (ns.getD r.toNat zN).1.toNat 0)=k:=brK_eq _ _ k hk hj (by rcases hc2 with q | q; left; omega; right; exact q)
   have hkk:k < (kids ns r.toNat).length:=by omega
   have hrk:=kid_rk hd hs hrt hkk
   have hfr2:=hfr
   unfold rkI at hfr2
   rw [if_neg (by omega)] at hfr2
   refine T.mapL (T.grd (by rw [bnd_T]; omega) (T.ret (show LQ _ _ _ _ (Sum.inl _) from ⟨⟨f',_,kid_ref hs hrt hkk,by omega,by rw [hv,hb],rfl⟩,?_⟩)))
   show rkI (rkA ns) ((kids ns r.toNat).getD k 0) < rkI (rkA ns) r
   have:rkI (rkA ns) r=rkA ns r.toNat + 1:=by unfold rkI; rw [if_neg (by omega)]
   omega
 ·have hr1:=hr.1
  refine T.out ?_
  rw [hv,vlF_neg ns f hc,iSub64 (by omega) (by omega)]
end
theorem sumS_add (f:Nat→Int) (m:Nat):∀ n,sumS f (m + n)=sumS f m + sumS (fun k=>f (m + k)) n:=by
 intro n
 induction n with
 | zero=>simp [sumS]
 | succ n ih=>rw [← Nat.add_assoc]; simp only [sumS]; rw [ih]; omega
theorem sumS_front (f:Nat→Int) (n:Nat):sumS f (n + 1)=f 0 + sumS (fun k=>f (k + 1)) n:=by
 rw [Nat.add_comm,sumS_add]
 have:sumS f 1=f 0:=by simp [sumS]
 rw [this]
 congr 1
 exact sumS_congr n fun k _=>by rw [Nat.add_comm]
theorem sumS_prod (f:Nat→Int) (P:Nat):∀ n,sumS f (n * P)=sumS (fun c=>sumS (fun k=>f (c * P + k)) P) n:=by
 intro n
 induction n with
 | zero=>simp [sumS]
 | succ n ih=>rw [Nat.add_mul,Nat.one_mul,sumS_add,ih]; rfl
theorem sumS_mulL (a:Int) (f:Nat→Int):∀ n,sumS (fun k=>a * f k) n=a * sumS f n:=by
 intro n
 induction n with
 | zero=>simp [sumS]
 | succ n ih=>simp only [sumS]; rw [ih,Int.mul_add]
theorem sumS_mulR (a:Int) (f:Nat→Int):∀ n,sumS (fun k=>f k * a) n=sumS f n * a:=by
 intro n
 induction n with
 | zero=>simp [sumS]
 | succ n ih=>simp only [sumS]; rw [ih,Int.add_mul]
theorem sumS_plus (f g:Nat→Int):∀ n,sumS (fun k=>f k + g k) n=sumS f n + sumS g n:=by
 intro n
 induction n with
 | zero=>simp [sumS]
 | succ n ih=>simp only [sumS]; rw [ih]; omega
def wS (hi:Int) (φ:Int→Int):List Int→Int
 | []=>0
 | [x]=>(hi + 1 - x) * φ x
 | x :: y :: t=>(y - x) * φ x + wS hi φ (y :: t)
theorem wS_sum (hi:Int) (φ:Int→Int):∀ r:List Int,sumS (fun c=>cw hi r c * φ (r.getD c 0)) r.length=wS hi φ r:=by
 intro r
 induction r with
 | nil=>rfl
 | cons x t ih =>
  cases t with
  | nil=>simp [sumS,cw,wS]
  | cons y t =>
   rw [List.length_cons,sumS_front]
   simp only [wS]
   rw [← ih]
   have e1:cw hi (x :: y :: t) 0 * φ ((x :: y :: t).getD 0 0)=(y - x) * φ x:=by simp [cw]
   have e2:sumS (fun k=>cw hi (x :: y :: t) (k + 1) * φ ((x :: y :: t).getD (k + 1) 0)) (y :: t).length=sumS (fun c=>cw hi (y :: t) c * φ ((y :: t).getD c 0)) (y :: t).length:=sumS_congr _ fun k hk=>by
    have e3:cw hi (x :: y :: t) (k + 1)=cw hi (y :: t) k:=by
     unfold cw
     have e4:(if k + 1 + 1 < (x :: y :: t).length then (x :: y :: t).getD (k + 1 + 1) 0 else hi + 1)=(if k + 1 < (y :: t).length then (y :: t).getD (k + 1) 0 else hi + 1):=by
      by_cases q:k + 1 < (y :: t).length
      ·rw [if_pos q,if_pos (show k + 1 + 1 < (x :: y :: t).length by simp only [List.length_cons] at q ⊢; omega)]; rfl
      ·rw [if_neg q,if_neg (show ¬ k + 1 + 1 < (x :: y :: t).length by simp only [List.length_cons] at q ⊢; omega)]
     rw [e4]; rfl
    rw [e3]; rfl
   rw [e1,e2]
theorem wS_congr (hi:Int) {φ φ':Int→Int}:∀ r:List Int,(∀ v ∈ r,φ v=φ' v)→wS hi φ r=wS hi φ' r:=by
 intro r
 induction r with
 | nil=>intro _; rfl
 | cons x t ih =>
  intro h
  cases t with
  | nil=>simp only [wS]; rw [h x (by simp)]
  | cons y t=>simp only [wS]; rw [h x (by simp),ih (fun v hv=>h v (by simp [hv]))]
def rS (hi:Int) (ψ:Nat→Int):List Int→Nat→Int→Int
 | [],j,x=>(hi + 1 - x) * ψ j
 | c :: cs,j,x=>(c - x) * ψ j + rS hi ψ cs (j + 1) c
theorem group (hi:Int) (ψ:Nat→Int):∀ (t:List Int) (x:Int) (cs:List Int) (j:Nat),(x :: t).Pairwise (· < ·)→cs.Pairwise (· < ·)→(∀ c ∈ cs,x < c∧c ∈ t)→wS hi (fun v=>ψ (j + brK cs v)) (x :: t)=rS hi ψ cs j x:=by
 intro t
 induction t with
 | nil =>
  intro x cs j _ _ h
  cases cs with
  | nil=>simp [wS,rS,brK]
  | cons c cs=>have:=(h c (by simp)).2; cases this
 | cons y t ih =>
  intro x cs j hp hc h
  obtain ⟨hx,hp2⟩:=List.pairwise_cons.1 hp
  obtain ⟨hy,_⟩:=List.pairwise_cons.1 hp2
  have hxy:=hx y (by simp)
  simp only [wS]
  cases cs with
  | nil =>
   have:=ih y [] j hp2 List.Pairwise.nil (fun c hc=>by cases hc)
   rw [this]
   simp only [brK,rS,Nat.add_zero]
   rw [← Int.add_mul]; congr 1; omega
  | cons c cs =>
   obtain ⟨hcs,hc2⟩:=List.pairwise_cons.1 hc
   have h0:=h c (by simp)
   have e0:brK (c :: cs) x=0:=by simp only [brK]; rw [if_neg (by omega)]
   rw [e0,Nat.add_zero]
   simp only [rS]
   rcases List.mem_cons.1 h0.2 with e | q
   ·subst e
    congr 1
    rw [← ih c cs (j + 1) hp2 hc2 (fun d hd=>⟨hcs d hd,by
     rcases List.mem_cons.1 (h d (by simp [hd])).2 with r | r
     ·have:=hcs d hd; omega
     ·exact r⟩)]
    refine wS_congr hi _ fun v hv=>?_
    have:c≤v:=by
     rcases List.mem_cons.1 hv with r | r
     ·omega
     ·have:=hy v r; omega
    simp only [brK]
    rw [if_pos this]
    congr 1; omega
   ·have hcy:=hy c q
    rw [ih y (c :: cs) j hp2 hc (fun d hd=>by
     have h1:y < d:=by
      rcases List.mem_cons.1 hd with r | r
      ·omega
      ·have:=hcs d r; omega
     refine ⟨h1,?_⟩
     rcases List.mem_cons.1 (h d hd).2 with r | r
     ·omega
     ·exact r)]
    simp only [rS]
    rw [← Int.add_assoc,← Int.add_mul]
    congr 2; omega
theorem rS_sum (hi:Int) (ψ:Nat→Int):∀ (cs:List Int) (j:Nat) (x:Int),rS hi ψ cs j x=sumS (fun k=>ψ (j + k) * ((if k < cs.length then cs.getD k 0 else hi + 1) - (if k=0 then x else cs.getD (k - 1) 0))) (cs.length + 1):=by
 intro cs
 induction cs with
 | nil=>intro j x; simp [rS,sumS]; rw [Int.mul_comm]
 | cons c cs ih =>
  intro j x
  simp only [rS]
  rw [List.length_cons,sumS_front,ih]
  have e0:ψ (j + 0) * ((if 0 < cs.length + 1 then (c :: cs).getD 0 0 else hi + 1) - (if (0:Nat)=0 then x else (c :: cs).getD (0 - 1) 0))=(c - x) * ψ j:=by
   rw [if_pos (show 0 < cs.length + 1 by omega),if_pos rfl,Nat.add_zero,List.getD_cons_zero,Int.mul_comm]
  rw [e0]
  congr 1
  refine sumS_congr _ fun k hk=>?_
  rw [show j + 1 + k=j + (k + 1) by omega]
  have a1:(if k + 1 < cs.length + 1 then (c :: cs).getD (k + 1) 0 else hi + 1)=(if k < cs.length then cs.getD k 0 else hi + 1):=by
   by_cases q:k < cs.length
   ·rw [if_pos q,if_pos (show k + 1 < cs.length + 1 by omega)]; rfl
   ·rw [if_neg q,if_neg (show ¬ k + 1 < cs.length + 1 by omega)]
  have a2:(if k + 1=0 then x else (c :: cs).getD (k + 1 - 1) 0)=(if k=0 then c else cs.getD (k - 1) 0):=by
   rw [if_neg (show ¬ k + 1=0 by omega)]
   cases k with
   | zero=>rfl
   | succ m=>rfl
  rw [a1,a2]
theorem row_sum {lo hi:Int} {r:List Int} (hr:RowOk lo hi r) (cs:List Int) (hc:cs.Pairwise (· < ·)) (hm:∀ c ∈ cs,lo < c∧c ∈ r) (ψ:Nat→Int):sumS (fun c=>cw hi r c * ψ (brK cs (r.getD c 0))) r.length=sumS (fun k=>ψ k * ((if k < cs.length then cs.getD k 0 else hi + 1) - (if k=0 then lo else cs.getD (k - 1) 0))) (cs.length + 1):=by
 obtain ⟨a,b,_⟩:=hr
 cases r with
 | nil=>cases a
 | cons x t =>
  obtain rfl:=Option.some.inj a
  rw [wS_sum hi (fun v=>ψ (brK cs v))]
  have h1:=group hi ψ t x cs 0 b hc (fun c hcc=>⟨(hm c hcc).1,by
   rcases List.mem_cons.1 (hm c hcc).2 with q | q
   ·have:=(hm c hcc).1; omega
   ·exact q⟩)
  simp only [Nat.zero_add] at h1
  rw [h1,rS_sum]
  simp only [Nat.zero_add]
theorem row_all {lo hi:Int} {r:List Int} (hr:RowOk lo hi r) (a:Int):sumS (fun c=>cw hi r c * a) r.length=(hi + 1 - lo) * a:=by
 have:=row_sum hr [] List.Pairwise.nil (fun c h=>by cases h) (fun _=>a)
 refine Eq.trans this ?_
 simp [sumS,Int.mul_comm]
theorem atS_cons (r:List Int) (g:List (List Int)) (k:Nat):atS (r :: g) k=r.getD ((k / prodL g) % r.length) 0 :: atS g k:=by
 unfold atS
 rw [List.length_cons,List.range_succ_eq_map,List.map_cons,List.map_map]
 congr 1
theorem atS_shift:∀ (g:List (List Int)),(∀ r ∈ g,1≤r.length)→∀ c k,atS g (c * prodL g + k)=atS g k:=by
 intro g
 induction g with
 | nil=>intro _ c k; rfl
 | cons r g ih =>
  intro h c k
  have hr:=h r (by simp)
  have hp:1≤prodL g:=by
   have:∀ g':List (List Int),(∀ r ∈ g',1≤r.length)→1≤prodL g':=by
    intro g'
    induction g' with
    | nil=>intro _; simp [prodL]
    | cons r g' ih=>intro h; simp only [prodL]; exact Nat.mul_le_mul (h r (by simp)) (ih fun x hx=>h x (by simp [hx]))
   exact this g fun x hx=>h x (by simp [hx])
  rw [atS_cons,atS_cons]
  simp only [prodL]
  have e:c * (r.length * prodL g) + k=(c * r.length) * prodL g + k:=by rw [Nat.mul_assoc]
  rw [e,ih (fun x hx=>h x (by simp [hx])),Nat.add_comm,Nat.add_mul_div_right _ _ (by omega),Nat.add_comm,Nat.mul_comm c,Nat.mul_add_mod]
theorem widS_shift (dm:List DS3):∀ (g:List (List Int)) (i:Nat),(∀ r ∈ g,1≤r.length)→∀ c k,widS dm i g (c * prodL g + k)=widS dm i g k:=by
 intro g
 induction g with
 | nil=>intro i _ c k; rfl
 | cons r g ih =>
  intro i h c k
  have hp:1≤prodL g:=by
   have:∀ g':List (List Int),(∀ r ∈ g',1≤r.length)→1≤prodL g':=by
    intro g'
    induction g' with
    | nil=>intro _; simp [prodL]
    | cons r g' ih=>intro h; simp only [prodL]; exact Nat.mul_le_mul (h r (by simp)) (ih fun x hx=>h x (by simp [hx]))
   exact this g fun x hx=>h x (by simp [hx])
  simp only [widS,prodL]
  have e:c * (r.length * prodL g) + k=(c * r.length) * prodL g + k:=by rw [Nat.mul_assoc]
  rw [e,ih (i + 1) (fun x hx=>h x (by simp [hx])),Nat.add_comm,Nat.add_mul_div_right _ _ (by omega),Nat.add_comm,Nat.mul_comm c,Nat.mul_add_mod]
theorem digit {c k P n:Nat} (hk:k < P) (hc:c < n):(c * P + k) / P % n=c:=by
 rw [Nat.add_comm,Nat.add_mul_div_right _ _ (by omega),Nat.div_eq_of_lt hk,Nat.zero_add,Nat.mod_eq_of_lt hc]
theorem prodW_step {dm:List DS3} {a b:Nat} (h:a < b) (hb:b≤dm.length):prodW dm a b=wid (dm.getD a zS) * prodW dm (a + 1) b:=by
 unfold prodW
 have hl:a < (dm.take b).length:=by rw [List.length_take]; omega
 rw [List.drop_eq_getElem_cons hl,List.foldl_cons,fold_mul,Int.one_mul,List.getElem_take,getD_eq _ _ _ (by omega)]
theorem prodW_same (dm:List DS3) (a:Nat):prodW dm a a=1:=by
 unfold prodW
 rw [List.drop_of_length_le (by rw [List.length_take]; omega)]; rfl
theorem cuts_sorted {dm:List DS3} {ns:List DS1} {x:DS1} (h:SoundN dm ns x):x.2.1.Pairwise (· < ·):=by
 rw [List.pairwise_iff_getElem]
 have key:∀ d i,i + d + 1 < x.2.1.length→x.2.1.getD i 0 < x.2.1.getD (i + d + 1) 0:=by
  intro d
  induction d with
  | zero=>intro i hi; have:=(h.2.2.2.2.1 (i + 1) (by omega)).2.2 (by omega); rwa [Nat.add_sub_cancel] at this
  | succ d ih =>
   intro i hi
   have h1:=ih i (by omega)
   have h2:=(h.2.2.2.2.1 (i + d + 1 + 1) (by omega)).2.2 (by omega)
   rw [Nat.add_sub_cancel] at h2
   have:i + (d + 1) + 1=i + d + 1 + 1:=by omega
   rw [this]; omega
 intro i j hi hj hij
 have:=key (j - i - 1) i (by omega)
 rw [show i + (j - i - 1) + 1=j by omega,getD_eq _ _ _ hi,getD_eq _ _ _ hj] at this
 exact this
theorem cells_sum {dm:List DS3} {ns:List DS1} {g:List (List Int)} {leaf:Int} (hd:DmOk dm) (hs:AllS dm ns) (hg:GOk dm g) (hh:Has ns ns.length g):∀ (n i:Nat) (pre:List Int) (r:Int),i + n=dm.length→pre.length=i→i≤lvl dm ns r→RefOk ns.length r →
  sumS (fun k=>if vlF ns 9 r (pre ++ atS (g.drop i) k)=leaf then widS dm i (g.drop i) k else 0) (prodL (g.drop i))=cntE dm ns leaf 9 r i:=by
 have hpos:∀ i,∀ r ∈ g.drop i,1≤r.length:=fun i r hr=>(hg.len hd r (List.mem_of_mem_drop hr)).1
 intro n
 induction n with
 | zero =>
  intro i pre r hi hp hl hr
  have hneg:r < 0:=by
   rcases Int.lt_or_le r 0 with q | q
   ·exact q
   ·unfold lvl at hl
    rw [if_neg (by omega)] at hl
    have h1:=(hs r.toNat (by have:=hr.2; omega)).2.1
    have h0:=(hs r.toNat (by have:=hr.2; omega)).1
    omega
  rw [List.drop_of_length_le (by have:=hg.1; omega)]
  simp only [prodL,sumS,widS,vlF_neg ns 9 hneg,cntE_leaf dm ns leaf 8 hneg]
  have:i=dm.length:=by omega
  rw [this,prodW_same]; split <;> omega
 | succ n ih =>
  intro i pre r hi hp hl hr
  have hgl:=hg.1
  have hig:i < g.length:=by omega
  have hrow:=hg.row hig
  have edr:g.drop i=g[i] :: g.drop (i + 1):=List.drop_eq_getElem_cons hig
  rw [edr]
  simp only [prodL]
  rw [sumS_prod]
  have inner:∀ (ρ:Int→Int),(∀ v,RefOk ns.length (ρ v))→(∀ v,i + 1≤lvl dm ns (ρ v))→(∀ c k,vlF ns 9 r (pre ++ (g[i].getD c 0 :: atS (g.drop (i + 1)) k))=vlF ns 9 (ρ (g[i].getD c 0)) ((pre ++ [g[i].getD c 0]) ++ atS (g.drop (i + 1)) k)) →
    sumS (fun c=>sumS (fun k=>if vlF ns 9 r (pre ++ atS (g[i] :: g.drop (i + 1)) (c * prodL (g.drop (i + 1)) + k))=leaf then widS dm i (g[i] :: g.drop (i + 1)) (c * prodL (g.drop (i + 1)) + k) else 0) (prodL (g.drop (i + 1)))) g[i].length
     = sumS (fun c=>cw (dm.getD i zS).2.1 g[i] c * cntE dm ns leaf 9 (ρ (g[i].getD c 0)) (i + 1)) g[i].length:=by
   intro ρ h1 h2 h3
   refine sumS_congr _ fun c hc=>?_
   rw [← ih (i + 1) (pre ++ [g[i].getD c 0]) (ρ (g[i].getD c 0)) (by omega) (by rw [List.length_append,hp]; rfl) (h2 _) (h1 _),← sumS_mulL]
   refine sumS_congr _ fun k hk=>?_
   rw [atS_cons,atS_shift _ (hpos (i + 1)),digit hk hc,h3 c k]
   simp only [widS]
   rw [widS_shift dm _ _ (hpos (i + 1)),digit hk hc]
   split
   ·rfl
   ·rw [Int.mul_zero]
  by_cases hlv:i + 1≤lvl dm ns r
  ·rw [inner (fun _=>r) (fun _=>hr) (fun _=>hlv) (fun c k=>by rw [List.append_assoc]; rfl),row_all hrow]
   have hw:(dm.getD i zS).2.1 + 1 - (dm.getD i zS).1=wid (dm.getD i zS):=by unfold wid; omega
   rw [hw]
   rcases Int.lt_or_le r 0 with q | q
   ·rw [cntE_leaf _ _ _ _ q,cntE_leaf _ _ _ _ q]
    split
    ·rw [prodW_step (a:=i) (b:=dm.length) (by omega) (Nat.le_refl _)]
    ·rw [Int.mul_zero]
   ·rw [cntE_node _ _ _ _ q,cntE_node _ _ _ _ q]
    have e:lvl dm ns r=(ns.getD r.toNat zN).1.toNat:=by unfold lvl; rw [if_neg (by omega)]
    have hrt:=hr.2
    have:=(hs r.toNat (by omega)).2.1
    rw [prodW_step (a:=i) (b:=(ns.getD r.toNat zN).1.toNat) (by omega) (by omega),← Int.mul_assoc,← Int.mul_assoc,Int.mul_comm (wid _)]
  ·have q:0≤r:=by
    rcases Int.lt_or_le r 0 with q | q
    ·exfalso; apply hlv; unfold lvl; rw [if_pos q]; omega
    ·exact q
   have e:lvl dm ns r=(ns.getD r.toNat zN).1.toNat:=by unfold lvl; rw [if_neg (by omega)]
   have hrt:r.toNat < ns.length:=by have:=hr.2; omega
   have hat:(ns.getD r.toNat zN).1.toNat=i:=by omega
   have hsr:=hs r.toNat hrt
   have hkl:(kids ns r.toNat).length=(ns.getD r.toNat zN).2.1.length + 1:=hsr.2.2.2.1
   rw [inner (fun v=>(kids ns r.toNat).getD (brK (ns.getD r.toNat zN).2.1 v) 0) (fun v=>kid_ref hs hrt (kid_at hs hrt v)) (fun v=>by have:=lvl_kid hd hs hrt (kid_at hs hrt v); omega) (fun c k=>?_)]
   ·have hcs:∀ c ∈ (ns.getD r.toNat zN).2.1,(dm.getD i zS).1 < c∧c ∈ g[i]:=fun c hc=>by
     have h1:=hh r.toNat hrt c hc
     rw [hat,getD_eq _ _ _ hig] at h1
     obtain ⟨j,hj,rfl⟩:=List.getElem_of_mem hc
     have h2:=(hsr.2.2.2.2.1 j hj).1
     rw [getD_eq _ _ _ hj,hat] at h2
     exact ⟨h2,h1⟩
    have hrs:=row_sum hrow (ns.getD r.toNat zN).2.1 (cuts_sorted hsr) hcs (fun k=>cntE dm ns leaf 9 ((kids ns r.toNat).getD k 0) (i + 1))
    rw [hrs,cntE_node _ _ _ _ q,hat,prodW_same,Int.mul_one]
    unfold totE
    rw [hkl,hat]
    refine sumS_congr _ fun k hk=>?_
    rw [cntE_kid hd hs hrt (by omega)]
    congr 1
    unfold hiK loK hiK
    rw [hat]
    congr 1
    by_cases z:k=0
    ·rw [if_pos z,if_pos z]
    ·rw [if_neg z,if_neg z,if_pos (by omega)]
   ·rw [vlF_node ns 8 q,hat]
    have eg:(pre ++ (g[i].getD c 0 :: atS (g.drop (i + 1)) k)).getD i 0=g[i].getD c 0:=by
     rw [List.getD_eq_getElem?_getD,List.getElem?_append_right (by omega),hp,Nat.sub_self]; rfl
    rw [eg,List.append_assoc]
    have hk2:=kid_at hs hrt (g[i].getD c 0)
    have hrk:=kid_rk hd hs hrt hk2
    have:=(rkA_ok hd hs).2 r.toNat hrt
    exact vlF_stable hd hs 8 8 9 _ _ (by omega) (by omega) (by omega) (kid_ref hs hrt hk2).2
end Abs
end Go.Proofs.YtgfnhpadmifiiaaDoor
end
