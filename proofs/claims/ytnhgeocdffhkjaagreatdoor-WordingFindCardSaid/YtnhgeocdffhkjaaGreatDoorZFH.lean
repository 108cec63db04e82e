/- Merged and trimmed by a program: W1 W2 W3 W4 W5 W6 W7 W8 W9 WA WB WC WD WE EXW. -/
import Derived.Test.YtnhgeocdffhkjaaGreatDoorZFG
import Derived.Lib.LaidTab
import Derived.LaidSub
set_option linter.unusedVariables false
set_option linter.unusedSimpArgs false
set_option linter.defProp false
namespace Go.Proofs.YtnhgeocdffhkjaaGreatDoor
namespace Abs
theorem T.iter {α β:Type} {F:(α→Option β)→α→Option β} (P:Nat→α→Prop) (Q:Nat→α→β→Prop) (h:∀ n x,P (n + 1) x→∀ self:α→Option β,(∀ y,P n y→T (self y) (Q n y))→T (F self x) (Q (n + 1) x)) (h0:∀ x,¬ P 0 x):∀ n x,P n x→T (iterF F n x) (Q n x):=by
 intro n
 induction n with
 | zero=>intro x hx; exact absurd hx (h0 x)
 | succ n ih=>intro x hx; exact h n x hx _ fun y hy=>ih y hy
abbrev Bd (n:Nat):Prop:=n≤1000000000000000
theorem sLen_I (s:ByteArray):sLen s=(s.size:Int):=rfl
def bsX:=And.intro @iLt_T (And.intro @iLt_F (And.intro @iLe_T (And.intro @iLe_F (And.intro @iEq_T (And.intro @iEq_F (And.intro @iNe_T (And.intro @iNe_F (And.intro @bnd_T (And.intro @bnd_F (And.intro @inB_T (And.intro @inB_F (And.intro @fits_T (And.intro @fitsI_T (And.intro @cutOk_T (And.intro @someE_T (And.intro @someE_F (And.intro @leN_T (And.intro @not_T (And.intro @not_F (And.intro @and_T (And.intro @and_F (And.intro @or_T (And.intro @or_F (And.intro @candF_T (And.intro @candF_F (And.intro @corT_T (And.intro @corT_F (And.intro @bEqT_T (And.intro @bEqT_F (And.intro @bEqF_T (And.intro @bEqF_F (And.intro @or_true (And.intro @true_or (And.intro @and_true (And.intro @true_and (And.intro @or_false (And.intro @false_or (And.intro @and_false (And.intro @false_and (And.intro @not_true_eq_false (And.intro @not_false_eq_true (And.intro @Bool.true_eq_false (And.intro @Bool.false_eq_true (And.intro @lenI_eq (@sLen_I)))))))))))))))))))))))))))))))))))))))))))))
def arX:=And.intro @iAdd64 (And.intro @iSub64 (And.intro @iMul64 (And.intro @lenI_eq (And.intro @List.length_append.{0} (And.intro @List.length_cons.{0} (And.intro @List.length_nil.{0} (And.intro @List.length_set.{0} (And.intro @List.length_take.{0} (And.intro @List.length_drop.{0} (@List.length_replicate.{0}))))))))))
def DeckOk (L:List Int) (a:Int):Prop:=L.length≤9223372036854775807∧0≤a
theorem rem_b (x:Int) {n:Int} (hn:0 < n):-n < x.tmod n∧x.tmod n < n:=⟨by have:=Int.lt_tmod_of_pos x hn; omega,Int.tmod_lt_of_pos x hn⟩
theorem rem_p (x:Int) {n:Int} (hn:0 < n) (hn2:n≤4611686018427387904):0≤iRem (iAdd .i64 (iRem x n) n) n∧iRem (iAdd .i64 (iRem x n) n) n < n:=by
 have h:=rem_b x hn
 have e:iAdd .i64 (iRem x n) n=x.tmod n + n:=iAdd64 (by simp only [iRem]; omega) (by simp only [iRem]; omega)
 rw [e]
 simp only [iRem]
 exact ⟨Int.tmod_nonneg _ (by omega),Int.tmod_lt_of_pos _ hn⟩
theorem next_T {L:List Int} {a n:Int} (h:DeckOk L a) (hn:0 < n) (hn2:n≤4611686018427387904):T (m24 n L a) (fun y=>DeckOk y.2.1 y.2.2.1∧0≤y.1∧y.1 < n):=by
 obtain ⟨h1,h2⟩:=h
 unfold m24
 have hL:=lenI_eq L
 refine T.cnd (fun hc=>T.ret ⟨⟨h1,h2⟩,by omega,hn⟩) (fun hc=>?_)
 rw [iLe_F] at hc
 have e1:iSub .i64 (iAdd .i64 a 1) 1=a:=by rw [iAdd64 (by omega) (by omega),iSub64 (by omega) (by omega)]; omega
 rw [e1]
 refine T.grd (by rw [bnd_T]; omega) (T.grd (by rw [iNe_T]; omega) (T.grd (by rw [iNe_T]; omega) (T.ret ⟨⟨h1,?_⟩,rem_p _ hn hn2⟩)))
 show 0≤iAdd .i64 a 1
 rw [iAdd64 (by omega) (by omega)]; omega
theorem within_T (x:Int) {n:Int} (hn:0 < n) (hn2:n≤4611686018427387904):T (m11 x n) (fun y=>0≤y.1∧y.1 < n):=by
 unfold m11
 exact T.grd (by rw [iNe_T]; omega) (T.grd (by rw [iNe_T]; omega) (T.ret (rem_p _ hn hn2)))
theorem range_T {L:List Int} {a l u:Int} (h:DeckOk L a) (h0:0≤l) (h1:l≤u) (h2:u≤1000000):T (m88 l u L a) (fun y=>DeckOk y.2.1 y.2.2.1∧l≤y.1∧y.1≤u):=by
 unfold m88
 have e:iAdd .i64 (iSub .i64 u l) 1=u - l + 1:=by rw [iSub64 (by omega) (by omega),iAdd64 (by omega) (by omega)]
 rw [e]
 repeat' (first | (refine T.call (next_T (by assumption) (by first | omega | (simp (disch:=omega) only [arX]; omega)) (by first | omega | (simp (disch:=omega) only [arX]; omega))) (fun _ ⟨_,_,_⟩=>?_)) | (refine T.grd ?_ ?_) | (refine T.cnd (fun hc=>?_) (fun hc=>?_) <;> try simp only [bsX,eq_self] at hc) | (refine T.mapL ?_) | (refine T.go ?_ ?_) | (refine T.out ?_) | (refine T.jgo ?_) | (refine T.jout ?_) | (refine T.mapJ ?_) | (refine T.ret ?_))
 refine ⟨by assumption,?_,?_⟩ <;> (rw [iAdd64 (by omega) (by omega)]; omega)
theorem upto_T {L:List Int} {a n:Int} (h:DeckOk L a) (h0:0≤n) (h1:n≤4611686018427387903):T (m133 n L a) (fun y=>DeckOk y.2.1 y.2.2.1∧0≤y.1∧y.1≤n):=by
 unfold m133
 have e:iAdd .i64 n 1=n + 1:=iAdd64 (by omega) (by omega)
 rw [e]
 unfold iMin
 repeat' (first | (refine T.call (next_T (by assumption) (by first | omega | (simp (disch:=omega) only [arX]; omega)) (by first | omega | (simp (disch:=omega) only [arX]; omega))) (fun _ ⟨_,_,_⟩=>?_)) | (refine T.grd ?_ ?_) | (refine T.cnd (fun hc=>?_) (fun hc=>?_) <;> try simp only [bsX,eq_self] at hc) | (refine T.mapL ?_) | (refine T.go ?_ ?_) | (refine T.out ?_) | (refine T.jgo ?_) | (refine T.jout ?_) | (refine T.mapJ ?_) | (refine T.ret ?_))
 all_goals refine ⟨by assumption,?_⟩
 all_goals simp (disch:=omega) only [iSub64]
 all_goals omega
theorem hour_T {L:List Int} {a:Int} (h:DeckOk L a):T (m90 L a) (fun y=>DeckOk y.2.1 y.2.2.1∧0≤y.1∧y.1≤876599):=by
 unfold m90
 repeat' (first | (refine T.call (next_T (by assumption) (by first | omega | (simp (disch:=omega) only [arX]; omega)) (by first | omega | (simp (disch:=omega) only [arX]; omega))) (fun _ ⟨_,_,_⟩=>?_)) | (refine T.grd ?_ ?_) | (refine T.cnd (fun hc=>?_) (fun hc=>?_) <;> try simp only [bsX,eq_self] at hc) | (refine T.mapL ?_) | (refine T.go ?_ ?_) | (refine T.out ?_) | (refine T.jgo ?_) | (refine T.jout ?_) | (refine T.mapJ ?_) | (refine T.ret ?_))
 all_goals refine ⟨by assumption,?_⟩
 all_goals (try simp (disch:=omega) only [iSub64])
 all_goals omega
theorem period_T {L:List Int} {a:Int} (h:DeckOk L a):T (m49 L a) (fun y=>DeckOk y.2.2.1 y.2.2.2.1):=by
 unfold m49
 repeat' (first | (refine T.call (hour_T (by assumption)) (fun _ ⟨_,_,_⟩=>?_)) | (refine T.grd ?_ ?_) | (refine T.cnd (fun hc=>?_) (fun hc=>?_) <;> try simp only [bsX,eq_self] at hc) | (refine T.mapL ?_) | (refine T.go ?_ ?_) | (refine T.out ?_) | (refine T.jgo ?_) | (refine T.jout ?_) | (refine T.mapJ ?_) | (refine T.ret ?_))
 all_goals assumption
theorem word_T (s:ByteArray):T (m102 s) (fun _=>True):=by
 unfold m102
 have hs:sLen s=(s.size:Int):=rfl
 repeat' (first | (refine T.callE (show m149 _=some _ from rfl) ?_) | (refine T.callE (show m150 _=some _ from rfl) ?_) | (refine T.loop (fun s=>0≤s.2.1∧s.1.size≤16) (fun s=>(sLen s.1 - s.2.1).toNat) ?_ (fun s ⟨k0,k1⟩=>?_)) | (refine T.grd ?_ ?_) | (refine T.cnd (fun hc=>?_) (fun hc=>?_) <;> try simp only [bsX,eq_self] at hc) | (refine T.mapL ?_) | (refine T.go ?_ ?_) | (refine T.out ?_) | (refine T.jgo ?_) | (refine T.jout ?_) | (refine T.mapJ ?_) | (refine T.ret ?_))
 all_goals first | trivial | (first | (simp (disch:=omega) only [bsX,eq_self,arX,sLen_I]; omega) | (simp (disch:=omega) only [bsX,eq_self,arX,sLen_I]; done))
theorem at_mem {α:Type} {xs:List α} {n:Int} (z:α) (h0:0≤n) (h1:n < (xs.length:Int)):atI xs n z ∈ xs:=by
 unfold atI
 have h:n.toNat < xs.length:=by omega
 rw [List.getD_eq_getElem?_getD,List.getElem?_eq_getElem h]
 exact List.getElem_mem h
theorem res_T (s:ByteArray):T (m103 s) (fun y=>True):=by
 unfold m103
 repeat' (first | (refine T.grd ?_ ?_) | (refine T.cnd (fun hc=>?_) (fun hc=>?_) <;> try simp only [bsX,eq_self] at hc) | (refine T.ret ?_))
 all_goals (try dsimp only [LQ,JQ])
 all_goals (repeat' (with_reducible refine And.intro ?_ ?_)) <;> first | trivial | assumption | omega | (first | (simp (disch:=omega) only [bsX,eq_self,arX]; omega) | (simp (disch:=omega) only [bsX,eq_self,arX]; done))
theorem name_T (s:ByteArray):T (m57 s) (fun y=>True):=by
 unfold m57
 repeat' (first | (refine T.call (word_T _) (fun _ _=>?_)) | (refine T.call (res_T _) (fun _ _=>?_)) | (refine T.grd ?_ ?_) | (refine T.cnd (fun hc=>?_) (fun hc=>?_) <;> try simp only [bsX,eq_self] at hc) | (refine T.ret ?_))
 all_goals (try dsimp only [LQ,JQ])
 all_goals (repeat' (with_reducible refine And.intro ?_ ?_)) <;> first | trivial | assumption | omega | (first | (simp (disch:=omega) only [bsX,eq_self,arX]; omega) | (simp (disch:=omega) only [bsX,eq_self,arX]; done))
theorem names_T (l:List ByteArray) (h:Bd l.length):T (m29 l) (fun y=>True):=by
 unfold m29
 repeat' (first | (refine T.call (name_T _) (fun _ _=>?_)) | (refine T.loop (fun s=>0≤s.2.1∧Bd (List.length s.1)) (fun s=>((List.length s.1:Int) - s.2.1).toNat) ?_ (fun s ⟨k0,k1⟩=>?_)) | (refine T.grd ?_ ?_) | (refine T.cnd (fun hc=>?_) (fun hc=>?_) <;> try simp only [bsX,eq_self] at hc) | (refine T.go ?_ ?_) | (refine T.out ?_) | (refine T.ret ?_))
 all_goals (try dsimp only [LQ,JQ])
 all_goals (repeat' (with_reducible refine And.intro ?_ ?_)) <;> first | trivial | assumption | omega | (first | (simp (disch:=omega) only [bsX,eq_self,arX]; omega) | (simp (disch:=omega) only [bsX,eq_self,arX]; done))
theorem distinct_T (l:List ByteArray) (h:Bd l.length):T (m30 l) (fun y=>True):=by
 unfold m30
 repeat' (first | (refine T.loop (fun q=>List.length q.1=List.length s.1∧q.2.1=s.2.1∧0≤q.2.2.1) (fun q=>(s.2.1 - q.2.2.1).toNat) ?_ (fun q ⟨k0,k1,k2⟩=>?_)) | (refine T.loop (fun s=>0≤s.2.1∧Bd (List.length s.1)) (fun s=>((List.length s.1:Int) - s.2.1).toNat) ?_ (fun s ⟨k0,k1⟩=>?_)) | (refine T.grd ?_ ?_) | (refine T.cnd (fun hc=>?_) (fun hc=>?_) <;> try simp only [bsX,eq_self] at hc) | (refine T.go ?_ ?_) | (refine T.out ?_) | (refine T.ret ?_))
 all_goals (try dsimp only [LQ,JQ])
 all_goals (repeat' (with_reducible refine And.intro ?_ ?_)) <;> first | trivial | assumption | omega | (first | (simp (disch:=omega) only [bsX,eq_self,arX]; omega) | (simp (disch:=omega) only [bsX,eq_self,arX]; done))
theorem attr_T (a:DS5) (h:Bd (List.length (α:=ByteArray) a.2.2.1)):T (m165 a) (fun y=>True):=by
 unfold m165
 repeat' (first | (refine T.callE (show m183 _=some _ from rfl) ?_) | (refine T.call (names_T _ (by assumption)) (fun _ _=>?_)) | (refine T.call (distinct_T _ (by assumption)) (fun _ _=>?_)) | (refine T.grd ?_ ?_) | (refine T.cnd (fun hc=>?_) (fun hc=>?_) <;> try simp only [bsX,eq_self] at hc) | (refine T.ret ?_))
 all_goals (try dsimp only [LQ,JQ])
 all_goals (repeat' (with_reducible refine And.intro ?_ ?_)) <;> first | trivial | assumption | omega | (first | (simp (disch:=omega) only [bsX,eq_self,arX]; omega) | (simp (disch:=omega) only [bsX,eq_self,arX]; done))
theorem schema_T (a:DS6) (h:Bd (List.length a.1)) (h2:∀ x ∈ a.1,Bd (List.length (α:=ByteArray) x.2.2.1)):T (m134 a) (fun y=>True):=by
 unfold m134
 repeat' (first | (refine T.call (name_T _) (fun _ _=>?_)) | (refine T.call (attr_T _ k3) (fun _ _=>?_)) | (refine T.loop (fun q=>q.1=s.1∧0≤q.2.1∧List.length q.2.2.1=List.length s.2.1∧Bd (List.length (α:=ByteArray) q.2.2.2.2.2.1)∧∀ x ∈ q.2.2.1,Bd (List.length (α:=ByteArray) x.2.2.1)) (fun q=>(s.1 - q.2.1).toNat) ?_ (fun q ⟨k0,k1,k2,k3,k4⟩=>?_)) | (refine T.loop (fun s=>0≤s.1∧Bd (List.length s.2.1)∧∀ x ∈ s.2.1,Bd (List.length (α:=ByteArray) x.2.2.1)) (fun s=>((List.length s.2.1:Int) - s.1).toNat) ?_ (fun s ⟨j0,j1,j2⟩=>?_)) | (refine T.grd ?_ ?_) | (refine T.cnd (fun hc=>?_) (fun hc=>?_) <;> try simp only [bsX,eq_self] at hc) | (refine T.mapL ?_) | (refine T.go ?_ ?_) | (refine T.out ?_) | (refine T.ret ?_))
 all_goals (try dsimp only [LQ,JQ])
 all_goals (repeat' (with_reducible refine And.intro ?_ ?_)) <;> first | trivial | assumption | omega | (first | (simp (disch:=omega) only [bsX,eq_self,arX]; omega) | (simp (disch:=omega) only [bsX,eq_self,arX]; done)) | exact j2 _ (at_mem _ (by omega) (by omega))
def WE:Nat→DS0→Prop
 | 0,_=>False
 | k + 1,e=>Bd (List.length (α:=ByteArray) e.2.2.1)∧List.length (α:=AV) e.2.2.2.2.2.1≤3∧∀ a ∈ e.2.2.2.2.2.1,okS0 a=true∧WE k (decS0 a)
def WA (k:Nat) (l:List AV):Prop:=∀ a ∈ l,okS0 a=true∧WE k (decS0 a)
def WB:Nat→List AV→Prop
 | 0,_=>False
 | k + 1,l=>Bd l.length∧∀ a ∈ l,okS7 a=true∧WE 10 (decS7 a).2.1∧WB k (decS7 a).2.2.1
def WBA (k:Nat) (l:List AV):Prop:=∀ a ∈ l,okS7 a=true∧WE 10 (decS7 a).2.1∧WB k (decS7 a).2.2.1
theorem WE.up:∀ {k:Nat} {e:DS0},WE k e→∀ d,WE (k + d) e
 | 0,_,h,_=>h.elim
 | k + 1,e,h,d=>by
  rw [show k + 1 + d=(k + d) + 1 by omega]
  exact ⟨h.1,h.2.1,fun a ha=>⟨(h.2.2 a ha).1,(h.2.2 a ha).2.up d⟩⟩
theorem WB.up:∀ {k:Nat} {l:List AV},WB k l→∀ d,WB (k + d) l
 | 0,_,h,_=>h.elim
 | k + 1,l,h,d=>by
  rw [show k + 1 + d=(k + d) + 1 by omega]
  exact ⟨h.1,fun a ha=>⟨(h.2 a ha).1,(h.2 a ha).2.1,(h.2 a ha).2.2.up d⟩⟩
theorem WE.to {k:Nat} {e:DS0} (h:WE k e) {m:Nat} (hm:k≤m):WE m e:=by have:=h.up (m - k); rwa [show k + (m - k)=m by omega] at this
theorem WB.to {k:Nat} {l:List AV} (h:WB k l) {m:Nat} (hm:k≤m):WB m l:=by have:=h.up (m - k); rwa [show k + (m - k)=m by omega] at this
def WC (c:DS1):Prop:=WE 10 c.2.2.1∧WB 10 c.2.2.2.1
theorem deeper_T {n:Nat} {x:DS0 × Int × Unit} (h:WE n x.1):T (iterF (fun self (x:DS0 × Int × Unit)=>mb146 self x.1 x.2.1) n x) (fun y:Bool × Unit=>True):=by
 refine T.iter (fun n (x:DS0 × Int × Unit)=>WE n x.1) (fun _ _ (y:Bool × Unit)=>True) (fun n x h self hs=>?_) (fun x h=>h.elim) n x h
 unfold mb146
 obtain ⟨e1,e2,e3⟩:=h
 have e3:WA n _:=e3
 repeat' (first | (refine T.call (hs _ (j2 _ (at_mem _ (by omega) (by omega))).2) (fun _ _=>?_)) | (refine T.loop (fun s=>0≤s.2.1∧Bd (List.length s.2.2.2.2.2.2.2.1)∧WA n s.2.2.2.2.2.2.2.1) (fun s=>((List.length s.2.2.2.2.2.2.2.1:Int) - s.2.1).toNat) ?_ (fun s ⟨j0,j1,j2⟩=>?_)) | (refine T.grd ?_ ?_) | (refine T.cnd (fun hc=>?_) (fun hc=>?_) <;> try simp only [bsX,eq_self] at hc) | (refine T.go ?_ ?_) | (refine T.out ?_) | (refine T.ret ?_))
 all_goals (try dsimp only [LQ,JQ])
 all_goals (repeat' (with_reducible refine And.intro ?_ ?_)) <;> first | trivial | assumption | omega | (first | (simp (disch:=omega) only [bsX,eq_self,arX]; omega) | (simp (disch:=omega) only [bsX,eq_self,arX]; done)) | exact and_T.mpr ⟨by rw [bnd_T,lenI_eq]; omega,(j2 _ (at_mem _ (by omega) (by omega))).1⟩
theorem size_T {n:Nat} {x:DS0 × Unit} (h:WE n x.1):T (iterF (fun self (x:DS0 × Unit)=>mb147 self x.1) n x) (fun y:Int × Unit=>True):=by
 refine T.iter (fun n (x:DS0 × Unit)=>WE n x.1) (fun _ _ (y:Int × Unit)=>True) (fun n x h self hs=>?_) (fun x h=>h.elim) n x h
 unfold mb147
 obtain ⟨e1,e2,e3⟩:=h
 have e3:WA n _:=e3
 repeat' (first | (refine T.call (hs _ (j2 _ (at_mem _ (by omega) (by omega))).2) (fun _ _=>?_)) | (refine T.loop (fun s=>0≤s.2.1∧Bd (List.length s.2.2.2.2.2.2.2.1)∧WA n s.2.2.2.2.2.2.2.1) (fun s=>((List.length s.2.2.2.2.2.2.2.1:Int) - s.2.1).toNat) ?_ (fun s ⟨j0,j1,j2⟩=>?_)) | (refine T.grd ?_ ?_) | (refine T.cnd (fun hc=>?_) (fun hc=>?_) <;> try simp only [bsX,eq_self] at hc) | (refine T.go ?_ ?_) | (refine T.out ?_) | (refine T.ret ?_))
 all_goals (try dsimp only [LQ,JQ])
 all_goals (repeat' (with_reducible refine And.intro ?_ ?_)) <;> first | trivial | assumption | omega | (first | (simp (disch:=omega) only [bsX,eq_self,arX]; omega) | (simp (disch:=omega) only [bsX,eq_self,arX]; done)) | exact and_T.mpr ⟨by rw [bnd_T,lenI_eq]; omega,(j2 _ (at_mem _ (by omega) (by omega))).1⟩
theorem node_T (a:DS0) (h:Bd (List.length (α:=ByteArray) a.2.2.1)):T (m171 a) (fun y=>True):=by
 unfold m171
 repeat' (first | (refine T.callE (show m183 _=some _ from rfl) ?_) | (refine T.call (name_T _) (fun _ _=>?_)) | (refine T.call (names_T _ (by assumption)) (fun _ _=>?_)) | (refine T.call (distinct_T _ (by assumption)) (fun _ _=>?_)) | (refine T.join (fun _=>True) ?_ (fun _ _=>?_)) | (refine T.grd ?_ ?_) | (refine T.cnd (fun hc=>?_) (fun hc=>?_) <;> try simp only [bsX,eq_self] at hc) | (refine T.jgo ?_) | (refine T.jout ?_) | (refine T.ret ?_))
 all_goals (try dsimp only [LQ,JQ])
 all_goals (repeat' (with_reducible refine And.intro ?_ ?_)) <;> first | trivial | assumption | omega | (first | (simp (disch:=omega) only [bsX,eq_self,arX]; omega) | (simp (disch:=omega) only [bsX,eq_self,arX]; done))
theorem nodes_T {n:Nat} {x:DS0 × Unit} (h:WE n x.1):T (iterF (fun self (x:DS0 × Unit)=>mb148 self x.1) n x) (fun y:Bool × Unit=>True):=by
 refine T.iter (fun n (x:DS0 × Unit)=>WE n x.1) (fun _ _ (y:Bool × Unit)=>True) (fun n x h self hs=>?_) (fun x h=>h.elim) n x h
 unfold mb148
 obtain ⟨e1,e2,e3⟩:=h
 have e3:WA n _:=e3
 repeat' (first | (refine T.call (node_T _ e1) (fun _ _=>?_)) | (refine T.call (hs _ (j2 _ (at_mem _ (by omega) (by omega))).2) (fun _ _=>?_)) | (refine T.loop (fun s=>0≤s.1∧Bd (List.length s.2.2.2.2.2.2.1)∧WA n s.2.2.2.2.2.2.1) (fun s=>((List.length s.2.2.2.2.2.2.1:Int) - s.1).toNat) ?_ (fun s ⟨j0,j1,j2⟩=>?_)) | (refine T.grd ?_ ?_) | (refine T.cnd (fun hc=>?_) (fun hc=>?_) <;> try simp only [bsX,eq_self] at hc) | (refine T.go ?_ ?_) | (refine T.out ?_) | (refine T.ret ?_))
 all_goals (try dsimp only [LQ,JQ])
 all_goals (repeat' (with_reducible refine And.intro ?_ ?_)) <;> first | trivial | assumption | omega | (first | (simp (disch:=omega) only [bsX,eq_self,arX]; omega) | (simp (disch:=omega) only [bsX,eq_self,arX]; done)) | exact and_T.mpr ⟨by rw [bnd_T,lenI_eq]; omega,(j2 _ (at_mem _ (by omega) (by omega))).1⟩
theorem expr_T (a:DS0) (h:WE 10 a):T (m98 a) (fun y=>True):=by
 unfold m98
 repeat' (first | (refine T.call (deeper_T (x:=(_,_,())) (h.to (by omega))) (fun _ _=>?_)) | (refine T.call (size_T (x:=(_,())) (h.to (by omega))) (fun _ _=>?_)) | (refine T.call (nodes_T (x:=(_,())) (h.to (by omega))) (fun _ _=>?_)) | (refine T.grd ?_ ?_) | (refine T.cnd (fun hc=>?_) (fun hc=>?_) <;> try simp only [bsX,eq_self] at hc) | (refine T.ret ?_))
 all_goals (try dsimp only [LQ,JQ])
 all_goals (repeat' (with_reducible refine And.intro ?_ ?_)) <;> first | trivial | assumption | omega | (first | (simp (disch:=omega) only [bsX,eq_self,arX]; omega) | (simp (disch:=omega) only [bsX,eq_self,arX]; done))
theorem count_T {n:Nat} {x:List AV × Unit} (h:WB n x.1):T (iterF (fun self (x:List AV × Unit)=>mb99 self x.1) n x) (fun y:Int × Unit=>True):=by
 refine T.iter (fun n (x:List AV × Unit)=>WB n x.1) (fun _ _ (y:Int × Unit)=>True) (fun n x h self hs=>?_) (fun x h=>h.elim) n x h
 unfold mb99
 obtain ⟨e1,e3⟩:=h
 have e3:WBA n _:=e3
 repeat' (first | (refine T.call (hs _ (j2 _ (at_mem _ (by omega) (by omega))).2.2) (fun _ _=>?_)) | (refine T.loop (fun s=>0≤s.2.2.1∧Bd (List.length s.1)∧WBA n s.1) (fun s=>((List.length s.1:Int) - s.2.2.1).toNat) ?_ (fun s ⟨j0,j1,j2⟩=>?_)) | (refine T.grd ?_ ?_) | (refine T.cnd (fun hc=>?_) (fun hc=>?_) <;> try simp only [bsX,eq_self] at hc) | (refine T.go ?_ ?_) | (refine T.out ?_) | (refine T.ret ?_))
 all_goals (try dsimp only [LQ,JQ])
 all_goals (repeat' (with_reducible refine And.intro ?_ ?_)) <;> first | trivial | assumption | omega | (first | (simp (disch:=omega) only [bsX,eq_self,arX]; omega) | (simp (disch:=omega) only [bsX,eq_self,arX]; done)) | exact and_T.mpr ⟨by rw [bnd_T,lenI_eq]; omega,(j2 _ (at_mem _ (by omega) (by omega))).1⟩
theorem backs_T {n:Nat} {x:List AV × Int × Unit} (h:WB n x.1):T (iterF (fun self (x:List AV × Int × Unit)=>mb100 self x.1 x.2.1) n x) (fun y:Bool × Unit=>True):=by
 refine T.iter (fun n (x:List AV × Int × Unit)=>WB n x.1) (fun _ _ (y:Bool × Unit)=>True) (fun n x h self hs=>?_) (fun x h=>h.elim) n x h
 unfold mb100
 obtain ⟨e1,e3⟩:=h
 have e3:WBA n _:=e3
 repeat' (first | (refine T.call (hs _ (j2 _ (at_mem _ (by omega) (by omega))).2.2) (fun _ _=>?_)) | (refine T.call (name_T _) (fun _ _=>?_)) | (refine T.call (expr_T _ (j2 _ (at_mem _ (by omega) (by omega))).2.1) (fun _ _=>?_)) | (refine T.loop (fun s=>0≤s.2.2.1∧Bd (List.length s.1)∧WBA n s.1) (fun s=>((List.length s.1:Int) - s.2.2.1).toNat) ?_ (fun s ⟨j0,j1,j2⟩=>?_)) | (refine T.grd ?_ ?_) | (refine T.cnd (fun hc=>?_) (fun hc=>?_) <;> try simp only [bsX,eq_self] at hc) | (refine T.go ?_ ?_) | (refine T.out ?_) | (refine T.ret ?_))
 all_goals (try dsimp only [LQ,JQ])
 all_goals (repeat' (with_reducible refine And.intro ?_ ?_)) <;> first | trivial | assumption | omega | (first | (simp (disch:=omega) only [bsX,eq_self,arX]; omega) | (simp (disch:=omega) only [bsX,eq_self,arX]; done)) | exact and_T.mpr ⟨by rw [bnd_T,lenI_eq]; omega,(j2 _ (at_mem _ (by omega) (by omega))).1⟩ | exact or_T.mpr (.inl (and_T.mpr ⟨by rw [bnd_T,lenI_eq]; omega,(j2 _ (at_mem _ (by omega) (by omega))).1⟩))
theorem most_T (k:Int):T (m101 k) (fun y=>0≤y.1∧y.1≤1073741824):=by
 unfold m101
 repeat' (first | (refine T.grd ?_ ?_) | (refine T.cnd (fun hc=>?_) (fun hc=>?_) <;> try simp only [bsX,eq_self] at hc) | (refine T.ret ?_))
 all_goals (try dsimp only [LQ,JQ])
 all_goals (repeat' (with_reducible refine And.intro ?_ ?_)) <;> first | trivial | assumption | omega | (first | (simp (disch:=omega) only [bsX,eq_self,arX]; omega) | (simp (disch:=omega) only [bsX,eq_self,arX]; done))
theorem clause_T (a:DS1) (h:WC a):T (m56 a) (fun y=>True):=by
 unfold m56
 repeat' (first | (refine T.call (name_T _) (fun _ _=>?_)) | (refine T.call (expr_T _ h.1) (fun _ _=>?_)) | (refine T.call (count_T (x:=(_,())) (h.2.to (by omega))) (fun _ _=>?_)) | (refine T.call (backs_T (x:=(_,_,())) (h.2.to (by omega))) (fun _ _=>?_)) | (refine T.call (most_T _) (fun _ _=>?_)) | (refine T.grd ?_ ?_) | (refine T.cnd (fun hc=>?_) (fun hc=>?_) <;> try simp only [bsX,eq_self] at hc) | (refine T.ret ?_))
 all_goals (try dsimp only [LQ,JQ])
 all_goals (repeat' (with_reducible refine And.intro ?_ ?_)) <;> first | trivial | assumption | omega | (first | (simp (disch:=omega) only [bsX,eq_self,arX]; omega) | (simp (disch:=omega) only [bsX,eq_self,arX]; done))
theorem find_T (l:List DS1) (s:ByteArray) (h:Bd l.length):T (m9 l s) (fun y=>y.2.1=true→0≤y.1∧y.1 < (List.length l:Int)):=by
 unfold m9
 repeat' (first | (refine T.loop (fun s=>0≤s.2.2.1∧s.1=l) (fun s=>((List.length l:Int) - s.2.2.1).toNat) ?_ (fun s ⟨j0,j1⟩=>?_)) | (refine T.grd ?_ ?_) | (refine T.cnd (fun hc=>?_) (fun hc=>?_) <;> try simp only [bsX,eq_self] at hc) | (refine T.go ?_ ?_) | (refine T.out ?_) | (refine T.ret ?_))
 all_goals (try dsimp only [LQ,JQ])
 all_goals (repeat' (with_reducible refine And.intro ?_ ?_)) <;> first | trivial | assumption | omega | (first | (simp (disch:=omega) only [bsX,eq_self,arX]; omega) | (simp (disch:=omega) only [bsX,eq_self,arX]; done)) | (intro _; first | omega | (refine ⟨by omega,?_⟩; rw [j1] at *; omega)) | (rw [j1] at *; simp (disch:=omega) only [bsX,eq_self,arX]; omega) | (intro q; cases q)
theorem def_T (l:List DS1) (s:ByteArray) (h:Bd l.length):T (m168 l s) (fun y=>y.2.1=true→0≤y.1∧y.1 < (List.length l:Int)):=by
 unfold m168
 repeat' (first | (refine T.loop (fun s=>0≤s.2.2.1∧s.1=l) (fun s=>((List.length l:Int) - s.2.2.1).toNat) ?_ (fun s ⟨j0,j1⟩=>?_)) | (refine T.grd ?_ ?_) | (refine T.cnd (fun hc=>?_) (fun hc=>?_) <;> try simp only [bsX,eq_self] at hc) | (refine T.go ?_ ?_) | (refine T.out ?_) | (refine T.ret ?_))
 all_goals (try dsimp only [LQ,JQ])
 all_goals (repeat' (with_reducible refine And.intro ?_ ?_)) <;> first | trivial | assumption | omega | (first | (simp (disch:=omega) only [bsX,eq_self,arX]; omega) | (simp (disch:=omega) only [bsX,eq_self,arX]; done)) | (intro _; first | omega | (refine ⟨by omega,?_⟩; rw [j1] at *; omega)) | (rw [j1] at *; simp (disch:=omega) only [bsX,eq_self,arX]; omega) | (intro q; cases q)
theorem index_T (l:DS6) (s:ByteArray) (h:Bd (List.length l.1)):T (m135 l s) (fun y=>y.2.1=true→0≤y.1∧y.1 < (List.length l.1:Int)):=by
 unfold m135
 repeat' (first | (refine T.loop (fun s=>0≤s.2.1∧s.2.2.1=l.1) (fun s=>((List.length l.1:Int) - s.2.1).toNat) ?_ (fun s ⟨j0,j1⟩=>?_)) | (refine T.grd ?_ ?_) | (refine T.cnd (fun hc=>?_) (fun hc=>?_) <;> try simp only [bsX,eq_self] at hc) | (refine T.go ?_ ?_) | (refine T.out ?_) | (refine T.ret ?_))
 all_goals (try dsimp only [LQ,JQ])
 all_goals (repeat' (with_reducible refine And.intro ?_ ?_)) <;> first | trivial | assumption | omega | (first | (simp (disch:=omega) only [bsX,eq_self,arX]; omega) | (simp (disch:=omega) only [bsX,eq_self,arX]; done)) | (intro _; first | omega | (refine ⟨by omega,?_⟩; rw [j1] at *; omega)) | (rw [j1] at *; simp (disch:=omega) only [bsX,eq_self,arX]; omega) | (intro q; cases q)
theorem within9_T (l:List ByteArray) (s:ByteArray) (h:Bd l.length):T (m144 l s) (fun y=>True):=by
 unfold m144
 repeat' (first | (refine T.loop (fun s=>0≤s.2.2.1∧Bd (List.length s.1)) (fun s=>((List.length s.1:Int) - s.2.2.1).toNat) ?_ (fun s ⟨k0,k1⟩=>?_)) | (refine T.grd ?_ ?_) | (refine T.cnd (fun hc=>?_) (fun hc=>?_) <;> try simp only [bsX,eq_self] at hc) | (refine T.go ?_ ?_) | (refine T.out ?_) | (refine T.ret ?_))
 all_goals (try dsimp only [LQ,JQ])
 all_goals (repeat' (with_reducible refine And.intro ?_ ?_)) <;> first | trivial | assumption | omega | (first | (simp (disch:=omega) only [bsX,eq_self,arX]; omega) | (simp (disch:=omega) only [bsX,eq_self,arX]; done))
def SB (a:DS6):Prop:=Bd (List.length a.1)∧∀ x ∈ a.1,Bd (List.length (α:=ByteArray) x.2.2.1)
def CB (l:List DS1):Prop:=l.length≤500∧∀ c ∈ l,WC c
theorem nodeE_T (s:DS6) (l:List DS1) (a:DS0) (h:SB s) (h2:Bd (List.length (α:=ByteArray) a.2.2.1)) (h3:Bd l.length):T (m166 s l a) (fun y=>True):=by
 unfold m166
 refine T.call (index_T (s.1,()) _ h.1) (fun u q=>?_)
 dsimp only at q
 have hb:u.2.1=true→bnd u.1 (lenI s.1)=true:=fun e=>by have:=q e; rw [bnd_T,lenI_eq]; omega
 have hm:u.2.1=true→Bd (List.length (α:=ByteArray) (atI s.1 u.1 (ByteArray.empty,0,[],0,0,())).2.2.1):=fun e=>h.2 _ (at_mem _ (q e).1 (q e).2)
 repeat' (first | (refine T.call (def_T _ _ h3) (fun _ _=>?_)) | (refine T.call (within9_T _ _ (by assumption)) (fun _ _=>?_)) | (refine T.loop (fun s=>0≤s.1∧Bd (List.length (α:=ByteArray) s.2.2.2.1)∧Bd (List.length (α:=ByteArray) s.2.2.2.2.2.2.2.2.2.1)) (fun s=>((List.length (α:=ByteArray) s.2.2.2.1:Int) - s.1).toNat) ?_ (fun s ⟨j0,j1,j2⟩=>?_)) | (refine T.grd ?_ ?_) | (refine T.cnd (fun hc=>?_) (fun hc=>?_) <;> try simp only [bsX,eq_self] at hc) | (refine T.mapL ?_) | (refine T.go ?_ ?_) | (refine T.out ?_) | (refine T.jgo ?_) | (refine T.jout ?_) | (refine T.mapJ ?_) | (refine T.ret ?_))
 all_goals (try dsimp only [LQ,JQ])
 all_goals (repeat' (with_reducible refine And.intro ?_ ?_)) <;> first | trivial | assumption | omega | (first | (simp (disch:=omega) only [bsX,eq_self,arX]; omega) | (simp (disch:=omega) only [bsX,eq_self,arX]; done)) | exact hb (by assumption) | exact hm (by assumption) | (cases hu:u.2.1 <;> simp [hb,hu,bEq])
theorem nodesE_T {n:Nat} {x:DS6 × List DS1 × DS0 × Unit} (h:WE n x.2.2.1∧SB x.1∧Bd (List.length x.2.1)):T (iterF (fun self (x:DS6 × List DS1 × DS0 × Unit)=>mb136 self x.1 x.2.1 x.2.2.1) n x) (fun y:Int × Unit=>True):=by
 refine T.iter (fun n (x:DS6 × List DS1 × DS0 × Unit)=>WE n x.2.2.1∧SB x.1∧Bd (List.length x.2.1)) (fun _ _ (y:Int × Unit)=>True) (fun n x h self hs=>?_) (fun x h=>h.1.elim) n x h
 unfold mb136
 obtain ⟨⟨e1,e2,e3⟩,h4,h5⟩:=h
 have e3:WA n _:=e3
 repeat' (first | (refine T.call (nodeE_T _ _ _ h4 e1 h5) (fun _ _=>?_)) | (refine T.call (hs _ ⟨(j2 _ (at_mem _ (by omega) (by omega))).2,j3,j4⟩) (fun _ _=>?_)) | (refine T.loop (fun s=>0≤s.2.1∧Bd (List.length s.2.2.2.2.2.2.2.2.1)∧WA n s.2.2.2.2.2.2.2.2.1∧SB (s.2.2.1,())∧Bd (List.length s.1)) (fun s=>((List.length s.2.2.2.2.2.2.2.2.1:Int) - s.2.1).toNat) ?_ (fun s ⟨j0,j1,j2,j3,j4⟩=>?_)) | (refine T.grd ?_ ?_) | (refine T.cnd (fun hc=>?_) (fun hc=>?_) <;> try simp only [bsX,eq_self] at hc) | (refine T.go ?_ ?_) | (refine T.out ?_) | (refine T.ret ?_))
 all_goals (try dsimp only [LQ,JQ])
 all_goals (repeat' (with_reducible refine And.intro ?_ ?_)) <;> first | trivial | assumption | omega | (first | (simp (disch:=omega) only [bsX,eq_self,arX]; omega) | (simp (disch:=omega) only [bsX,eq_self,arX]; done)) | exact and_T.mpr ⟨by rw [bnd_T,lenI_eq]; omega,(j2 _ (at_mem _ (by omega) (by omega))).1⟩
theorem backsE_T {n:Nat} {x:DS6 × List DS1 × List AV × Unit} (h:WB n x.2.2.1∧SB x.1∧Bd (List.length x.2.1)):T (iterF (fun self (x:DS6 × List DS1 × List AV × Unit)=>mb137 self x.1 x.2.1 x.2.2.1) n x) (fun y:Int × Unit=>True):=by
 refine T.iter (fun n (x:DS6 × List DS1 × List AV × Unit)=>WB n x.2.2.1∧SB x.1∧Bd (List.length x.2.1)) (fun _ _ (y:Int × Unit)=>True) (fun n x h self hs=>?_) (fun x h=>h.1.elim) n x h
 unfold mb137
 obtain ⟨⟨e1,e3⟩,h4,h5⟩:=h
 have e3:WBA n _:=e3
 repeat' (first | (refine T.call (nodesE_T (x:=(_,_,_,())) ⟨(j2 _ (at_mem _ (by omega) (by omega))).2.1.to (by omega),j3,j4⟩) (fun _ _=>?_)) | (refine T.call (hs _ ⟨(j2 _ (at_mem _ (by omega) (by omega))).2.2,j3,j4⟩) (fun _ _=>?_)) | (refine T.loop (fun s=>0≤s.2.2.1∧Bd (List.length s.2.1)∧WBA n s.2.1∧SB (s.2.2.2.1,())∧Bd (List.length s.1)) (fun s=>((List.length s.2.1:Int) - s.2.2.1).toNat) ?_ (fun s ⟨j0,j1,j2,j3,j4⟩=>?_)) | (refine T.grd ?_ ?_) | (refine T.cnd (fun hc=>?_) (fun hc=>?_) <;> try simp only [bsX,eq_self] at hc) | (refine T.go ?_ ?_) | (refine T.out ?_) | (refine T.ret ?_))
 all_goals (try dsimp only [LQ,JQ])
 all_goals (repeat' (with_reducible refine And.intro ?_ ?_)) <;> first | trivial | assumption | omega | (first | (simp (disch:=omega) only [bsX,eq_self,arX]; omega) | (simp (disch:=omega) only [bsX,eq_self,arX]; done)) | exact and_T.mpr ⟨by rw [bnd_T,lenI_eq]; omega,(j2 _ (at_mem _ (by omega) (by omega))).1⟩
theorem put_T (l:List ByteArray) (s:ByteArray) (h:l.length≤1000000000):T (m193 l s) (fun y=>List.length (α:=ByteArray) y.1≤l.length + 1):=by
 unfold m193
 refine T.loop (fun s=>0≤s.2.2.2.1∧s.1.length=l.length∧(s.2.2.2.2.1.length:Int)≤s.2.2.2.1 + 1∧s.2.2.2.1≤(l.length:Int)∧(s.2.2.1=false→(s.2.2.2.2.1.length:Int)≤s.2.2.2.1)) (fun s=>((l.length:Int) - s.2.2.2.1).toNat) ⟨by simp,rfl,by simp,by simp,by simp⟩ (fun s ⟨j0,j1,j2,j5,j3⟩=>?_)
 cases hb:s.2.2.1
 ·have j4:=j3 hb
  simp only [Bool.not_false,cond_true]
  repeat' (first | (refine T.grd ?_ ?_) | (refine T.cnd (fun hc=>?_) (fun hc=>?_) <;> try simp only [bsX,eq_self] at hc) | (refine T.mapL ?_) | (refine T.go ?_ ?_) | (refine T.out ?_) | (refine T.jgo ?_) | (refine T.jout ?_) | (refine T.mapJ ?_) | (refine T.ret ?_))
  all_goals (try dsimp only [LQ,JQ])
  all_goals (repeat' (with_reducible refine And.intro ?_ ?_)) <;> first | trivial | assumption | omega | (first | (simp (disch:=omega) only [bsX,eq_self,arX]; omega) | (simp (disch:=omega) only [bsX,eq_self,arX]; done)) | exact fun q=>Bool.noConfusion q | (intro _; (first | (simp (disch:=omega) only [bsX,eq_self,arX]; omega) | (simp (disch:=omega) only [bsX,eq_self,arX]; done)))
 ·clear j3
  simp only [Bool.not_true,cond_false]
  repeat' (first | (refine T.grd ?_ ?_) | (refine T.cnd (fun hc=>?_) (fun hc=>?_) <;> try simp only [bsX,eq_self] at hc) | (refine T.mapL ?_) | (refine T.go ?_ ?_) | (refine T.out ?_) | (refine T.jgo ?_) | (refine T.jout ?_) | (refine T.mapJ ?_) | (refine T.ret ?_))
  all_goals (try dsimp only [LQ,JQ])
  all_goals (repeat' (with_reducible refine And.intro ?_ ?_)) <;> first | trivial | assumption | omega | (first | (simp (disch:=omega) only [bsX,eq_self,arX]; omega) | (simp (disch:=omega) only [bsX,eq_self,arX]; done)) | exact fun q=>Bool.noConfusion q | (intro q; rw [hb] at q; cases q)
def pw:Nat→Nat
 | 0=>1
 | n + 1=>4 * pw n
theorem pw_pos:∀ n,1≤pw n
 | 0=>Nat.le_refl _
 | n + 1=>by have:=pw_pos n; simp only [pw]; omega
theorem pw10:pw 10=1048576:=by simp [pw]
theorem gather_T:∀ (k n:Nat) (x:List ByteArray × DS0 × Unit),k≤n→WE k x.2.1→x.1.length + pw k≤1000000000→T (iterF (fun self (x:List ByteArray × DS0 × Unit)=>mb184 self x.1 x.2.1) n x) (fun y:List ByteArray × Unit=>y.1.length≤x.1.length + pw k):=by
 intro k
 induction k with
 | zero=>intro n x _ h; exact h.elim
 | succ n ih =>
 intro m x hn h h4
 obtain ⟨m,rfl⟩:∃ m',m=m' + 1:=⟨m - 1,by omega⟩
 have hs:=fun y=>ih m y (by omega)
 show T (mb184 (iterF _ m) x.1 x.2.1) _
 generalize iterF (fun self (x:List ByteArray × DS0 × Unit)=>mb184 self x.1 x.2.1) m=self at hs ⊢
 clear ih hn
 unfold mb184
 obtain ⟨e1,e2,e3⟩:=h
 have e3:WA n _:=e3
 have hG:=pw_pos n
 simp only [pw] at h4 ⊢
 have hmul:∀ i:Int,0≤i→(i + 1).toNat * pw n=i.toNat * pw n + pw n:=fun i hi=>by rw [show (i + 1).toNat=i.toNat + 1 by omega,Nat.succ_mul]
 have hle:∀ (i:Int) (m:Nat),i≤m→i.toNat * pw n≤m * pw n:=fun i m hi=>Nat.mul_le_mul_right _ (by omega)
 repeat' (first | (refine T.call (put_T _ _ (by omega)) (fun v q=>?_)) | (refine T.call (hs (_,_,()) (j4 _ (at_mem _ (by omega) (by omega))).2 (by have:=hle s.2.1 2 (by omega); dsimp only; omega)) (fun u q=>?_)) | (refine T.loop (fun s=>0≤s.2.1∧List.length s.2.2.2.2.2.2.2.1≤3∧s.2.1≤(List.length s.2.2.2.2.2.2.2.1:Int)∧WA n s.2.2.2.2.2.2.2.1∧s.1.length≤x.1.length + 1 + s.2.1.toNat * pw n) (fun s=>(3 - s.2.1).toNat) ?_ (fun s ⟨j1,j2,j3,j4,j5⟩=>?_)) | (refine T.grd ?_ ?_) | (refine T.cnd (fun hc=>?_) (fun hc=>?_) <;> try simp only [bsX,eq_self] at hc) | (refine T.mapL ?_) | (refine T.go ?_ ?_) | (refine T.out ?_) | (refine T.jgo ?_) | (refine T.jout ?_) | (refine T.mapJ ?_) | (refine T.ret ?_))
 all_goals (try dsimp only [LQ,JQ])
 all_goals (repeat' (with_reducible refine And.intro ?_ ?_)) <;> first | trivial | assumption | omega | (first | (simp (disch:=omega) only [bsX,eq_self,arX]; omega) | (simp (disch:=omega) only [bsX,eq_self,arX]; done)) | exact and_T.mpr ⟨by rw [bnd_T,lenI_eq]; omega,(j4 _ (at_mem _ (by omega) (by omega))).1⟩ | (rw [iAdd64 (by omega) (by omega),hmul _ (by omega)]; dsimp only at q; omega) | (have:=hle s.2.1 3 (by omega); omega) | (simp; omega)
theorem gath_T (l:List ByteArray) (e:DS0) (h:WE 10 e) (h2:l.length + pw 10≤1000000000):T (m184 l e) (fun y:List ByteArray × Unit=>y.1.length≤l.length + pw 10):=gather_T 10 10000 (l,e,()) (by omega) h h2
theorem allnames_T (e:DS0) (h:WE 10 e):T (m167 e) (fun y=>y.1.length≤1048576):=by
 unfold m167
 refine T.call (gath_T [] _ h (by rw [pw10]; simp)) (fun u q=>T.ret ?_)
 rw [pw10] at q
 simpa using q
def nF:List Bool→Nat
 | []=>0
 | b :: l=>cond b 0 1 + nF l
theorem nF_rep (n:Nat):nF (List.replicate n false)=n:=by
 induction n with
 | zero=>rfl
 | succ n ih=>rw [List.replicate_succ]; simp only [nF,ih,cond_false]; omega
theorem nF_set:∀ (l:List Bool) (i:Nat),i < l.length→l.getD i false=false→nF (l.set i true) + 1=nF l
 | [],i,h,_=>by simp at h
 | b :: l,0,_,h2=>by
  have:b=false:=by simpa using h2
  subst this
  simp only [List.set_cons_zero,nF,cond_true,cond_false]; omega
 | b :: l,i + 1,h,h2=>by
  have:=nF_set l i (by simpa using h) (by simpa using h2)
  simp only [List.set_cons_succ,nF]; omega
theorem order_T (l:List DS1) (h:CB l):T (m138 l) (fun _=>True):=by
 unfold m138
 have hl:=h.1
 refine T.grd (by rw [fitsI_T,lenI_eq]; omega) ?_
 refine T.loop (fun s=>l=s.1∧s.2.2.1.length=l.length∧s.2.1.length + nF s.2.2.1≤l.length) (fun s=>nF s.2.2.1) ⟨rfl,by simp [lenI],by simp [lenI,nF_rep]⟩ ?_
 rintro ⟨_,s2,s3,⟨⟩⟩ ⟨rfl,e2,e3⟩
 dsimp only at e2 e3 ⊢
 refine T.loop (fun q=>l=q.1∧s2=q.2.2.2.2.1∧s3=q.2.2.2.2.2.1∧0≤q.2.2.2.1∧(q.2.1=-1∨0≤q.2.1∧q.2.1 < (l.length:Int)∧List.getD s3 q.2.1.toNat false=false)) (fun q=>((l.length:Int) - q.2.2.2.1).toNat) ⟨rfl,rfl,rfl,by simp,.inl rfl⟩ ?_
 rintro ⟨_,q2,q3,q4,_,_,⟨⟩⟩ ⟨rfl,rfl,rfl,q0,qn⟩
 dsimp only at q0 qn ⊢
 refine T.cnd (fun hc=>?_) (fun hc=>?_) <;> simp only [bsX,eq_self] at hc
 ·refine T.grd (by rw [bnd_T,lenI_eq]; omega) (T.grd (or_T.mpr (.inl (by rw [bnd_T,lenI_eq]; omega))) (T.grd (or_T.mpr (.inl (by rw [inB_T]; omega))) (T.cnd (fun hd=>?_) (fun hd=>?_)))) <;> simp only [bsX,eq_self] at hd
  ·refine T.go ⟨rfl,rfl,rfl,?_,qn⟩ ?_ <;> dsimp only <;> (rw [iAdd64 (by omega) (by omega)]; omega)
  refine T.grd (by rw [bnd_T,lenI_eq]; omega) ?_
  refine T.call (allnames_T _ (h.2 _ (at_mem _ q0 (by omega))).1) (fun u hu=>?_)
  refine T.loop (fun r=>l=r.1∧q2=r.2.1∧q4=r.2.2.2.1∧u.1=r.2.2.2.2.2.1∧0≤r.2.2.2.2.2.2.1∧s2=r.2.2.2.2.2.2.2.1∧s3=r.2.2.2.2.2.2.2.2.1) (fun r=>((List.length (α:=ByteArray) u.1:Int) - r.2.2.2.2.2.2.1).toNat) ⟨rfl,rfl,rfl,rfl,by simp,rfl,rfl⟩ ?_
  rintro ⟨_,_,r3,_,r5,_,r7,_,_,⟨⟩⟩ ⟨rfl,rfl,rfl,rfl,r0,rfl,rfl⟩
  dsimp only at r0 ⊢
  refine T.cnd (fun hr=>?_) (fun hr=>?_) <;> simp only [bsX,eq_self] at hr
  ·refine T.grd (by rw [bnd_T,lenI_eq]; omega) (T.call (def_T _ _ (by show l.length≤_; omega)) (fun v w=>?_))
   have hg:v.2.1=true→bnd v.1 (lenI s3)=true∧inB v.1.toNat s3=true:=fun e=>by have:=w e; rw [bnd_T,lenI_eq,inB_T]; omega
   refine T.cnd (fun _=>T.grd ?_ (T.grd ?_ (T.go ⟨rfl,rfl,rfl,rfl,?_,rfl,rfl⟩ ?_))) (fun _=>T.go ⟨rfl,rfl,rfl,rfl,?_,rfl,rfl⟩ ?_)
   ·cases hv:v.2.1 with
    | true=>rw [(hg hv).1]; rfl
    | false=>exact or_T.mpr (.inr rfl)
   ·cases hv:v.2.1 with
    | true=>rw [(hg hv).2]; rfl
    | false=>exact or_T.mpr (.inr rfl)
   all_goals dsimp only
   all_goals rw [iAdd64 (by omega) (by omega)]
   all_goals omega
  ·refine T.map (T.cnd (fun _=>T.ret ⟨⟨rfl,rfl,rfl,?_,.inr ⟨q0,by dsimp only; omega,hd.2⟩⟩,?_⟩) (fun _=>T.ret ⟨⟨rfl,rfl,rfl,?_,qn⟩,?_⟩))
   all_goals dsimp only
   all_goals rw [iAdd64 (by omega) (by omega)]
   all_goals omega
 ·refine T.map (T.cnd (fun hd=>T.cnd (fun _=>T.ret trivial) (fun _=>T.ret trivial)) (fun hd=>?_))
  simp only [bsX,eq_self] at hd
  rcases qn with qn | ⟨n0,n1,n2⟩
  ·omega
  have hs:=nF_set s3 q2.toNat (by omega) n2
  refine T.grd (by rw [fits_T]; simp; omega) (T.grd (by rw [bnd_T,lenI_eq]; omega) (T.grd (by rw [inB_T]; omega) (T.ret ⟨⟨rfl,by simp [e2],by simp; omega⟩,by dsimp only; omega⟩)))
theorem expanded_T {n:Nat} {x:List DS1 × DS0 × Int × Unit} (h:CB x.1∧0≤x.2.2.1∧∃ k,WE k x.2.1∧k≤10∧k + 11 * ((List.length x.1:Int) + 1 - x.2.2.1).toNat≤n):T (iterF (fun self (x:List DS1 × DS0 × Int × Unit)=>mb169 self x.1 x.2.1 x.2.2.1) n x) (fun y:Int × Unit=>0≤y.1∧y.1≤2001):=by
 refine T.iter (fun n (x:List DS1 × DS0 × Int × Unit)=>CB x.1∧0≤x.2.2.1∧∃ k,WE k x.2.1∧k≤10∧k + 11 * ((List.length x.1:Int) + 1 - x.2.2.1).toNat≤n) (fun _ _ (y:Int × Unit)=>0≤y.1∧y.1≤2001) (fun n x h self hs=>?_) (fun x ⟨_,_,k,hk,_,hn⟩=>by cases k with | zero=>exact hk.elim | succ k=>omega) n x h
 unfold mb169
 obtain ⟨hcb,h0,k,hk,hk2,hk3⟩:=h
 obtain ⟨j,rfl⟩:∃ j,k=j + 1:=by
  cases k with
  | zero=>exact hk.elim
  | succ j=>exact ⟨j,rfl⟩
 obtain ⟨e1,e2,e3⟩:=hk
 have e3:WA j _:=e3
 have hb:Bd (List.length x.1):=by have:=hcb.1; omega
 repeat' (first | (refine T.call (def_T _ _ hb) (fun v w=>?_)) | (refine T.call (hs (_,_,_,()) ⟨hcb,(by simp (disch:=omega) only [iAdd64]; omega),10,(hcb.2 _ (at_mem _ (w (by assumption)).1 (w (by assumption)).2)).1,by omega,(by simp (disch:=omega) only [iAdd64]; omega)⟩) (fun u ⟨q0,q1⟩=>?_)) | (refine T.call (hs (_,_,_,()) ⟨j0 ▸ hcb,by simp only [← j1]; exact h0,j,(j6 _ (at_mem _ (by omega) (by omega))).2,by omega,by simp only [← j0,← j1]; omega⟩) (fun u ⟨q0,q1⟩=>?_)) | (refine T.loop (fun s=>x.1=s.1∧x.2.2.1=s.2.1∧(0≤s.2.2.1∧s.2.2.1≤4001)∧0≤s.2.2.2.1∧List.length s.2.2.2.2.2.2.2.2.2.1≤3∧WA j s.2.2.2.2.2.2.2.2.2.1) (fun s=>((List.length s.2.2.2.2.2.2.2.2.2.1:Int) - s.2.2.2.1).toNat) ?_ (fun s ⟨j0,j1,⟨j2,j3⟩,j4,j5,j6⟩=>?_)) | (refine T.grd ?_ ?_) | (refine T.cnd (fun hc=>?_) (fun hc=>?_) <;> try simp only [bsX,eq_self] at hc) | (refine T.go ?_ ?_) | (refine T.out ?_) | (refine T.ret ?_))
 all_goals (try dsimp only [LQ,JQ])
 all_goals (repeat' (with_reducible refine And.intro ?_ ?_)) <;> first | trivial | assumption | omega | (first | (simp (disch:=omega) only [bsX,eq_self,arX]; omega) | (simp (disch:=omega) only [bsX,eq_self,arX]; done)) | exact and_T.mpr ⟨by rw [bnd_T,lenI_eq]; omega,(j6 _ (at_mem _ (by omega) (by omega))).1⟩ | (unfold iMin; omega) | (rw [bnd_T,lenI_eq]; exact w (by assumption))
theorem exp_T (l:List DS1) (e:DS0) (h:CB l) (he:WE 10 e):T (m139 l e) (fun y=>0≤y.1∧y.1≤2001):=by
 unfold m139
 have hl:=h.1
 exact T.call (expanded_T (n:=10000) (x:=(l,e,0,())) ⟨h,Int.le_refl _,10,he,by omega,by dsimp only; omega⟩) fun u q=>T.ret q
theorem large_T {n:Nat} {x:List DS1 × List AV × Unit} (h:WB n x.2.1∧CB x.1):T (iterF (fun self (x:List DS1 × List AV × Unit)=>mb140 self x.1 x.2.1) n x) (fun y:Bool × Unit=>True):=by
 refine T.iter (fun n (x:List DS1 × List AV × Unit)=>WB n x.2.1∧CB x.1) (fun _ _ (y:Bool × Unit)=>True) (fun n x h self hs=>?_) (fun x h=>h.1.elim) n x h
 unfold mb140
 obtain ⟨⟨e1,e3⟩,hc⟩:=h
 have e3:WBA n _:=e3
 repeat' (first | (refine T.call (exp_T _ _ j3 (j2 _ (at_mem _ (by omega) (by omega))).2.1) (fun _ _=>?_)) | (refine T.call (hs (_,_,()) ⟨(j2 _ (at_mem _ (by omega) (by omega))).2.2,j3⟩) (fun _ _=>?_)) | (refine T.loop (fun s=>0≤s.2.2.1∧Bd (List.length s.2.1)∧WBA n s.2.1∧CB s.1) (fun s=>((List.length s.2.1:Int) - s.2.2.1).toNat) ?_ (fun s ⟨j0,j1,j2,j3⟩=>?_)) | (refine T.grd ?_ ?_) | (refine T.cnd (fun hc=>?_) (fun hc=>?_) <;> try simp only [bsX,eq_self] at hc) | (refine T.go ?_ ?_) | (refine T.out ?_) | (refine T.ret ?_))
 all_goals (try dsimp only [LQ,JQ])
 all_goals (repeat' (with_reducible refine And.intro ?_ ?_)) <;> first | trivial | assumption | omega | (first | (simp (disch:=omega) only [bsX,eq_self,arX]; omega) | (simp (disch:=omega) only [bsX,eq_self,arX]; done)) | exact and_T.mpr ⟨by rw [bnd_T,lenI_eq]; omega,(j2 _ (at_mem _ (by omega) (by omega))).1⟩ | exact or_T.mpr (.inl (and_T.mpr ⟨by rw [bnd_T,lenI_eq]; omega,(j2 _ (at_mem _ (by omega) (by omega))).1⟩))
theorem clauses_T (s:DS6) (l:List DS1) (h:SB s) (h2:CB l):T (m89 s l) (fun y=>True):=by
 unfold m89
 have hB:Bd (List.length l):=by have:=h2.1; omega
 repeat' (first | (refine T.call (schema_T _ h.1 h.2) (fun _ _=>?_)) | (refine T.call (clause_T _ (j2.2 _ (at_mem _ (by omega) (by omega)))) (fun _ _=>?_)) | (refine T.call (find_T _ _ (by have:=j2.1; omega)) (fun _ _=>?_)) | (refine T.call (index_T _ _ j3.1) (fun _ _=>?_)) | (refine T.call (nodesE_T (n:=10000) (x:=(_,_,_,())) ⟨(j2.2 _ (at_mem _ (by omega) (by omega))).1.to (by omega),j3,(by have:=j2.1; omega)⟩) (fun _ _=>?_)) | (refine T.call (backsE_T (n:=10000) (x:=(_,_,_,())) ⟨(j2.2 _ (at_mem _ (by omega) (by omega))).2.to (by omega),j3,(by have:=j2.1; omega)⟩) (fun _ _=>?_)) | (refine T.call (order_T _ j2) (fun _ _=>?_)) | (refine T.call (exp_T _ _ i2 (i2.2 _ (at_mem _ (by omega) (by omega))).1) (fun _ _=>?_)) | (refine T.call (large_T (n:=10000) (x:=(_,_,())) ⟨(i2.2 _ (at_mem _ (by omega) (by omega))).2.to (by omega),i2⟩) (fun _ _=>?_)) | (refine T.loop (fun s=>0≤s.2.1∧(Bd (List.length s.1)∧CB s.1)∧SB (s.2.2.1,())) (fun s=>((List.length s.1:Int) - s.2.1).toNat) ?_ (fun s ⟨j0,⟨j1,j2⟩,j3⟩=>?_)) | (refine T.loop (fun r=>0≤r.2.1∧Bd (List.length r.1)∧CB r.1) (fun r=>((List.length r.1:Int) - r.2.1).toNat) ?_ (fun r ⟨i0,i1,i2⟩=>?_)) | (refine T.grd ?_ ?_) | (refine T.cnd (fun hc=>?_) (fun hc=>?_) <;> try simp only [bsX,eq_self] at hc) | (refine T.mapL ?_) | (refine T.go ?_ ?_) | (refine T.out ?_) | (refine T.ret ?_))
 all_goals (try dsimp only [LQ,JQ])
 all_goals (repeat' (with_reducible refine And.intro ?_ ?_)) <;> first | trivial | assumption | omega | (first | (simp (disch:=omega) only [bsX,eq_self,arX]; omega) | (simp (disch:=omega) only [bsX,eq_self,arX]; done))
theorem mem_snoc {α:Type} {P:α→Prop} {xs:List α} {y:α} (h:∀ x ∈ xs,P x) (hy:P y):∀ x ∈ xs ++ [y],P x:=by
 intro x hx
 rcases List.mem_append.1 hx with q | q
 ·exact h x q
 ·rw [List.mem_singleton.1 q]; exact hy
theorem getD_mem {α:Type} {xs:List α} {n:Nat} (z:α) (h:n < xs.length):List.getD xs n z ∈ xs:=by
 rw [List.getD_eq_getElem?_getD,List.getElem?_eq_getElem h]
 exact List.getElem_mem h
def CW (n:Nat) (l:List DS1):Prop:=l.length≤n∧∀ c ∈ l,WC c
theorem CW.cb {n:Nat} {l:List DS1} (h:CW n l) (hn:n≤500):CB l:=⟨by have:=h.1; omega,h.2⟩
def EW (x:DS3):Prop:=List.length (α:=ByteArray) x.2.1≤1000∧CW 40 x.2.2.1
theorem EW.bd {x:DS3} (h:EW x):Bd (List.length (α:=ByteArray) x.2.1):=by have:=h.1; omega
def WW (w:DS4):Prop:=CW 40 w.1∧List.length (α:=DS3) w.2.1≤12∧∀ x ∈ w.2.1,EW x
theorem clauses5_T (l:List DS1) (h:CW 40 l):T (m27 l) (fun y=>True):=by
 unfold m27
 repeat' (first | (refine T.call (clause_T _ (j2 _ (at_mem _ (by omega) (by omega)))) (fun _ _=>?_)) | (refine T.loop (fun s=>0≤s.2.1∧List.length s.1≤40∧∀ c ∈ s.1,WC c) (fun s=>((List.length s.1:Int) - s.2.1).toNat) ?_ (fun s ⟨j0,j1,j2⟩=>?_)) | (refine T.grd ?_ ?_) | (refine T.cnd (fun hc=>?_) (fun hc=>?_) <;> try simp only [bsX,eq_self] at hc) | (refine T.go ?_ ?_) | (refine T.out ?_) | (refine T.ret ?_))
 all_goals (try dsimp only [LQ,JQ])
 all_goals (repeat' (with_reducible refine And.intro ?_ ?_)) <;> first | trivial | assumption | omega | (first | (simp (disch:=omega) only [bsX,eq_self,arX]; omega) | (simp (disch:=omega) only [bsX,eq_self,arX]; done)) | exact h.1 | exact h.2
theorem wording_T (w:DS4) (h:WW w):T (m16 w) (fun y=>True):=by
 unfold m16
 repeat' (first | (refine T.call (clauses5_T _ h.1) (fun _ _=>?_)) | (refine T.callE (show m28 _=some _ from rfl) ?_) | (refine T.call (names_T _ (j2 _ (at_mem _ (by omega) (by omega))).bd) (fun _ _=>?_)) | (refine T.call (distinct_T _ (j2 _ (at_mem _ (by omega) (by omega))).bd) (fun _ _=>?_)) | (refine T.call (clauses5_T _ (j2 _ (at_mem _ (by omega) (by omega))).2) (fun _ _=>?_)) | (refine T.loop (fun s=>0≤s.1∧List.length s.2.2.1≤12∧∀ x ∈ s.2.2.1,EW x) (fun s=>((List.length s.2.2.1:Int) - s.1).toNat) ?_ (fun s ⟨j0,j1,j2⟩=>?_)) | (refine T.grd ?_ ?_) | (refine T.cnd (fun hc=>?_) (fun hc=>?_) <;> try simp only [bsX,eq_self] at hc) | (refine T.go ?_ ?_) | (refine T.out ?_) | (refine T.ret ?_))
 all_goals (try dsimp only [LQ,JQ])
 all_goals (repeat' (with_reducible refine And.intro ?_ ?_)) <;> first | trivial | assumption | omega | (first | (simp (disch:=omega) only [bsX,eq_self,arX]; omega) | (simp (disch:=omega) only [bsX,eq_self,arX]; done)) | exact h.2.1 | exact h.2.2
theorem add_T (l:List Int) (x:Int) (h:l.length≤1000):T (m141 l x) (fun y=>List.length (α:=Int) y.1≤l.length + 1):=by
 unfold m141
 refine T.loop (fun s=>0≤s.2.2.2.1∧s.1.length=l.length∧(s.2.2.2.2.1.length:Int)≤s.2.2.2.1 + 1∧s.2.2.2.1≤(l.length:Int)∧(s.2.2.1=false→(s.2.2.2.2.1.length:Int)≤s.2.2.2.1)) (fun s=>((l.length:Int) - s.2.2.2.1).toNat) ⟨by simp,rfl,by simp,by simp,by simp⟩ (fun s ⟨j0,j1,j2,j5,j3⟩=>?_)
 cases hb:s.2.2.1
 ·have j4:=j3 hb
  simp only [Bool.not_false,cond_true]
  repeat' (first | (refine T.grd ?_ ?_) | (refine T.cnd (fun hc=>?_) (fun hc=>?_) <;> try simp only [bsX,eq_self] at hc) | (refine T.mapL ?_) | (refine T.go ?_ ?_) | (refine T.out ?_) | (refine T.jgo ?_) | (refine T.jout ?_) | (refine T.mapJ ?_) | (refine T.ret ?_))
  all_goals (try dsimp only [LQ,JQ])
  all_goals (repeat' (with_reducible refine And.intro ?_ ?_)) <;> first | trivial | assumption | omega | (first | (simp (disch:=omega) only [bsX,eq_self,arX]; omega) | (simp (disch:=omega) only [bsX,eq_self,arX]; done)) | exact fun q=>Bool.noConfusion q | (intro _; (first | (simp (disch:=omega) only [bsX,eq_self,arX]; omega) | (simp (disch:=omega) only [bsX,eq_self,arX]; done)))
 ·clear j3
  simp only [Bool.not_true,cond_false]
  repeat' (first | (refine T.grd ?_ ?_) | (refine T.cnd (fun hc=>?_) (fun hc=>?_) <;> try simp only [bsX,eq_self] at hc) | (refine T.mapL ?_) | (refine T.go ?_ ?_) | (refine T.out ?_) | (refine T.jgo ?_) | (refine T.jout ?_) | (refine T.mapJ ?_) | (refine T.ret ?_))
  all_goals (try dsimp only [LQ,JQ])
  all_goals (repeat' (with_reducible refine And.intro ?_ ?_)) <;> first | trivial | assumption | omega | (first | (simp (disch:=omega) only [bsX,eq_self,arX]; omega) | (simp (disch:=omega) only [bsX,eq_self,arX]; done)) | exact fun q=>Bool.noConfusion q | (intro q; rw [hb] at q; cases q)
theorem points_T (w:DS4) (h:WW w):T (m91 w) (fun y=>List.length (α:=Int) y.1≤100):=by
 unfold m91
 repeat' (first | (refine T.call (wording_T _ h) (fun _ _=>?_)) | (refine T.call (add_T _ _ (by omega)) (fun u q=>?_)) | (refine T.loop (fun s=>0≤s.2.1∧List.length s.2.2.2.1≤12∧(List.length s.1:Int)≤1 + 2 * s.2.1∧s.2.1≤12) (fun s=>((List.length s.2.2.2.1:Int) - s.2.1).toNat) ?_ (fun s ⟨j0,j1,j2,j3⟩=>?_)) | (refine T.grd ?_ ?_) | (refine T.cnd (fun hc=>?_) (fun hc=>?_) <;> try simp only [bsX,eq_self] at hc) | (refine T.go ?_ ?_) | (refine T.out ?_) | (refine T.ret ?_))
 all_goals (try dsimp only [LQ,JQ])
 all_goals (repeat' (with_reducible refine And.intro ?_ ?_)) <;> first | trivial | assumption | omega | (first | (simp (disch:=omega) only [bsX,eq_self,arX]; omega) | (simp (disch:=omega) only [bsX,eq_self,arX]; done)) | exact h.2.1
theorem force_T (w:DS4) (t:Int) (h:WW w):T (m92 w t) (fun y=>CW 100 y.1):=by
 unfold m92
 refine T.call (wording_T _ h) (fun _ _=>T.cnd (fun _=>T.ret ⟨Nat.zero_le _,fun c q=>by simp at q⟩) (fun _=>?_))
 refine T.callE (show m142 _=some _ from rfl) (T.cnd (fun _=>T.ret ⟨Nat.zero_le _,fun c q=>by simp at q⟩) (fun _=>?_))
 refine T.loop (fun s=>0≤s.2.1∧w.1=s.2.2.1∧w.2.1=s.2.2.2.1∧(s.2.2.2.2.1.length:Int)≤s.2.1∧s.2.1≤(List.length w.1:Int)∧∀ c ∈ s.2.2.2.2.1,WC c) (fun s=>((List.length w.1:Int) - s.2.1).toNat) ⟨by simp,rfl,rfl,by simp,by simp,fun c q=>by simp at q⟩ ?_
 obtain ⟨w1,w2,⟨⟩⟩:=w
 obtain ⟨⟨a1,a2⟩,a3,a4⟩:=h
 dsimp only at a1 a2 a3 a4 ⊢
 rintro ⟨s1,i,_,_,l,⟨⟩⟩ ⟨j0,rfl,rfl,j1,j2,j3⟩
 dsimp only at j0 j1 j2 j3 ⊢
 refine T.cnd (fun hc=>?_) (fun hc=>?_) <;> simp only [bsX,eq_self] at hc
 ·refine T.grd (by rw [bnd_T,lenI_eq]; omega) (T.call (find_T _ _ (by omega)) (fun _ _=>T.cnd (fun _=>T.out ⟨Nat.zero_le _,fun c q=>by simp at q⟩) (fun _=>?_)))
  refine T.grd (by rw [bnd_T,lenI_eq]; omega) (T.grd (by rw [fits_T]; simp; omega) (T.go ⟨?_,rfl,rfl,?_,?_,mem_snoc j3 (a2 _ (at_mem _ j0 hc))⟩ ?_))
  all_goals dsimp only
  all_goals rw [iAdd64 (by omega) (by omega)]
  all_goals (try simp)
  all_goals omega
 refine T.map ?_
 refine T.loop (fun s=>0≤s.2.1∧w2=s.2.2.2.1∧CW 100 s.2.2.2.2.1) (fun s=>((w2.length:Int) - s.2.1).toNat) ⟨by simp,rfl,by dsimp only; omega,j3⟩ ?_
 clear j3 j2 j1 j0 hc
 rintro ⟨s1,i,s3,_,l,⟨⟩⟩ ⟨j0,rfl,j1,j2⟩
 dsimp only at j0 j1 j2 ⊢
 refine T.cnd (fun hc=>?_) (fun hc=>T.out ⟨j1,j2⟩) <;> simp only [bsX,eq_self] at hc
 have hx:=a4 _ (at_mem ((0,0,()),[],[],()) j0 hc)
 generalize atI w2 i ((0,0,()),[],[],())=x at hx ⊢
 obtain ⟨x1,rm,xc,⟨⟩⟩:=x
 obtain ⟨b1,b2,b3⟩:=hx
 dsimp only at b1 b2 b3 ⊢
 refine T.grd (by rw [bnd_T,lenI_eq]; omega) (T.callE (show m143 _ _=some _ from rfl) (T.cnd (fun _=>T.go ⟨?_,rfl,j1,j2⟩ ?_) (fun _=>?_)))
 ·dsimp only; rw [iAdd64 (by omega) (by omega)]; omega
 ·dsimp only; rw [iAdd64 (by omega) (by omega)]; omega
 refine T.loop (fun s=>0≤s.2.2.1∧w2=s.2.2.2.2.1∧l=s.2.2.2.2.2.1∧rm=s.2.2.2.2.2.2.2.2.1∧xc=s.2.2.2.2.2.2.2.2.2.1∧i=s.2.1) (fun s=>((rm.length:Int) - s.2.2.1).toNat) ⟨by simp,rfl,rfl,rfl,rfl,rfl⟩ ?_
 rintro ⟨t1,_,k,t4,_,_,t7,t8,_,_,⟨⟩⟩ ⟨k0,rfl,rfl,rfl,rfl,rfl⟩
 dsimp only at k0 ⊢
 refine T.cnd (fun hk=>?_) (fun hk=>?_) <;> simp only [bsX,eq_self] at hk
 ·refine T.grd (by rw [bnd_T,lenI_eq]; omega) (T.call (find_T _ _ (by omega)) (fun _ _=>T.cnd (fun _=>T.out ⟨Nat.zero_le _,fun c q=>by simp at q⟩) (fun _=>T.go ⟨?_,rfl,rfl,rfl,rfl,rfl⟩ ?_)))
  all_goals dsimp only
  all_goals rw [iAdd64 (by omega) (by omega)]
  all_goals omega
 refine T.map ?_
 clear hk k0
 refine T.loop (fun s=>0≤s.2.2.1∧w2=s.2.2.2.2.1∧l=s.2.2.2.2.2.1∧rm=s.2.2.2.2.2.2.2.2.1∧xc=s.2.2.2.2.2.2.2.2.2.1∧i=s.2.1∧(s.2.2.2.2.2.2.2.2.2.2.1.length:Int)≤s.2.2.1∧s.2.2.1≤(l.length:Int)∧∀ c ∈ s.2.2.2.2.2.2.2.2.2.2.1,WC c) (fun s=>((l.length:Int) - s.2.2.1).toNat) ⟨by simp,rfl,rfl,rfl,rfl,rfl,by simp,by simp,fun c q=>by simp at q⟩ ?_
 rintro ⟨t1,_,k,t4,_,_,t7,t8,_,_,lf,⟨⟩⟩ ⟨k0,rfl,rfl,rfl,rfl,rfl,k1,k2,k3⟩
 dsimp only at k0 k1 k2 k3 ⊢
 refine T.cnd (fun hk=>?_) (fun hk=>?_) <;> simp only [bsX,eq_self] at hk
 ·have hi:k.toNat < l.length:=by omega
  refine T.grd (by rw [bnd_T,lenI_eq]; omega) (T.grd (by rw [inB_T]; exact hi) (T.call (within9_T _ _ (by show rm.length≤_; omega)) (fun _ _=>T.cnd (fun _=>T.grd (by rw [bnd_T,lenI_eq]; omega) (T.grd (by rw [inB_T]; exact hi) (T.grd (by rw [fits_T]; simp; omega) (T.go ⟨?_,rfl,rfl,rfl,rfl,rfl,?_,?_,mem_snoc k3 (j2 _ (getD_mem _ hi))⟩ ?_)))) (fun _=>T.go ⟨?_,rfl,rfl,rfl,rfl,rfl,?_,?_,k3⟩ ?_))))
  all_goals dsimp only
  all_goals rw [iAdd64 (by omega) (by omega)]
  all_goals (try simp)
  all_goals omega
 refine T.map ?_
 refine T.loop (fun s=>0≤s.2.2.1∧w2=s.2.2.2.2.1∧xc=s.2.2.2.2.2.2.2.2.1∧i=s.2.1∧(s.2.2.2.2.2.2.2.2.2.1.length:Int)≤100 + s.2.2.1∧s.2.2.1≤(xc.length:Int)∧∀ c ∈ s.2.2.2.2.2.2.2.2.2.1,WC c) (fun s=>((xc.length:Int) - s.2.2.1).toNat) ⟨by simp,rfl,rfl,rfl,by dsimp only; omega,by simp,k3⟩ ?_
 clear k0 k1 k2 k3 hk
 rintro ⟨t1,_,k,t4,_,t7,t8,t9,_,lf,⟨⟩⟩ ⟨k0,rfl,rfl,rfl,k1,k2,k3⟩
 dsimp only at k0 k1 k2 k3 ⊢
 refine T.cnd (fun hk=>?_) (fun hk=>?_) <;> simp only [bsX,eq_self] at hk
 ·refine T.grd (by rw [bnd_T,lenI_eq]; omega) (T.call (find_T _ _ (by omega)) (fun _ _=>T.cnd (fun _=>T.out ⟨Nat.zero_le _,fun c q=>by simp at q⟩) (fun _=>?_)))
  refine T.grd (by rw [bnd_T,lenI_eq]; omega) (T.grd (by rw [fits_T]; simp; omega) (T.go ⟨?_,rfl,rfl,rfl,?_,?_,mem_snoc k3 (b3 _ (at_mem _ k0 hk))⟩ ?_))
  all_goals dsimp only
  all_goals rw [iAdd64 (by omega) (by omega)]
  all_goals (try simp)
  all_goals omega
 refine T.map (T.cnd (fun _=>T.ret ⟨Nat.zero_le _,fun c q=>by simp at q⟩) (fun hl=>T.ret ⟨⟨?_,rfl,?_,k3⟩,?_⟩)) <;> simp only [bsX,eq_self] at hl
 ·dsimp only; rw [iAdd64 (by omega) (by omega)]; omega
 ·dsimp only; omega
 ·dsimp only; rw [iAdd64 (by omega) (by omega)]; omega
theorem check_T (s:DS6) (w:DS4) (hs:SB s) (h:WW w):T (m50 s w) (fun y=>True):=by
 unfold m50
 repeat' (first | (refine T.call (wording_T _ h) (fun _ _=>?_)) | (refine T.call (points_T _ h) (fun u hu=>?_)) | (refine T.call (force_T _ _ j3) (fun v hv=>?_)) | (refine T.call (clauses_T _ _ j4 (hv.cb (by omega))) (fun _ _=>?_)) | (refine T.loop (fun s=>0≤s.2.1∧List.length s.1≤100∧WW (s.2.2.2.1,s.2.2.2.2.1,())∧SB (s.2.2.1,())) (fun s=>((List.length s.1:Int) - s.2.1).toNat) ?_ (fun s ⟨j0,j1,j3,j4⟩=>?_)) | (refine T.grd ?_ ?_) | (refine T.cnd (fun hc=>?_) (fun hc=>?_) <;> try simp only [bsX,eq_self] at hc) | (refine T.go ?_ ?_) | (refine T.out ?_) | (refine T.ret ?_))
 all_goals (try dsimp only [LQ,JQ])
 all_goals (repeat' (with_reducible refine And.intro ?_ ?_)) <;> first | trivial | assumption | omega | (first | (simp (disch:=omega) only [bsX,eq_self,arX]; omega) | (simp (disch:=omega) only [bsX,eq_self,arX]; done))
theorem map_dec:∀ c:List ByteArray,(List.map (Ty.enc .str) (show List (Ty.den .str) from c)).map (fun y=>decC .str y.cells)=c
 | []=>rfl
 | x :: c=>congrArg (x :: ·) (map_dec c)
theorem dec0 (x:DS0):decS0 (Ty.enc tS0 x)=x:=by
 obtain ⟨a,b,c,d,e,f,⟨⟩⟩:=x
 exact congrArg (fun z:List ByteArray=>(a,b,z,d,e,f,())) (map_dec c)
theorem words_ok:∀ c:List ByteArray,(List.map (Ty.enc .str) (show List (Ty.den .str) from c)).all (fun a=>shp .str a && okC .str a.cells)=true
 | []=>rfl
 | _ :: c=>words_ok c
theorem ok0 (x:DS0):okS0 (Ty.enc tS0 x)=true:=by
 obtain ⟨a,b,c,d,e,f,⟨⟩⟩:=x
 exact (congrArg (fun z=>(true && (true && (true && ((true && z) && (true && (true && (true && true)))))))) (words_ok c)).trans rfl
theorem dec7 (x:DS7):decS7 (Ty.enc tS7 x)=x:=by
 obtain ⟨n,y,u,⟨⟩⟩:=x
 exact congrArg (fun z:DS0=>(n,z,u,())) (dec0 y)
theorem ok7 (x:DS7):okS7 (Ty.enc tS7 x)=true:=by
 obtain ⟨n,y,u,⟨⟩⟩:=x
 exact (congrArg (fun z=>(true && (true && (z && (true && true))))) (ok0 y)).trans rfl
theorem WE.mk {k:Nat} {a:Int} {b:ByteArray} {c:List ByteArray} {d e:Int} {l:List DS0} (hc:c.length≤1000) (hl:l.length≤3) (h:∀ x ∈ l,WE k x):WE (k + 1) (a,b,c,d,e,encS0 l,()):=by
 refine ⟨by dsimp only; omega,Nat.le_trans (Nat.le_of_eq (List.length_map _)) hl,fun y hy=>?_⟩
 obtain ⟨x,hx,rfl⟩:=List.mem_map.1 hy
 exact ⟨ok0 x,Eq.mpr (congrArg (WE k) (dec0 x)) (h x hx)⟩
theorem WB.mk {k:Nat} {l:List DS7} (hl:l.length≤1000) (h:∀ x ∈ l,WE 10 x.2.1∧WB k x.2.2.1):WB (k + 1) (encS7 l):=by
 refine ⟨Nat.le_trans (Nat.le_of_eq (List.length_map _)) (Nat.le_trans hl (by omega)),fun y hy=>?_⟩
 obtain ⟨x,hx,rfl⟩:=List.mem_map.1 hy
 exact ⟨ok7 x,Eq.mpr (congrArg (fun z:DS7=>WE 10 z.2.1∧WB k z.2.2.1) (dec7 x)) (h x hx)⟩
theorem WE.leaf {a:Int} {b:ByteArray} {c:List ByteArray} {d e:Int} (hc:c.length≤1000):WE 1 (a,b,c,d,e,([]:List AV),()):=⟨by dsimp only; omega,by simp,fun y hy=>by simp at hy⟩
def AO (x:DS5):Prop:=(x.2.1=1→1≤List.length (α:=ByteArray) x.2.2.1)∧List.length (α:=ByteArray) x.2.2.1≤12∧(-1000000000≤x.2.2.2.1∧x.2.2.2.1≤x.2.2.2.2.1∧x.2.2.2.2.1≤1000000000)
def SK (a:DS6):Prop:=(1≤List.length a.1∧List.length a.1≤6)∧∀ x ∈ a.1,AO x
theorem SK.sb {a:DS6} (h:SK a):SB a:=⟨by have:=h.1; omega,fun x hx=>by have:=(h.2 x hx).2.1; omega⟩
theorem kind_T (k:Int):T (m23 k) (fun y=>SK y.1):=by
 unfold m23
 refine T.call (within_T k (by omega) (by omega)) (fun _ _=>?_)
 repeat' (first | (refine T.callE (show m51=some _ from rfl) ?_) | (refine T.grd ?_ ?_) | (refine T.cnd (fun hc=>?_) (fun hc=>?_) <;> try simp only [bsX,eq_self] at hc) | (refine T.mapL ?_) | (refine T.go ?_ ?_) | (refine T.out ?_) | (refine T.jgo ?_) | (refine T.jout ?_) | (refine T.mapJ ?_) | (refine T.ret ?_))
 all_goals refine ⟨by simp,fun x hx=>?_⟩
 all_goals simp only [List.mem_cons,List.not_mem_nil,or_false] at hx
 all_goals (first | (rcases hx with rfl | rfl | rfl | rfl) | (rcases hx with rfl | rfl | rfl) | (rcases hx with rfl | rfl) | subst hx)
 all_goals exact ⟨by simp,by simp,by simp⟩
theorem AO.w {x:DS5} (h:AO x) (e:x.2.1=1):1≤List.length (α:=ByteArray) x.2.2.1∧List.length (α:=ByteArray) x.2.2.1≤12:=⟨h.1 e,h.2.1⟩
theorem rem_c {a b:Int} (h0:0≤a) (h1:0 < b):0≤iRem a b∧iRem a b < b:=⟨Int.tmod_nonneg _ h0,Int.tmod_lt_of_pos _ h1⟩
theorem attr_part {s:List DS5} {i:Int} (h:SK (s,())) (h0:0≤i) (h1:i < (s.length:Int)):AO (atI s i (ByteArray.empty,0,[],0,0,())):=h.2 _ (at_mem _ h0 h1)
theorem atom_T {L:List Int} {a:Int} (s:DS6) (hs:SK s) (h:DeckOk L a):T (m164 s L a) (fun y=>WE 1 y.1∧DeckOk y.2.1 y.2.2.1):=by
 unfold m164
 obtain ⟨s1,⟨⟩⟩:=s
 have hl:=hs.1
 dsimp only at hl ⊢
 refine T.call (next_T (by assumption) (by rw [lenI_eq]; omega) (by rw [lenI_eq]; omega)) (fun y ⟨d,y0,y1⟩=>?_)
 refine T.grd (by rw [bnd_T]; exact ⟨y0,y1⟩) ?_
 have hx:=attr_part hs y0 (by rw [lenI_eq] at y1; exact y1)
 generalize atI s1 y.1 (ByteArray.empty,0,[],0,0,())=x at hx ⊢
 obtain ⟨x1,x2,x3,x4,x5,⟨⟩⟩:=x
 obtain ⟨b1,b2,b3,b4,b5⟩:=hx
 dsimp only at b1 b2 b3 b4 b5 ⊢
 have hz:=lenI_eq x3
 have he:iAdd .i64 (iSub .i64 x5 x4) 1=x5 - x4 + 1:=by rw [iSub64 (by omega) (by omega),iAdd64 (by omega) (by omega)]
 repeat' (first | (refine T.call (next_T (by assumption) (by first | omega | (rw [lenI_eq]; first | omega | (have:=b1 (by assumption); omega)) | (simp (disch:=omega) only [iAdd64,iSub64]; omega)) (by first | omega | (rw [lenI_eq]; first | omega | (have:=b1 (by assumption); omega)) | (simp (disch:=omega) only [iAdd64,iSub64]; omega))) (fun _ ⟨_,_,_⟩=>?_)) | (refine T.call (range_T (by assumption) (by omega) (by first | omega | (rw [lenI_eq]; first | omega | (have:=b1 (by assumption); omega)) | (simp (disch:=omega) only [iAdd64,iSub64]; omega)) (by first | omega | (rw [lenI_eq]; first | omega | (have:=b1 (by assumption); omega)) | (simp (disch:=omega) only [iAdd64,iSub64]; omega))) (fun _ ⟨_,_,_⟩=>?_)) | (refine T.loop (fun s=>0≤s.1∧0≤s.2.1∧s.1 + s.2.1≤1000∧(1≤List.length (α:=ByteArray) s.2.2.2.2.2.2.2.2.2.2.1∧List.length (α:=ByteArray) s.2.2.2.2.2.2.2.2.2.2.1≤12)∧(List.length (α:=ByteArray) s.2.2.2.2.2.2.2.2.2.2.2.2.2.2.2.2.2.1:Int) + s.2.1≤12∧DeckOk s.2.2.1 s.2.2.2.1) (fun s=>(s.2.1).toNat) ?_ (fun s ⟨j0,j1,j2,⟨j3,j4⟩,j5,j6⟩=>?_)) | (refine T.join (fun j=>x4≤j.1∧j.1≤x5∧j.2.2.2.2.2.2.2.2.2.2.2.1=x5∧DeckOk j.2.1 j.2.2.1) ?_ (fun _ ⟨_,_,_,_⟩=>?_)) | (refine T.grd ?_ ?_) | (refine T.cnd (fun hc=>?_) (fun hc=>?_) <;> try simp only [bsX,eq_self] at hc) | (refine T.mapL ?_) | (refine T.go ?_ ?_) | (refine T.out ?_) | (refine T.jgo ?_) | (refine T.jout ?_) | (refine T.mapJ ?_) | (refine T.ret ?_))
 all_goals (try dsimp only [LQ,JQ])
 all_goals (repeat' (with_reducible refine And.intro ?_ ?_)) <;> first | trivial | assumption | omega | exact WE.leaf (by first | (simp; done) | omega) | (simp; done) | (have:=b1 (by assumption); omega) | (rw [bnd_T,lenI_eq]; exact rem_c (by omega) (by omega)) | (simp only [iMin,iMax]; simp (disch:=omega) only [iAdd64,iSub64]; omega) | (first | (simp (disch:=omega) only [bsX,eq_self,arX]; omega) | (simp (disch:=omega) only [bsX,eq_self,arX]; done)) | (have:=b1 (by assumption); simp; omega) | (simp (disch:=omega) only [iAdd64,iSub64,iMin,iMax] at *; omega)
theorem atom1_T {L:List Int} {a:Int} (s:DS6) (l:List ByteArray) (hs:SK s) (h:DeckOk L a) (hn:l.length≤1000):T (m164_1 s L a l) (fun y=>WE 1 y.1∧DeckOk y.2.1 y.2.2.1∧y.2.2.2.1=l):=by
 unfold m164_1
 obtain ⟨s1,⟨⟩⟩:=s
 have hl:=hs.1
 dsimp only at hl ⊢
 have part:∀ {L:List Int} {a:Int},DeckOk L a→T ((m24 (lenI s1) L a).bind fun y334=> cond (bnd y334.1 (lenI s1))  (cond (iEq ((atI s1 y334.1 (ByteArray.empty,0,[],0,0,())).2.1) 3)  (some ((3,(atI s1 y334.1 (ByteArray.empty,0,[],0,0,())).1,([]:List ByteArray),0,0,([]:List AV),()),y334.2.1,y334.2.2.1,l,()))  (cond (iEq ((atI s1 y334.1 (ByteArray.empty,0,[],0,0,())).2.1) 1)  ((m24 (lenI ((atI s1 y334.1 (ByteArray.empty,0,[],0,0,())).2.2.1)) y334.2.1 y334.2.2.1).bind fun y335=> (m88 1 (lenI ((atI s1 y334.1 (ByteArray.empty,0,[],0,0,())).2.2.1)) y335.2.1 y335.2.2.1).bind fun y336=> loopO (S:=Int × Int × (List Int) × Int × (List ByteArray) × Int × ByteArray × Int × Int × ByteArray × Int × (List ByteArray) × Int × Int × Int × ByteArray × Int × Int × (List ByteArray) × Unit) (R:=DS0 × (List Int) × Int × (List ByteArray) × Unit) (fun s337=> cond (iLt 0 s337.2.1)  (cond (iNe (lenI s337.2.2.2.2.2.2.2.2.2.2.2.1) 0)  (cond (bnd (iRem s337.1 (lenI s337.2.2.2.2.2.2.2.2.2.2.2.1)) (lenI s337.2.2.2.2.2.2.2.2.2.2.2.1))  (cond (fits (List.length s337.2.2.2.2.2.2.2.2.2.2.2.2.2.2.2.2.2.2.1 + List.length ([atI s337.2.2.2.2.2.2.2.2.2.2.2.1 (iRem s337.1 (lenI s337.2.2.2.2.2.2.2.2.2.2.2.1)) ByteArray.empty]:List ByteArray)) 16)  (some (.inl (iAdd .i64 s337.1 1,iSub .i64 s337.2.1 1,s337.2.2.1,s337.2.2.2.1,s337.2.2.2.2.1,s337.2.2.2.2.2.1,s337.2.2.2.2.2.2.1,s337.2.2.2.2.2.2.2.1,s337.2.2.2.2.2.2.2.2.1,s337.2.2.2.2.2.2.2.2.2.1,s337.2.2.2.2.2.2.2.2.2.2.1,s337.2.2.2.2.2.2.2.2.2.2.2.1,s337.2.2.2.2.2.2.2.2.2.2.2.2.1,s337.2.2.2.2.2.2.2.2.2.2.2.2.2.1,s337.2.2.2.2.2.2.2.2.2.2.2.2.2.2.1,s337.2.2.2.2.2.2.2.2.2.2.2.2.2.2.2.1,s337.2.2.2.2.2.2.2.2.2.2.2.2.2.2.2.2.1,s337.2.2.2.2.2.2.2.2.2.2.2.2.2.2.2.2.2.1,s337.2.2.2.2.2.2.2.2.2.2.2.2.2.2.2.2.2.2.1 ++ ([atI s337.2.2.2.2.2.2.2.2.2.2.2.1 (iRem s337.1 (lenI s337.2.2.2.2.2.2.2.2.2.2.2.1)) ByteArray.empty]:List ByteArray),()))) none) none) none)  (some (.inr ((s337.2.2.2.2.2.2.2.2.2.2.2.2.2.2.1,s337.2.2.2.2.2.2.2.2.2.2.2.2.2.2.2.1,s337.2.2.2.2.2.2.2.2.2.2.2.2.2.2.2.2.2.2.1,s337.2.2.2.2.2.2.2.2.2.2.2.2.2.2.2.2.1,s337.2.2.2.2.2.2.2.2.2.2.2.2.2.2.2.2.2.1,([]:List AV),()),s337.2.2.1,s337.2.2.2.1,s337.2.2.2.2.1,()))))  (y335.1,y336.1,y336.2.1,y336.2.2.1,l,0,(bs []),0,0,(atI s1 y334.1 (ByteArray.empty,0,[],0,0,())).1,(atI s1 y334.1 (ByteArray.empty,0,[],0,0,())).2.1,(atI s1 y334.1 (ByteArray.empty,0,[],0,0,())).2.2.1,(atI s1 y334.1 (ByteArray.empty,0,[],0,0,())).2.2.2.1,(atI s1 y334.1 (ByteArray.empty,0,[],0,0,())).2.2.2.2.1,4,(atI s1 y334.1 (ByteArray.empty,0,[],0,0,())).1,0,0,([]:List ByteArray),()))  ((m24 (iAdd .i64 (iSub .i64 ((atI s1 y334.1 (ByteArray.empty,0,[],0,0,())).2.2.2.2.1) ((atI s1 y334.1 (ByteArray.empty,0,[],0,0,())).2.2.2.1)) 1) y334.2.1 y334.2.2.1).bind fun y338=> joinO (S:=Int × (List Int) × Int × (List ByteArray) × Int × ByteArray × Int × Int × ByteArray × Int × (List ByteArray) × Int × Int × Unit) (R:=DS0 × (List Int) × Int × (List ByteArray) × Unit)  ((m24 2 y338.2.1 y338.2.2.1).bind fun y339=> cond (iEq y339.1 0)  ((m24 12 y339.2.1 y339.2.2.1).bind fun y340=> some (.inl (iMin (iMax (iSub .i64 y340.1 4) ((atI s1 y334.1 (ByteArray.empty,0,[],0,0,())).2.2.2.1)) ((atI s1 y334.1 (ByteArray.empty,0,[],0,0,())).2.2.2.2.1),y340.2.1,y340.2.2.1,l,0,(bs []),0,0,(atI s1 y334.1 (ByteArray.empty,0,[],0,0,())).1,(atI s1 y334.1 (ByteArray.empty,0,[],0,0,())).2.1,(atI s1 y334.1 (ByteArray.empty,0,[],0,0,())).2.2.1,(atI s1 y334.1 (ByteArray.empty,0,[],0,0,())).2.2.2.1,(atI s1 y334.1 (ByteArray.empty,0,[],0,0,())).2.2.2.2.1,())))  (some (.inl (iAdd .i64 ((atI s1 y334.1 (ByteArray.empty,0,[],0,0,())).2.2.2.1) y338.1,y339.2.1,y339.2.2.1,l,0,(bs []),0,0,(atI s1 y334.1 (ByteArray.empty,0,[],0,0,())).1,(atI s1 y334.1 (ByteArray.empty,0,[],0,0,())).2.1,(atI s1 y334.1 (ByteArray.empty,0,[],0,0,())).2.2.1,(atI s1 y334.1 (ByteArray.empty,0,[],0,0,())).2.2.2.1,(atI s1 y334.1 (ByteArray.empty,0,[],0,0,())).2.2.2.2.1,()))))  (fun j341=> (m24 (iAdd .i64 (iSub .i64 j341.2.2.2.2.2.2.2.2.2.2.2.2.1 j341.1) 1) j341.2.1 j341.2.2.1).bind fun y342=> (m24 2 y342.2.1 y342.2.2.1).bind fun y343=> cond (iEq y343.1 0)  ((m24 4 y343.2.1 y343.2.2.1).bind fun y344=> some ((5,j341.2.2.2.2.2.2.2.2.1,([]:List ByteArray),j341.1,iMin (iAdd .i64 j341.1 y344.1) j341.2.2.2.2.2.2.2.2.2.2.2.2.1,([]:List AV),()),y344.2.1,y344.2.2.1,j341.2.2.2.1,()))  (some ((5,j341.2.2.2.2.2.2.2.2.1,([]:List ByteArray),j341.1,iAdd .i64 j341.1 y342.1,([]:List AV),()),y343.2.1,y343.2.2.1,j341.2.2.2.1,())))))) none) (fun y=>WE 1 y.1∧DeckOk y.2.1 y.2.2.1∧y.2.2.2.1=l):=by
  intro L a h
  refine T.call (next_T (by assumption) (by rw [lenI_eq]; omega) (by rw [lenI_eq]; omega)) (fun y ⟨d,y0,y1⟩=>?_)
  refine T.grd (by rw [bnd_T]; exact ⟨y0,y1⟩) ?_
  have hx:=attr_part hs y0 (by rw [lenI_eq] at y1; exact y1)
  generalize atI s1 y.1 (ByteArray.empty,0,[],0,0,())=x at hx ⊢
  obtain ⟨x1,x2,x3,x4,x5,⟨⟩⟩:=x
  obtain ⟨b1,b2,b3,b4,b5⟩:=hx
  dsimp only at b1 b2 b3 b4 b5 ⊢
  have hz:=lenI_eq x3
  have he:iAdd .i64 (iSub .i64 x5 x4) 1=x5 - x4 + 1:=by rw [iSub64 (by omega) (by omega),iAdd64 (by omega) (by omega)]
  repeat' (first | (refine T.call (next_T (by assumption) (by first | omega | (rw [lenI_eq]; first | omega | (have:=b1 (by assumption); omega)) | (simp (disch:=omega) only [iAdd64,iSub64]; omega)) (by first | omega | (rw [lenI_eq]; first | omega | (have:=b1 (by assumption); omega)) | (simp (disch:=omega) only [iAdd64,iSub64]; omega))) (fun _ ⟨_,_,_⟩=>?_)) | (refine T.call (range_T (by assumption) (by omega) (by first | omega | (rw [lenI_eq]; first | omega | (have:=b1 (by assumption); omega)) | (simp (disch:=omega) only [iAdd64,iSub64]; omega)) (by first | omega | (rw [lenI_eq]; first | omega | (have:=b1 (by assumption); omega)) | (simp (disch:=omega) only [iAdd64,iSub64]; omega))) (fun _ ⟨_,_,_⟩=>?_)) | (refine T.loop (fun s=>0≤s.1∧0≤s.2.1∧s.1 + s.2.1≤1000∧(1≤List.length (α:=ByteArray) s.2.2.2.2.2.2.2.2.2.2.2.1∧List.length (α:=ByteArray) s.2.2.2.2.2.2.2.2.2.2.2.1≤12)∧(List.length (α:=ByteArray) s.2.2.2.2.2.2.2.2.2.2.2.2.2.2.2.2.2.2.1:Int) + s.2.1≤12∧DeckOk s.2.2.1 s.2.2.2.1∧s.2.2.2.2.1=l) (fun s=>(s.2.1).toNat) ?_ (fun s ⟨j0,j1,j2,⟨j3,j4⟩,j5,j6,j7⟩=>?_)) | (refine T.join (fun j=>x4≤j.1∧j.1≤x5∧j.2.2.2.2.2.2.2.2.2.2.2.2.1=x5∧DeckOk j.2.1 j.2.2.1∧j.2.2.2.1=l) ?_ (fun _ ⟨_,_,_,_,_⟩=>?_)) | (refine T.grd ?_ ?_) | (refine T.cnd (fun hc=>?_) (fun hc=>?_) <;> try simp only [bsX,eq_self] at hc) | (refine T.mapL ?_) | (refine T.go ?_ ?_) | (refine T.out ?_) | (refine T.jgo ?_) | (refine T.jout ?_) | (refine T.mapJ ?_) | (refine T.ret ?_))
  all_goals (try dsimp only [LQ,JQ])
  all_goals (repeat' (with_reducible refine And.intro ?_ ?_)) <;> first | trivial | assumption | omega | exact WE.leaf (by first | (simp; done) | omega) | (simp; done) | (have:=b1 (by assumption); omega) | (rw [bnd_T,lenI_eq]; exact rem_c (by omega) (by omega)) | (simp only [iMin,iMax]; simp (disch:=omega) only [iAdd64,iSub64]; omega) | (first | (simp (disch:=omega) only [bsX,eq_self,arX]; omega) | (simp (disch:=omega) only [bsX,eq_self,arX]; done)) | (have:=b1 (by assumption); simp; omega) | (simp (disch:=omega) only [iAdd64,iSub64,iMin,iMax] at *; omega)
 refine T.cnd (fun hc=>?_) (fun _=>part h)
 simp only [bsX,eq_self] at hc
 refine T.call (next_T h (by omega) (by omega)) (fun u ⟨d0,u0,u1⟩=>T.cnd (fun _=>?_) (fun _=>part d0))
 exact T.call (next_T d0 (by rw [lenI_eq]; omega) (by rw [lenI_eq]; omega)) (fun v ⟨d1,v0,v1⟩=>T.grd (by rw [bnd_T]; exact ⟨v0,v1⟩) (T.grd (by rw [inB_T]; rw [lenI_eq] at v1; omega) (T.ret ⟨WE.leaf (by simp),d1,rfl⟩)))
section
theorem beqL {a b:List ByteArray} (h:b=a):Nat.beq a.length b.length=true:=by rw [h]; exact Nat.beq_refl _
theorem expr0_T {n:Nat} {x:DS6 × Int × List Int × Int × Unit} (h:SK x.1∧DeckOk x.2.2.1 x.2.2.2.1∧x.2.1≤3∧x.2.1≤n∧1≤n):T (iterF (fun self (x:DS6 × Int × List Int × Int × Unit)=>mb131 self x.1 x.2.1 x.2.2.1 x.2.2.2.1) n x) (fun y:DS0 × List Int × Int × Unit=>WE (x.2.1.toNat + 1) y.1∧DeckOk y.2.1 y.2.2.1):=by
 refine T.iter (fun n (x:DS6 × Int × List Int × Int × Unit)=>SK x.1∧DeckOk x.2.2.1 x.2.2.2.1∧x.2.1≤3∧x.2.1≤n∧1≤n) (fun _ x (y:DS0 × List Int × Int × Unit)=>WE (x.2.1.toNat + 1) y.1∧DeckOk y.2.1 y.2.2.1) (fun n x h self hs=>?_) (fun x h=>by have:=h.2.2.2.2; omega) n x h
 unfold mb131
 obtain ⟨hk,hd,h3,h4,h5⟩:=h
 have hk2:SK (x.1.1,()):=hk
 repeat' (first | (refine T.call (next_T (by assumption) (by omega) (by omega)) (fun _ ⟨_,_,_⟩=>?_)) | (refine T.call (range_T (by assumption) (by omega) (by omega) (by omega)) (fun _ ⟨_,_,_⟩=>?_)) | (refine T.call (atom_T _ hk (by assumption)) (fun _ ⟨k0,k1⟩=>?_)) | (refine T.call (hs (_,_,_,_,()) ⟨j4,j3,by dsimp only; simp (disch:=omega) only [j0,iSub64]; omega,by dsimp only; simp (disch:=omega) only [j0,iSub64]; omega,by omega⟩) (fun _ ⟨k0,k1⟩=>?_)) | (refine T.call (hs (_,_,_,_,()) ⟨hk,by assumption,by dsimp only; simp (disch:=omega) only [iSub64]; omega,by dsimp only; simp (disch:=omega) only [iSub64]; omega,by omega⟩) (fun _ ⟨k0,k1⟩=>?_)) | (refine T.loop (fun s=>s.1=x.2.1∧0≤s.2.1∧(List.length (α:=DS0) s.2.2.2.2.2.2.2.2.2.2.2.2.2.1:Int) + s.2.1≤3∧DeckOk s.2.2.1 s.2.2.2.1∧SK (s.2.2.2.2.1,())∧(∀ q ∈ s.2.2.2.2.2.2.2.2.2.2.2.2.2.1,WE x.2.1.toNat q)) (fun s=>(s.2.1).toNat) ?_ (fun s ⟨j0,j1,j2,j3,j4,j5⟩=>?_)) | (refine T.grd ?_ ?_) | (refine T.cnd (fun hc=>?_) (fun hc=>?_) <;> try simp only [bsX,eq_self] at hc) | (refine T.mapL ?_) | (refine T.go ?_ ?_) | (refine T.out ?_) | (refine T.jgo ?_) | (refine T.jout ?_) | (refine T.mapJ ?_) | (refine T.ret ?_))
 all_goals (try dsimp only [LQ,JQ])
 all_goals (repeat' (with_reducible refine And.intro ?_ ?_)) <;> first | trivial | assumption | omega | (first | (simp (disch:=omega) only [bsX,eq_self,arX]; omega) | (simp (disch:=omega) only [bsX,eq_self,arX]; done)) | exact k0.to (by omega) | exact WE.to (k:=1) (WE.leaf (by simp)) (by omega) | exact fun _ hq=>absurd hq List.not_mem_nil | exact hs2 | (have e:x.2.1.toNat=(iSub .i64 x.2.1 1).toNat + 1:=(by rw [iSub64 (by omega) (by omega)]; omega); rw [e]; exact WE.mk (by simp) (by simp) (fun q hq=>by rw [List.mem_singleton.1 hq]; exact k0)) | exact WE.mk (by simp) (by omega) j5 | (refine mem_snoc j5 ?_; have e:x.2.1.toNat=(iSub .i64 s.1 1).toNat + 1:=(by rw [j0,iSub64 (by omega) (by omega)]; omega); rw [e]; exact k0) | exact and_T.mpr ⟨beqL (by assumption),rfl⟩
theorem expr1_T {n:Nat} {x:DS6 × Int × List Int × Int × List ByteArray × Unit} (h:SK x.1∧DeckOk x.2.2.1 x.2.2.2.1∧x.2.1≤3∧x.2.1≤n∧1≤n∧List.length (α:=ByteArray) x.2.2.2.2.1≤1000):T (iterF (fun self (x:DS6 × Int × List Int × Int × List ByteArray × Unit)=>mb131_1 self x.1 x.2.1 x.2.2.1 x.2.2.2.1 x.2.2.2.2.1) n x) (fun y:DS0 × List Int × Int × List ByteArray × Unit=>WE (x.2.1.toNat + 1) y.1∧DeckOk y.2.1 y.2.2.1∧y.2.2.2.1=x.2.2.2.2.1):=by
 refine T.iter (fun n (x:DS6 × Int × List Int × Int × List ByteArray × Unit)=>SK x.1∧DeckOk x.2.2.1 x.2.2.2.1∧x.2.1≤3∧x.2.1≤n∧1≤n∧List.length (α:=ByteArray) x.2.2.2.2.1≤1000) (fun _ x (y:DS0 × List Int × Int × List ByteArray × Unit)=>WE (x.2.1.toNat + 1) y.1∧DeckOk y.2.1 y.2.2.1∧y.2.2.2.1=x.2.2.2.2.1) (fun n x h self hs=>?_) (fun x h=>by have:=h.2.2.2.2.1; omega) n x h
 unfold mb131_1
 obtain ⟨hk,hd,h3,h4,h5,hn⟩:=h
 have hk2:SK (x.1.1,()):=hk
 repeat' (first | (refine T.call (next_T (by assumption) (by omega) (by omega)) (fun _ ⟨_,_,_⟩=>?_)) | (refine T.call (range_T (by assumption) (by omega) (by omega) (by omega)) (fun _ ⟨_,_,_⟩=>?_)) | (refine T.call (atom1_T _ _ hk (by assumption) hn) (fun _ ⟨k0,k1,k2⟩=>?_)) | (refine T.call (hs (_,_,_,_,_,()) ⟨j4,j3,by dsimp only; simp (disch:=omega) only [j0,iSub64]; omega,by dsimp only; simp (disch:=omega) only [j0,iSub64]; omega,by omega,by rw [j6]; exact hn⟩) (fun _ ⟨k0,k1,k2⟩=>?_)) | (refine T.call (hs (_,_,_,_,_,()) ⟨hk,by assumption,by dsimp only; simp (disch:=omega) only [iSub64]; omega,by dsimp only; simp (disch:=omega) only [iSub64]; omega,by omega,hn⟩) (fun _ ⟨k0,k1,k2⟩=>?_)) | (refine T.loop (fun s=>s.1=x.2.1∧0≤s.2.1∧(List.length (α:=DS0) s.2.2.2.2.2.2.2.2.2.2.2.2.2.2.1:Int) + s.2.1≤3∧DeckOk s.2.2.1 s.2.2.2.1∧SK (s.2.2.2.2.2.1,())∧(∀ q ∈ s.2.2.2.2.2.2.2.2.2.2.2.2.2.2.1,WE x.2.1.toNat q)∧s.2.2.2.2.1=x.2.2.2.2.1) (fun s=>(s.2.1).toNat) ?_ (fun s ⟨j0,j1,j2,j3,j4,j5,j6⟩=>?_)) | (refine T.grd ?_ ?_) | (refine T.cnd (fun hc=>?_) (fun hc=>?_) <;> try simp only [bsX,eq_self] at hc) | (refine T.mapL ?_) | (refine T.go ?_ ?_) | (refine T.out ?_) | (refine T.jgo ?_) | (refine T.jout ?_) | (refine T.mapJ ?_) | (refine T.ret ?_))
 all_goals (try dsimp only [LQ,JQ])
 all_goals (repeat' (with_reducible refine And.intro ?_ ?_)) <;> first | trivial | assumption | omega | (first | (simp (disch:=omega) only [bsX,eq_self,arX]; omega) | (simp (disch:=omega) only [bsX,eq_self,arX]; done)) | exact k0.to (by omega) | exact WE.to (k:=1) (WE.leaf (by simp)) (by omega) | exact fun _ hq=>absurd hq List.not_mem_nil | exact hs2 | (have e:x.2.1.toNat=(iSub .i64 x.2.1 1).toNat + 1:=(by rw [iSub64 (by omega) (by omega)]; omega); rw [e]; exact WE.mk (by simp) (by simp) (fun q hq=>by rw [List.mem_singleton.1 hq]; exact k0)) | exact WE.mk (by simp) (by omega) j5 | (refine mem_snoc j5 ?_; have e:x.2.1.toNat=(iSub .i64 s.1 1).toNat + 1:=(by rw [j0,iSub64 (by omega) (by omega)]; omega); rw [e]; exact k0) | exact and_T.mpr ⟨beqL (by assumption),rfl⟩ | exact k2.trans j6 | exact k2 | (rw [k2]; assumption) | (rw [k2]; exact hn)
theorem backs0_T {n:Nat} {x:DS6 × Int × List Int × Int × Unit} (h:SK x.1∧DeckOk x.2.2.1 x.2.2.2.1∧x.2.1≤2∧x.2.1 + 1≤n∧1≤n):T (iterF (fun self (x:DS6 × Int × List Int × Int × Unit)=>mb132 self x.1 x.2.1 x.2.2.1 x.2.2.2.1) n x) (fun y:List AV × List Int × Int × Unit=>WB (x.2.1.toNat + 1) y.1∧DeckOk y.2.1 y.2.2.1):=by
 refine T.iter (fun n (x:DS6 × Int × List Int × Int × Unit)=>SK x.1∧DeckOk x.2.2.1 x.2.2.2.1∧x.2.1≤2∧x.2.1 + 1≤n∧1≤n) (fun _ x (y:List AV × List Int × Int × Unit)=>WB (x.2.1.toNat + 1) y.1∧DeckOk y.2.1 y.2.2.1) (fun n x h self hs=>?_) (fun x h=>by have:=h.2.2.2.2; omega) n x h
 unfold mb132
 obtain ⟨hk,hd,h3,h4,h5⟩:=h
 have hk2:SK (x.1.1,()):=hk
 repeat' (first | (refine T.call (next_T (by assumption) (by omega) (by omega)) (fun _ ⟨_,y0,y1⟩=>?_)) | (refine T.call (expr0_T (n:=10000) (x:=(_,_,_,_,())) ⟨j4,by assumption,by dsimp only; omega,by dsimp only; omega,by omega⟩) (fun _ ⟨k0,k1⟩=>?_)) | (refine T.call (hs (_,_,_,_,()) ⟨j4,by assumption,by dsimp only; simp (disch:=omega) only [j0,iSub64]; omega,by dsimp only; simp (disch:=omega) only [j0,iSub64]; omega,by omega⟩) (fun _ ⟨m0,m1⟩=>?_)) | (refine T.loop (fun s=>s.1=x.2.1∧0≤s.2.1∧(List.length (α:=DS7) s.2.2.2.2.2.1:Int) + s.2.1≤3∧DeckOk s.2.2.1 s.2.2.2.1∧SK (s.2.2.2.2.1,())∧(∀ q ∈ s.2.2.2.2.2.1,WE 10 q.2.1∧WB x.2.1.toNat q.2.2.1)) (fun s=>(s.2.1).toNat) ?_ (fun s ⟨j0,j1,j2,j3,j4,j5⟩=>?_)) | (refine T.grd ?_ ?_) | (refine T.cnd (fun hc=>?_) (fun hc=>?_) <;> try simp only [bsX,eq_self] at hc) | (refine T.mapL ?_) | (refine T.go ?_ ?_) | (refine T.out ?_) | (refine T.jgo ?_) | (refine T.jout ?_) | (refine T.mapJ ?_) | (refine T.ret ?_))
 all_goals (try dsimp only [LQ,JQ])
 all_goals (repeat' (with_reducible refine And.intro ?_ ?_)) <;> first | trivial | assumption | omega | (first | (simp (disch:=omega) only [bsX,eq_self,arX]; omega) | (simp (disch:=omega) only [bsX,eq_self,arX]; done)) | exact fun _ hq=>absurd hq List.not_mem_nil | exact WB.mk (by omega) j5 | exact and_T.mpr ⟨beqL (by assumption),rfl⟩ | (refine mem_snoc j5 ⟨WE.to (k:=3) k0 (by omega),?_⟩; have e:x.2.1.toNat=(iSub .i64 s.1 1).toNat + 1:=(by rw [j0,iSub64 (by omega) (by omega)]; omega); rw [e]; exact m0)
theorem backs1_T {n:Nat} {x:DS6 × Int × List Int × Int × List ByteArray × Unit} (h:SK x.1∧DeckOk x.2.2.1 x.2.2.2.1∧x.2.1≤2∧x.2.1 + 1≤n∧1≤n∧List.length (α:=ByteArray) x.2.2.2.2.1≤1000):T (iterF (fun self (x:DS6 × Int × List Int × Int × List ByteArray × Unit)=>mb132_1 self x.1 x.2.1 x.2.2.1 x.2.2.2.1 x.2.2.2.2.1) n x) (fun y:List AV × List Int × Int × List ByteArray × Unit=>WB (x.2.1.toNat + 1) y.1∧DeckOk y.2.1 y.2.2.1∧y.2.2.2.1=x.2.2.2.2.1):=by
 refine T.iter (fun n (x:DS6 × Int × List Int × Int × List ByteArray × Unit)=>SK x.1∧DeckOk x.2.2.1 x.2.2.2.1∧x.2.1≤2∧x.2.1 + 1≤n∧1≤n∧List.length (α:=ByteArray) x.2.2.2.2.1≤1000) (fun _ x (y:List AV × List Int × Int × List ByteArray × Unit)=>WB (x.2.1.toNat + 1) y.1∧DeckOk y.2.1 y.2.2.1∧y.2.2.2.1=x.2.2.2.2.1) (fun n x h self hs=>?_) (fun x h=>by have:=h.2.2.2.2.1; omega) n x h
 unfold mb132_1
 obtain ⟨hk,hd,h3,h4,h5,hn⟩:=h
 have hk2:SK (x.1.1,()):=hk
 repeat' (first | (refine T.call (next_T (by assumption) (by omega) (by omega)) (fun _ ⟨_,y0,y1⟩=>?_)) | (refine T.call (expr1_T (n:=10000) (x:=(_,_,_,_,_,())) ⟨j4,by assumption,by dsimp only; omega,by dsimp only; omega,by omega,by rw [j6]; exact hn⟩) (fun _ ⟨k0,k1,k2⟩=>?_)) | (refine T.call (hs (_,_,_,_,_,()) ⟨j4,by assumption,by dsimp only; simp (disch:=omega) only [j0,iSub64]; omega,by dsimp only; simp (disch:=omega) only [j0,iSub64]; omega,by omega,by first | exact hn | (rw [j6]; exact hn) | (rw [k2,j6]; exact hn) | (dsimp only at k2 ⊢; rw [k2,j6]; exact hn)⟩) (fun _ ⟨m0,m1,m2⟩=>?_)) | (refine T.loop (fun s=>s.1=x.2.1∧0≤s.2.1∧(List.length (α:=DS7) s.2.2.2.2.2.2.1:Int) + s.2.1≤3∧DeckOk s.2.2.1 s.2.2.2.1∧SK (s.2.2.2.2.2.1,())∧(∀ q ∈ s.2.2.2.2.2.2.1,WE 10 q.2.1∧WB x.2.1.toNat q.2.2.1)∧s.2.2.2.2.1=x.2.2.2.2.1) (fun s=>(s.2.1).toNat) ?_ (fun s ⟨j0,j1,j2,j3,j4,j5,j6⟩=>?_)) | (refine T.grd ?_ ?_) | (refine T.cnd (fun hc=>?_) (fun hc=>?_) <;> try simp only [bsX,eq_self] at hc) | (refine T.mapL ?_) | (refine T.go ?_ ?_) | (refine T.out ?_) | (refine T.jgo ?_) | (refine T.jout ?_) | (refine T.mapJ ?_) | (refine T.ret ?_))
 all_goals (try dsimp only [LQ,JQ])
 all_goals (repeat' (with_reducible refine And.intro ?_ ?_)) <;> first | trivial | assumption | omega | (first | (simp (disch:=omega) only [bsX,eq_self,arX]; omega) | (simp (disch:=omega) only [bsX,eq_self,arX]; done)) | exact fun _ hq=>absurd hq List.not_mem_nil | exact WB.mk (by omega) j5 | exact and_T.mpr ⟨beqL (by assumption),rfl⟩ | (refine mem_snoc j5 ⟨WE.to (k:=3) k0 (by omega),?_⟩; have e:x.2.1.toNat=(iSub .i64 s.1 1).toNat + 1:=(by rw [j0,iSub64 (by omega) (by omega)]; omega); rw [e]; exact m0) | exact m2.trans (k2.trans j6) | exact j6 | exact and_T.mpr ⟨beqL m2,rfl⟩ | exact and_T.mpr ⟨beqL k2,rfl⟩
theorem ex0_T {L:List Int} {a:Int} (s:DS6) (d:Int) (hs:SK s) (h:DeckOk L a) (h3:d≤3):T (m131 s d L a) (fun y=>WE 10 y.1∧DeckOk y.2.1 y.2.2.1) :=
 (expr0_T (n:=10000) (x:=(s,d,L,a,())) ⟨hs,h,h3,by dsimp only; omega,by omega⟩).mono fun y q=>⟨q.1.to (by dsimp only; omega),q.2⟩
theorem ex1_T {L:List Int} {a:Int} (s:DS6) (d:Int) (l:List ByteArray) (hs:SK s) (h:DeckOk L a) (h3:d≤3) (hn:l.length≤1000):T (m131_1 s d L a l) (fun y=>WE 10 y.1∧DeckOk y.2.1 y.2.2.1∧y.2.2.2.1=l) :=
 (expr1_T (n:=10000) (x:=(s,d,L,a,l,())) ⟨hs,h,h3,by dsimp only; omega,by omega,hn⟩).mono fun y q=>⟨q.1.to (by dsimp only; omega),q.2⟩
theorem ba0_T {L:List Int} {a:Int} (s:DS6) (d:Int) (hs:SK s) (h:DeckOk L a) (h3:d≤2):T (m132 s d L a) (fun y=>WB 10 y.1∧DeckOk y.2.1 y.2.2.1) :=
 (backs0_T (n:=10000) (x:=(s,d,L,a,())) ⟨hs,h,h3,by dsimp only; omega,by omega⟩).mono fun y q=>⟨q.1.to (by dsimp only; omega),q.2⟩
theorem ba1_T {L:List Int} {a:Int} (s:DS6) (d:Int) (l:List ByteArray) (hs:SK s) (h:DeckOk L a) (h3:d≤2) (hn:l.length≤1000):T (m132_1 s d L a l) (fun y=>WB 10 y.1∧DeckOk y.2.1 y.2.2.1∧y.2.2.2.1=l) :=
 (backs1_T (n:=10000) (x:=(s,d,L,a,l,())) ⟨hs,h,h3,by dsimp only; omega,by omega,hn⟩).mono fun y q=>⟨q.1.to (by dsimp only; omega),q.2⟩
attribute [local irreducible] m131 m131_1 m132 m132_1
theorem clause0_T {L:List Int} {a:Int} (s:DS6) (k:Int) (p:ByteArray) (hs:SK s) (h:DeckOk L a):T (m85 s k p L a) (fun y=>WC y.1∧DeckOk y.2.1 y.2.2.1):=by
 unfold m85
 repeat' (first | (refine T.call (ex0_T _ _ hs h (by omega)) (fun u ⟨k0,k1⟩=>?_)) | (refine T.call (ba0_T _ _ hs k1 (by omega)) (fun v ⟨m0,m1⟩=>?_)) | (refine T.call (upto_T (by assumption) (by simp (disch:=omega) only [iSub64]; omega) (by simp (disch:=omega) only [iSub64]; omega)) (fun _ ⟨_,_,_⟩=>?_)) | (refine T.call (most_T _) (fun _ ⟨_,_⟩=>?_)) | (refine T.grd ?_ ?_) | (refine T.cnd (fun hc=>?_) (fun hc=>?_) <;> try simp only [bsX,eq_self] at hc) | (refine T.mapL ?_) | (refine T.go ?_ ?_) | (refine T.out ?_) | (refine T.jgo ?_) | (refine T.jout ?_) | (refine T.mapJ ?_) | (refine T.ret ?_))
 all_goals (try dsimp only [LQ,JQ])
 all_goals (repeat' (with_reducible refine And.intro ?_ ?_)) <;> first | trivial | assumption | omega | exact ⟨k0,m0⟩ | exact ⟨k0,WB.to (k:=1) (WB.mk (l:=[]) (by simp) (fun _ hq=>absurd hq List.not_mem_nil)) (by omega)⟩ | (first | (simp (disch:=omega) only [bsX,eq_self,arX]; omega) | (simp (disch:=omega) only [bsX,eq_self,arX]; done))
theorem clause1_T {L:List Int} {a:Int} (s:DS6) (k:Int) (p:ByteArray) (l:List ByteArray) (hn:l.length≤1000) (hs:SK s) (h:DeckOk L a):T (m85_1 s k p L a l) (fun y=>WC y.1∧DeckOk y.2.1 y.2.2.1∧y.2.2.2.1=l):=by
 unfold m85_1
 repeat' (first | (refine T.call (ex1_T _ _ _ hs h (by omega) hn) (fun u ⟨k0,k1,k2⟩=>?_)) | (refine T.call (ba1_T _ _ _ hs k1 (by omega) (by rw [k2]; exact hn)) (fun v ⟨m0,m1,m2⟩=>?_)) | (refine T.call (upto_T (by assumption) (by simp (disch:=omega) only [iSub64]; omega) (by simp (disch:=omega) only [iSub64]; omega)) (fun _ ⟨_,_,_⟩=>?_)) | (refine T.call (most_T _) (fun _ ⟨_,_⟩=>?_)) | (refine T.grd ?_ ?_) | (refine T.cnd (fun hc=>?_) (fun hc=>?_) <;> try simp only [bsX,eq_self] at hc) | (refine T.mapL ?_) | (refine T.go ?_ ?_) | (refine T.out ?_) | (refine T.jgo ?_) | (refine T.jout ?_) | (refine T.mapJ ?_) | (refine T.ret ?_))
 all_goals (try dsimp only [LQ,JQ])
 all_goals (repeat' (with_reducible refine And.intro ?_ ?_)) <;> first | trivial | assumption | omega | exact ⟨k0,m0⟩ | exact ⟨k0,WB.to (k:=1) (WB.mk (l:=[]) (by simp) (fun _ hq=>absurd hq List.not_mem_nil)) (by omega)⟩ | exact m2.trans k2 | exact k2 | exact and_T.mpr ⟨beqL m2,rfl⟩ | exact and_T.mpr ⟨beqL k2,rfl⟩ | (first | (simp (disch:=omega) only [bsX,eq_self,arX]; omega) | (simp (disch:=omega) only [bsX,eq_self,arX]; done))
end
section
theorem bsI_size (l:List Int):(bsI l).size=l.length:=by simp [bsI,ByteArray.size]
theorem sCat_size (a b:ByteArray):(sCat a b).size=a.size + b.size:=by simp [sCat]
theorem sFits_of {a b:ByteArray} (ha:a.size≤2000) (hb:b.size≤2000):sFits a b=true:=by unfold sFits; exact decide_eq_true (by omega)
theorem letters_T (p:ByteArray) (k:Int) (h:p.size≤1000):T (m86 p k) (fun _=>True):=by
 unfold m86
 exact T.grd rfl (T.grd rfl (T.grd rfl (T.grd (sFits_of (by omega) (by rw [bsI_size]; simp)) (T.ret trivial))))
attribute [local irreducible] m89 m50 m85 m85_1
theorem clauses48_T {L:List Int} {a:Int} (s:DS6) (n:Int) (p:ByteArray) (hs:SK s) (h:DeckOk L a) (n0:0≤n) (n1:n≤6) (hp:p.size≤1000):T (m48 s n p L a) (fun y=>DeckOk y.1 y.2.1∧CW 7 y.2.2.1∧1≤List.length y.2.2.1):=by
 unfold m48
 refine T.call (letters_T _ _ hp) (fun u _=>T.call (clause0_T _ _ _ hs h) (fun v ⟨v0,v1⟩=>?_))
 refine T.join (fun j=>n=j.1∧p=j.2.1∧DeckOk j.2.2.1 j.2.2.2.1∧SK (j.2.2.2.2.1,())∧List.length j.2.2.2.2.2.1=1∧∀ c ∈ j.2.2.2.2.2.1,WC c) ?_ (fun j hj=>?_)
 ·refine T.call (next_T v1 (by omega) (by omega)) (fun w ⟨w0,_,_⟩=>T.cnd (fun _=>T.grd rfl (T.grd rfl (T.jgo ⟨rfl,rfl,w0,hs,rfl,fun c hc=>?_⟩))) (fun _=>T.jgo ⟨rfl,rfl,w0,hs,rfl,fun c hc=>?_⟩))
  ·rw [List.mem_singleton.1 hc]; exact ⟨WE.to (k:=1) (WE.leaf (by simp)) (by omega),v0.2⟩
  ·rw [List.mem_singleton.1 hc]; exact v0
 obtain ⟨_,_,L,a,s5,l,⟨⟩⟩:=j
 obtain ⟨rfl,rfl,hd,hk,hl,hw⟩:=hj
 dsimp only at hd hk hl hw ⊢
 refine T.loop (fun s=>n=s.1∧p=s.2.1∧(1≤s.2.2.1∧s.2.2.1≤n + 1)∧DeckOk s.2.2.2.1 s.2.2.2.2.1∧s5=s.2.2.2.2.2.1∧(List.length (α:=ByteArray) s.2.2.2.2.2.2.1:Int)≤s.2.2.1∧(1≤List.length (α:=DS1) s.2.2.2.2.2.2.2.1∧(List.length (α:=DS1) s.2.2.2.2.2.2.2.1:Int)≤s.2.2.1)∧∀ c ∈ s.2.2.2.2.2.2.2.1,WC c) (fun s=>(n + 1 - s.2.2.1).toNat) ⟨rfl,rfl,⟨by simp,by dsimp only; omega⟩,hd,rfl,by simp,⟨by dsimp only; omega,by dsimp only; omega⟩,hw⟩ ?_
 clear hw hl hd
 rintro ⟨_,_,k,L,a,_,nm,l,⟨⟩⟩ ⟨rfl,rfl,⟨k0,k1⟩,hd,rfl,hn,⟨l0,l1⟩,hw⟩
 dsimp only at k0 k1 hd hn l0 l1 hw ⊢
 refine T.cnd (fun hc=>?_) (fun hc=>T.out ⟨hd,⟨by dsimp only; omega,hw⟩,l0⟩)
 simp only [bsX,eq_self] at hc
 refine T.callE (show m87 _ _=some _ from rfl) (T.cnd (fun _=>?_) (fun _=>T.out ⟨hd,⟨by dsimp only; omega,hw⟩,l0⟩))
 refine T.call (range_T hd (by omega) (by omega) (by omega)) (fun x ⟨x0,_,_⟩=>T.call (letters_T _ _ hp) (fun y _=>T.call (clause1_T _ _ _ _ (by omega) hk x0) (fun z ⟨z0,z1,z2⟩=>?_)))
 have hcb:CB (([] ++ l) ++ [z.1]):=⟨by simp; omega,mem_snoc hw z0⟩
 have hz:(List.length (α:=ByteArray) z.2.2.2.1:Int)≤k:=by rw [z2]; exact hn
 refine T.grd (and_T.mpr ⟨beqL z2,rfl⟩) (T.grd (by rw [fits_T]; simp; omega) (T.grd (by rw [fits_T]; simp; omega) (T.call (clauses_T _ _ hk.sb hcb) (fun e _=>T.cnd (fun _=>T.go ⟨rfl,rfl,⟨?_,?_⟩,z1,rfl,?_,⟨l0,?_⟩,hw⟩ ?_) (fun _=>T.cnd (fun _=>T.grd (by rw [fits_T]; simp; omega) (T.go ⟨rfl,rfl,⟨?_,?_⟩,z1,rfl,?_,⟨?_,?_⟩,mem_snoc hw z0⟩ ?_)) (fun _=>T.go ⟨rfl,rfl,⟨?_,?_⟩,z1,rfl,?_,⟨?_,?_⟩,mem_snoc hw z0⟩ ?_))))))
 all_goals dsimp only
 all_goals (try rw [iAdd64 (by omega) (by omega)])
 all_goals (try simp only [List.length_append,List.length_cons,List.length_nil])
 all_goals omega
end
section
attribute [local irreducible] m48 m50
theorem wording22_T {L:List Int} {a:Int} (s:DS6) (b:Bool) (hs:SK s) (h:DeckOk L a):T (m22 s 6 b L a) (fun y=>CW 7 y.2.2.1∧1≤List.length y.2.2.1):=by
 unfold m22
 refine T.call (clauses48_T _ _ _ hs h (by omega) (by omega) (by decide)) (fun u ⟨u0,u1,u2⟩=>T.call (next_T u0 (by omega) (by omega)) (fun v ⟨v0,v1,v2⟩=>?_))
 obtain ⟨s5,⟨⟩⟩:=s
 refine T.loop (fun s=>(0≤s.2.1∧s.2.1≤2)∧DeckOk s.2.2.1 s.2.2.2.1∧s5=s.2.2.2.2.1∧CW 7 s.2.2.2.2.2.1∧1≤List.length (α:=DS1) s.2.2.2.2.2.1∧(List.length (α:=DS3) s.2.2.2.2.2.2.1:Int) + s.2.1≤2∧∀ x ∈ s.2.2.2.2.2.2.1,EW x) (fun s=>s.2.1.toNat) ⟨⟨v1,by dsimp only; omega⟩,v0,rfl,u1,u2,by simp; omega,fun x hx=>absurd hx List.not_mem_nil⟩ ?_
 rintro ⟨b,k,L,a,_,cl,en,⟨⟩⟩ ⟨⟨k0,k1⟩,hd,rfl,hc,hl,he,hw⟩
 dsimp only at k0 k1 hd hc hl he hw ⊢
 refine T.cnd (fun hg=>?_) (fun _=>T.out ⟨hc,hl⟩)
 simp only [bsX,eq_self] at hg
 refine T.call (period_T hd) (fun p hp=>T.cnd (fun _=>T.go ⟨⟨?_,?_⟩,hp,rfl,hc,hl,?_,hw⟩ ?_) (fun _=>?_))
 ·dsimp only; rw [iSub64 (by omega) (by omega)]; omega
 ·dsimp only; rw [iSub64 (by omega) (by omega)]; omega
 ·dsimp only; rw [iSub64 (by omega) (by omega)]; omega
 ·dsimp only; rw [iSub64 (by omega) (by omega)]; omega
 have h1:∀ z:Int,(bsI [z]).size=1:=fun z=>bsI_size [z]
 have h2:ByteArray.size (bs [101])=1:=rfl
 have h3:ByteArray.size (bs [45])=1:=rfl
 refine T.grd (sFits_of (by omega) (by rw [h1]; omega)) (T.grd (sFits_of (by rw [sCat_size,h1]; omega) (by omega)) ?_)
 refine T.call (clauses48_T _ _ _ hs hp (by omega) (by omega) (by rw [sCat_size,sCat_size,h1]; omega)) (fun u ⟨u0,u1,u2⟩=>?_)
 refine T.loop (fun q=>k=q.2.1∧0≤q.2.2.1∧DeckOk q.2.2.2.1 q.2.2.2.2.1∧s5=q.2.2.2.2.2.1∧cl=q.2.2.2.2.2.2.2.2.1∧en=q.2.2.2.2.2.2.2.2.2.1∧(List.length (α:=ByteArray) q.2.2.2.2.2.2.2.2.2.2.1:Int)≤q.2.2.1∧q.2.2.1≤7∧CW 7 q.2.2.2.2.2.2.2.2.2.2.2.1) (fun q=>((List.length cl:Int) - q.2.2.1).toNat) ⟨rfl,by simp,u0,rfl,rfl,rfl,by simp,by simp,u1⟩ ?_
 have hc7:=hc.1
 rintro ⟨b,_,i,L,a,_,f,t,_,_,rm,xc,⟨⟩⟩ ⟨rfl,i0,hd,rfl,rfl,rfl,i1,i2,hx⟩
 dsimp only at i0 hd i1 i2 hx ⊢
 refine T.cnd (fun hi=>?_) (fun hi=>?_) <;> simp only [bsX,eq_self] at hi
 ·have hn:i.toNat < cl.length:=by omega
  refine T.call (next_T hd (by omega) (by omega)) (fun v ⟨v0,_,_⟩=>T.cnd (fun _=>T.grd (by rw [bnd_T,lenI_eq]; omega) (T.grd (by rw [inB_T]; exact hn) (T.grd (by rw [fits_T]; simp; omega) (T.go ⟨rfl,?_,v0,rfl,rfl,rfl,?_,?_,hx⟩ ?_)))) (fun _=>T.go ⟨rfl,?_,v0,rfl,rfl,rfl,?_,?_,hx⟩ ?_))
  all_goals dsimp only
  all_goals rw [iAdd64 (by omega) (by omega)]
  all_goals (try simp only [List.length_append,List.length_cons,List.length_nil])
  all_goals omega
 refine T.map (T.call (next_T hd (by omega) (by omega)) (fun v ⟨v0,_,_⟩=>?_))
 have fin:∀ (j:Bool × Int × List Int × Int × List DS5 × Int × Int × List ByteArray × List DS1 × List DS1 × List DS3 × Unit),(k=j.2.1∧DeckOk j.2.2.1 j.2.2.2.1∧s5=j.2.2.2.2.1∧List.length (α:=ByteArray) j.2.2.2.2.2.2.2.1≤1000∧CW 7 j.2.2.2.2.2.2.2.2.1∧cl=j.2.2.2.2.2.2.2.2.2.1∧en=j.2.2.2.2.2.2.2.2.2.2.1)→T (cond (fits (List.length ([]:List DS3) + List.length j.2.2.2.2.2.2.2.2.2.2.1) 64)  (cond (fits (List.length (([]:List DS3) ++ j.2.2.2.2.2.2.2.2.2.2.1) + List.length ([((j.2.2.2.2.2.1,j.2.2.2.2.2.2.1,()),j.2.2.2.2.2.2.2.1,j.2.2.2.2.2.2.2.2.1,())]:List DS3)) 64)  ((m50 (j.2.2.2.2.1,()) (j.2.2.2.2.2.2.2.2.2.1,(([]:List DS3) ++ j.2.2.2.2.2.2.2.2.2.2.1) ++ ([((j.2.2.2.2.2.1,j.2.2.2.2.2.2.1,()),j.2.2.2.2.2.2.2.1,j.2.2.2.2.2.2.2.2.1,())]:List DS3),())).bind fun y516=> cond (cond (iEq y516.2.2.1 0) true (not j.1))  (some (.inl (j.1,iSub .i64 j.2.1 1,j.2.2.1,j.2.2.2.1,j.2.2.2.2.1,j.2.2.2.2.2.2.2.2.2.1,(([]:List DS3) ++ j.2.2.2.2.2.2.2.2.2.2.1) ++ ([((j.2.2.2.2.2.1,j.2.2.2.2.2.2.1,()),j.2.2.2.2.2.2.2.1,j.2.2.2.2.2.2.2.2.1,())]:List DS3),())))  (some (.inl (j.1,iSub .i64 j.2.1 1,j.2.2.1,j.2.2.2.1,j.2.2.2.2.1,j.2.2.2.2.2.2.2.2.2.1,j.2.2.2.2.2.2.2.2.2.2.1,())))) none) none) (LQ (fun s=>(0≤s.2.1∧s.2.1≤2)∧DeckOk s.2.2.1 s.2.2.2.1∧s5=s.2.2.2.2.1∧CW 7 s.2.2.2.2.2.1∧1≤List.length (α:=DS1) s.2.2.2.2.2.1∧(List.length (α:=DS3) s.2.2.2.2.2.2.1:Int) + s.2.1≤2∧∀ x ∈ s.2.2.2.2.2.2.1,EW x) (fun s=>s.2.1.toNat) k.toNat (fun (y:List Int × Int × List DS1 × List DS3 × Unit)=>CW 7 y.2.2.1∧1≤List.length y.2.2.1)):=by
  rintro ⟨b,_,L,a,_,f,t,rm,xc,_,_,⟨⟩⟩ ⟨rfl,d,rfl,r,x,rfl,rfl⟩
  dsimp only at d r x ⊢
  have hE:∀ e ∈ ([] ++ en) ++ [((f,t,()),rm,xc,())],EW e:=mem_snoc hw ⟨r,by have:=x.1; dsimp only; omega,x.2⟩
  refine T.grd (by rw [fits_T]; simp; omega) (T.grd (by rw [fits_T]; simp; omega) (T.call (check_T _ (cl,_,()) hs.sb ⟨⟨by dsimp only; omega,hc.2⟩,by simp; omega,hE⟩) (fun _ _=>T.cnd (fun _=>T.go ⟨⟨?_,?_⟩,d,rfl,hc,hl,?_,hE⟩ ?_) (fun _=>T.go ⟨⟨?_,?_⟩,d,rfl,hc,hl,?_,hw⟩ ?_))))
  all_goals dsimp only
  all_goals rw [iSub64 (by omega) (by omega)]
  all_goals (try simp only [List.length_append,List.length_cons,List.length_nil])
  all_goals omega
 refine T.cnd (fun _=>T.grd (by rw [bnd_T,lenI_eq]; omega) (T.grd (by rw [inB_T]; simp; omega) (T.grd (by rw [fits_T]; simp) (T.join _ (T.jgo ⟨rfl,v0,rfl,?_,⟨by simp,?_⟩,rfl,rfl⟩) fin)))) (fun _=>T.join _ (T.jgo ⟨rfl,v0,rfl,?_,hx,rfl,rfl⟩) fin)
 ·dsimp only; omega
 ·exact mem_snoc (fun x hx=>absurd hx List.not_mem_nil) (hc.2 _ (getD_mem _ (by simp; omega)))
 ·dsimp only; omega
end
section
attribute [local irreducible] m22
theorem made_T (L:List Int) (h:L.length≤9223372036854775807):T (m10 L) (fun y=>CW 7 y.1.1∧1≤List.length (α:=DS1) y.1.1):=by
 unfold m10
 have hd:DeckOk L 0:=⟨h,Int.le_refl _⟩
 exact T.callE (show m14 L=some _ from rfl) (T.call (next_T hd (by omega) (by omega)) (fun u ⟨u0,_,_⟩=>T.call (kind_T _) (fun s hs=>T.call (wording22_T _ _ hs u0) (fun y q=>T.ret q))))
def fnd (s:ByteArray):List DS1→Int→Int × Bool × Unit
 | [],_=>(0,false,())
 | c :: l,k=>cond (sEq c.2.1 s) (k,true,()) (fnd s l (k + 1))
theorem fnd_at {s:ByteArray} {l:List DS1} {k:Int} (h0:0≤k) (h1:k < (l.length:Int)):fnd s (l.drop k.toNat) k=cond (sEq (atI l k (0,ByteArray.empty,(0,ByteArray.empty,[],0,0,[],()),[],0,())).2.1 s) (k,true,()) (fnd s (l.drop (k + 1).toNat) (k + 1)):=by
 have h:k.toNat < l.length:=by omega
 rw [List.drop_eq_getElem_cons h,show (k + 1).toNat=k.toNat + 1 by omega]
 unfold atI
 rw [List.getD_eq_getElem?_getD,List.getElem?_eq_getElem h]
 rfl
theorem fnd_end {s:ByteArray} {l:List DS1} {k:Int} (h:(l.length:Int)≤k):fnd s (l.drop k.toNat) k=(0,false,()):=by rw [List.drop_eq_nil_of_le (by omega)]; rfl
theorem find9_m (l:List DS1) (s:ByteArray) (h:Bd l.length):m9 l s=some (fnd s l 0):=by
 refine T.eq ?_
 unfold m9
 refine T.loop (fun q=>l=q.1∧s=q.2.1∧0≤q.2.2.1∧fnd s (l.drop q.2.2.1.toNat) q.2.2.1=fnd s l 0) (fun q=>((l.length:Int) - q.2.2.1).toNat) ⟨rfl,rfl,by simp,rfl⟩ ?_
 rintro ⟨_,_,k,⟨⟩⟩ ⟨rfl,rfl,k0,hf⟩
 dsimp only at k0 hf ⊢
 refine T.cnd (fun hc=>?_) (fun hc=>?_) <;> simp only [bsX,eq_self] at hc
 ·rw [fnd_at k0 hc] at hf
  refine T.grd (by rw [bnd_T,lenI_eq]; omega) (T.cnd (fun hd=>T.out ?_) (fun hd=>T.go ⟨rfl,rfl,?_,?_⟩ ?_)) <;> rw [hd] at hf
  ·exact hf
  all_goals dsimp only
  all_goals rw [iAdd64 (by omega) (by omega)]
  ·omega
  ·exact hf
  ·omega
 ·rw [fnd_end hc] at hf
  exact T.out hf
theorem find8_m (l:List DS1) (s:ByteArray) (h:Bd l.length):m8 l s=some (fnd s l 0):=by
 refine T.eq ?_
 unfold m8
 refine T.loop (fun q=>s=q.1∧l=q.2.1∧lenI l=q.2.2.1∧0≤q.2.2.2.1∧fnd s (l.drop q.2.2.2.1.toNat) q.2.2.2.1=fnd s l 0) (fun q=>((l.length:Int) - q.2.2.2.1).toNat) ⟨rfl,rfl,rfl,by simp,rfl⟩ ?_
 rintro ⟨_,_,_,k,⟨⟩⟩ ⟨rfl,rfl,rfl,k0,hf⟩
 dsimp only at k0 hf ⊢
 refine T.cnd (fun hc=>?_) (fun hc=>?_) <;> simp only [bsX,eq_self] at hc
 ·rw [fnd_at k0 hc] at hf
  refine T.grd (by rw [bnd_T,lenI_eq]; omega) (T.cnd (fun hd=>T.out ?_) (fun hd=>T.go ⟨rfl,rfl,rfl,?_,?_⟩ ?_)) <;> rw [hd] at hf
  ·exact hf
  all_goals dsimp only
  all_goals rw [iAdd64 (by omega) (by omega)]
  ·omega
  ·exact hf
  ·omega
 ·rw [fnd_end hc] at hf
  exact T.out hf
theorem law_find (l:List DS1) (s:ByteArray) (L:List Int) (t:Int) (h2:L.length≤9223372036854775807):m3 l s L t=some (true,()):=by
 refine T.eq ?_
 unfold m3
 refine T.cnd (fun _=>T.callE (show m7=some _ from rfl) (T.ret rfl)) (fun h1=>?_)
 rw [iLt_F,lenI_eq] at h1
 refine T.loop (fun q=>Bd (List.length q.1)∧L=q.2.2.1∧0≤q.2.2.2.2.1) (fun q=>(2 - q.2.2.2.2.1).toNat) ⟨by dsimp only; omega,rfl,by simp⟩ ?_
 rintro ⟨l,s,_,t,i,⟨⟩⟩ ⟨hl,rfl,i0⟩
 dsimp only at hl i0 ⊢
 refine T.cnd (fun hc=>?_) (fun _=>T.map (T.callE (show m7=some _ from rfl) (T.ret rfl)))
 simp only [bsX,eq_self] at hc
 refine T.callE (find8_m l s hl) (T.callE (find9_m l s hl) (T.cf ?_ (T.call (made_T L h2) (fun y ⟨⟨y0,_⟩,y1⟩=>?_))))
 ·rw [corT_F,iNe_F,not_F]
  exact ⟨rfl,by cases (fnd s l 0).2.1 <;> rfl⟩
 have hz:(([] ++ y.1.1) ++ y.1.1).length=y.1.1.length + y.1.1.length:=by simp
 refine T.grd (by rw [fits_T]; simp; omega) (T.grd (by rw [fits_T]; simp; omega) (T.call (within_T t (by rw [lenI_eq,hz]; omega) (by rw [lenI_eq,hz]; omega)) (fun u ⟨u0,u1⟩=>T.grd (by rw [bnd_T]; exact ⟨u0,u1⟩) (T.grd (by rw [inB_T]; rw [lenI_eq] at u1; omega) (T.go ⟨?_,rfl,?_⟩ ?_)))))
 ·dsimp only; rw [hz]; omega
 ·dsimp only; rw [iAdd64 (by omega) (by omega)]; omega
 ·dsimp only; rw [iAdd64 (by omega) (by omega)]; omega
end
section
open Go.RowKit
def offOk:Nat→List (Nat × List Value)→Option (List Value)
 | _,[]=>some []
 | o,(p,vs) :: r=>if p=o then match offOk (o + vs.length) r with
   | some ws=>some (vs ++ ws)
   | none=>none
  else none
theorem offOk_part (cs:List Value):∀ (l:List (Nat × List Value)) (o:Nat) (vs:List Value),offOk o l=some vs→(∀ q ∈ l,(cs.drop q.1).take q.2.length=q.2)→(cs.drop o).take vs.length=vs
 | [],o,vs,h,_=>by cases h; simp
 | (p,ws) :: r,o,vs,h,hq=>by
  simp only [offOk] at h
  split at h
  ·rename_i hp
   subst hp
   split at h
   ·rename_i us hu
    cases h
    have h1:=hq (p,ws) (by simp)
    have h2:=offOk_part cs r (p + ws.length) us hu fun q hq'=>hq q (List.mem_cons_of_mem _ hq')
    simp only at h1
    rw [List.length_append,List.take_add,h1,List.drop_drop,h2]
   ·cases h
  ·cases h
def cellsD (P:Program):Nat→TypeId→DataW Unit→Option (List Value)
 | 0,_,_=>none
 | n + 1,t,D=>match P.underlying t with
  | some .bool=>match D with
   | .lit (.bool b)=>some [.bool b]
   | _=>none
  | some (.int k)=>match D with
   | .lit (.int k' z)=>if k'=k then some [.int k z] else none
   | _=>none
  | some .string=>match D with
   | .lit (.string bs)=>some [.string ⟨⟨bs⟩⟩]
   | _=>none
  | some (.struct fs)=>match D with
   | .agg ds=>if fs.toList.length=ds.length then match (fs.toList.zip ds).mapM (fun q=>match cellsD P n q.1.type q.2 with | some vs=>if vs.length=P.cellsOf q.1.type then some (q.1.offset,vs) else none | none=>none) with
     | some l=>match offOk 0 l with
      | some vs=>if vs.length=P.cellsOf t then some vs else none
      | none=>none
     | none=>none
    else none
   | _=>none
  | some (.array m e)=>match D with
   | .agg ds=>if m=ds.length then match ((List.range m).zip ds).mapM (fun q=>match cellsD P n e q.2 with | some vs=>if vs.length=P.cellsOf e then some (q.1 * P.cellsOf e,vs) else none | none=>none) with
     | some l=>match offOk 0 l with
      | some vs=>if vs.length=P.cellsOf t then some vs else none
      | none=>none
     | none=>none
    else none
   | _=>none
  | _=>none
theorem mapM_mem {α β:Type} {f:α→Option β}:∀ {l:List α} {r:List β},l.mapM f=some r→∀ b ∈ r,∃ (i:Nat) (a:α),l[i]?=some a∧f a=some b
 | [],r,h,b,hb=>by simp at h; subst h; simp at hb
 | x :: l,r,h,b,hb=>by
  simp only [List.mapM_cons,Option.bind_eq_bind,Option.bind_eq_some_iff,Option.pure_def,Option.some.injEq] at h
  obtain ⟨c,hc,r',hr',rfl⟩:=h
  rcases List.mem_cons.1 hb with rfl | hb
  ·exact ⟨0,x,rfl,hc⟩
  ·obtain ⟨i,a,h1,h2⟩:=mapM_mem hr' b hb
   exact ⟨i + 1,a,by simpa using h1,h2⟩
theorem cellsD_ok {P:Program} {w:World} {base:Nat} {sp:Nat→Bool} {held:Bool} {enc:TypeId × Value→Unit}:∀ (n:Nat) (t:TypeId) (D:DataW Unit) (vs:List Value) (fuel:Nat) (cs:List Value) (p:List MemPlace),
  cellsD P n t D=some vs→DataW.trod enc P w base sp held fuel t cs=some (D,p)→cs=vs
 | 0,t,D,vs,fuel,cs,p,h,_=>by cases h
 | n + 1,t,D,vs,0,cs,p,h,ht=>by cases ht
 | n + 1,t,D,vs,fuel + 1,cs,p,h,ht=>by
  have ih:=cellsD_ok (P:=P) (w:=w) (base:=base) (sp:=sp) (held:=held) (enc:=enc) n
  simp only [cellsD] at h
  split at h
  ·rename_i hu
   split at h
   ·rename_i b
    cases h
    simp only [DataW.trod,hu] at ht
    split at ht <;> first
     | (simp only [Option.some.injEq,Prod.mk.injEq,DataW.lit.injEq,Lit.bool.injEq] at ht; obtain ⟨rfl,_⟩:=ht; rfl)
     | simp_all
   ·cases h
  ·rename_i k hu
   split at h
   ·rename_i k' z
    split at h
    ·rename_i hk
     subst hk
     cases h
     obtain ⟨z',hc,he,_⟩:=DataW.trod_int hu ht
     have e:=(Prod.mk.inj he).1
     simp only [DataW.lit.injEq,Lit.int.injEq,true_and] at e
     rw [hc,e]
    ·cases h
   ·cases h
  ·rename_i hu
   split at h
   ·rename_i bs
    cases h
    simp only [DataW.trod,hu] at ht
    split at ht <;> first
     | (split at ht <;> first
       | (simp only [Option.some.injEq,Prod.mk.injEq,DataW.lit.injEq,Lit.string.injEq] at ht; obtain ⟨rfl,_⟩:=ht; rfl)
       | cases ht)
     | simp_all
   ·cases h
  ·rename_i fs hu
   split at h
   ·rename_i ds
    split at h
    ·rename_i hlen
     split at h
     ·rename_i l hl
      split at h
      ·rename_i us hus
       split at h
       ·rename_i hsz
        cases h
        simp only [DataW.trod,hu] at ht
        split at ht
        ·rename_i hcl
         obtain ⟨xs,hm,hx⟩:=Option.map_eq_some_iff.1 ht
         simp only [Prod.mk.injEq,DataW.agg.injEq] at hx
         have hxs:=hx.1
         have:=offOk_part cs l 0 vs hus fun q hq=>by
          obtain ⟨i,a,h1,h2⟩:=mapM_mem hl q hq
          obtain ⟨f,d⟩:=a
          obtain ⟨g1,g2⟩:=List.getElem?_zip_eq_some.1 h1
          simp only at h2
          split at h2
          ·rename_i ws hws
           split at h2
           ·rename_i hwl
            cases h2
            obtain ⟨b,hb,hf⟩:=Lib.mapM_at hm i f g1
            have hbd:b.1=d:=by
             have:(xs.map (·.1))[i]?=some b.1:=by simp [hb]
             rw [hxs,g2] at this
             exact (Option.some.inj this).symm
            obtain ⟨b1,b2⟩:=b
            simp only at hbd
            subst hbd
            have:=ih f.type b1 ws fuel _ _ hws hf
            simp only
            rw [hwl]; exact this
           ·cases h2
          ·cases h2
         rw [List.drop_zero,List.take_of_length_le (by omega)] at this
         exact this
        ·cases ht
       ·cases h
      ·cases h
     ·cases h
    ·cases h
   ·cases h
  ·rename_i m e hu
   split at h
   ·rename_i ds
    split at h
    ·rename_i hlen
     split at h
     ·rename_i l hl
      split at h
      ·rename_i us hus
       split at h
       ·rename_i hsz
        cases h
        simp only [DataW.trod,hu] at ht
        split at ht
        ·rename_i hcl
         obtain ⟨xs,hm,hx⟩:=Option.map_eq_some_iff.1 ht
         simp only [Prod.mk.injEq,DataW.agg.injEq] at hx
         have hxs:=hx.1
         have:=offOk_part cs l 0 vs hus fun q hq=>by
          obtain ⟨i,a,h1,h2⟩:=mapM_mem hl q hq
          obtain ⟨f,d⟩:=a
          obtain ⟨g1,g2⟩:=List.getElem?_zip_eq_some.1 h1
          simp only at h2
          split at h2
          ·rename_i ws hws
           split at h2
           ·rename_i hwl
            cases h2
            obtain ⟨b,hb,hf⟩:=Lib.mapM_at hm i f g1
            have hbd:b.1=d:=by
             have:(xs.map (·.1))[i]?=some b.1:=by simp [hb]
             rw [hxs,g2] at this
             exact (Option.some.inj this).symm
            obtain ⟨b1,b2⟩:=b
            simp only at hbd
            subst hbd
            have:=ih e b1 ws fuel _ _ hws hf
            simp only
            rw [hwl]; exact this
           ·cases h2
          ·cases h2
         rw [List.drop_zero,List.take_of_length_le (by omega)] at this
         exact this
        ·cases ht
       ·cases h
      ·cases h
     ·cases h
    ·cases h
   ·cases h
  ·cases h
theorem var_of_head {P:Program} {W:World} {name:String} {D:DataW Unit} {rest:List (String × DataW Unit)} {g n:Nat} {t:TypeId} {vs:List Value} (hg:P.globalNamed name=some g) (hty:(P.globals[g]?).map (·.type)=some t) (hc:cellsD P n t D=some vs) (h:laidMet P ((name,D) :: rest) W):W.var? P name=some vs.toArray:=by
 obtain ⟨ps,⟨g',t',cs,fuel,p,q,hg',ht',hvar,hd,_,_⟩,_⟩:=h
 obtain rfl:=Option.some.inj (hg.symm.trans hg')
 obtain rfl:=Option.some.inj (hty.symm.trans ht')
 rw [hvar,← cellsD_ok n t D vs fuel cs.toList p hc hd]
theorem lptr_of_var {P:Program} {W:World} {name:String} {g:Nat} {vs:List Value} (hg:P.globalNamed name=some g) (hv:W.var? P name=some vs.toArray) (h1:vs.all (·.oneCell')=true):RP (snap W) (.pointer (some ⟨g,0,none⟩)) (.lptr (vs.map .v)):=by
 have cell:∀ i (x:Value),vs[i]?=some x→snap W ⟨g,i,none⟩=some x:=fun i x hx=>by
  have:=World.var?_cell hg hv i
  show W.cell? ⟨g,i,none⟩=some x
  rw [this]; simpa using hx
 refine RP.lptr _ _ (fun j=>vs.getD j undef) (fun j a hj=>?_) (fun j a hj=>?_)
 ·rw [List.getElem?_map] at hj
  rcases q:vs[j]? with _ | z
  ·rw [q] at hj; cases hj
  ·have e:vs.getD j undef=z:=by rw [List.getD_eq_getElem?_getD,q]; rfl
   refine ⟨?_,?_⟩
   ·have:(Addr.add ⟨g,0,none⟩ j:Addr)=⟨g,j,none⟩:=by simp [Addr.add]; intro h; exact h.symm
    rw [this,e]; exact cell j z q
   ·rw [e]; exact List.all_eq_true.1 h1 z (List.mem_of_getElem? q)
 ·rw [List.getElem?_map] at hj
  rcases q:vs[j]? with _ | z
  ·rw [q] at hj; cases hj
  ·rw [q] at hj
   simp only [Option.map_some,Option.some.injEq] at hj
   subst hj
   have e:vs.getD j undef=z:=by rw [List.getD_eq_getElem?_getD,q]; rfl
   rw [e]; exact .v _
theorem glw_of_var {P:Program} {W:World} {name:String} {g:Nat} {vs:List Value} (hg:P.globalNamed name=some g) (hv:W.var? P name=some vs.toArray) (h0:0 < vs.length):g < W.heap.size∧∃ us ty fr,W.heap[g]?=some (.cells us ty fr)∧us.size=vs.length:=by
 have c:=World.var?_cell hg hv 0
 have hlt:g < W.heap.size:=by
  have:vs.toArray[0]?=some vs[0]:=by simp [h0]
  rw [this] at c
  exact World.block_lt_of_cell? W _ c
 refine ⟨hlt,?_⟩
 unfold World.var? at hv
 rw [hg] at hv
 simp only [Option.bind_some] at hv
 split at hv
 ·rename_i us ty fr hb
  obtain rfl:=Option.some.inj hv
  exact ⟨_,ty,fr,hb,by simp⟩
 ·cases hv
end
end Abs
end Go.Proofs.YtnhgeocdffhkjaaGreatDoor
