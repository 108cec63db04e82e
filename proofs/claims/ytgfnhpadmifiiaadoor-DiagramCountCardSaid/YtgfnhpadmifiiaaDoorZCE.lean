/- Merged and trimmed by a program: XP XQ XR XS. -/
import Derived.Test.YtgfnhpadmifiiaaDoorZCD
set_option linter.unusedVariables false
set_option linter.unusedSimpArgs false
section
namespace Go.Proofs.YtgfnhpadmifiiaaDoor
namespace Abs
def T {α:Type} (o:Option α) (Q:α→Prop):Prop:=∃ v,o=some v∧Q v
def LQ {S R:Type} (J:S→Prop) (μ:S→Nat) (m:Nat) (Q:R→Prop):S ⊕ R→Prop
 | .inl s=>J s∧μ s < m
 | .inr r=>Q r
def JQ {S R:Type} (M:S→Prop) (Q:R→Prop):S ⊕ R→Prop
 | .inl s=>M s
 | .inr r=>Q r
section
variable {α β S R:Type}
theorem T.ret {v:α} {Q:α→Prop} (h:Q v):T (some v) Q:=⟨v,rfl,h⟩
theorem T.eq {o:Option α} {v:α} (h:T o fun x=>x=v):o=some v:=by obtain ⟨x,h1,h2⟩:=h; rw [h1,h2]
theorem T.of {o:Option α} {v:α} {Q:α→Prop} (h:o=some v) (q:Q v):T o Q:=⟨v,h,q⟩
theorem T.mono {o:Option α} {Q Q':α→Prop} (h:T o Q) (q:∀ v,Q v→Q' v):T o Q':=by obtain ⟨v,h1,h2⟩:=h; exact ⟨v,h1,q v h2⟩
theorem T.bind {o:Option α} {f:α→Option β} {Q:β→Prop} (h:T o fun v=>T (f v) Q):T (o.bind f) Q:=by obtain ⟨v,h1,h2⟩:=h; rw [h1]; exact h2
theorem T.call {o:Option α} {f:α→Option β} {P:α→Prop} {Q:β→Prop} (h:T o P) (q:∀ v,P v→T (f v) Q):T (o.bind f) Q:=T.bind (h.mono q)
theorem T.callE {o:Option α} {v:α} {f:α→Option β} {Q:β→Prop} (h:o=some v) (q:T (f v) Q):T (o.bind f) Q:=by rw [h]; exact q
theorem T.grd {c:Bool} {x:Option α} {Q:α→Prop} (h:c=true) (q:T x Q):T (cond c x none) Q:=by rw [h]; exact q
theorem T.cnd {c:Bool} {x y:Option α} {Q:α→Prop} (h:c=true→T x Q) (q:c=false→T y Q):T (cond c x y) Q:=by cases c; exact q rfl; exact h rfl
theorem T.ct {c:Bool} {x y:Option α} {Q:α→Prop} (h:c=true) (q:T x Q):T (cond c x y) Q:=by rw [h]; exact q
theorem T.cf {c:Bool} {x y:Option α} {Q:α→Prop} (h:c=false) (q:T y Q):T (cond c x y) Q:=by rw [h]; exact q
theorem T.map {o:Option α} {f:α→β} {Q:β→Prop} (h:T o fun v=>Q (f v)):T (o.map f) Q:=by obtain ⟨v,h1,h2⟩:=h; rw [h1]; exact ⟨_,rfl,h2⟩
theorem T.mapL {J:S→Prop} {μ:S→Nat} {m:Nat} {o:Option R} {Q:R→Prop} (h:T o Q):T (o.map (Sum.inr (α:=S))) (LQ J μ m Q):=T.map h
theorem T.loop {step:S→Option (S ⊕ R)} {s0:S} {Q:R→Prop} (J:S→Prop) (μ:S→Nat) (h0:J s0) (h:∀ s,J s→T (step s) (LQ J μ (μ s) Q)):T (loopO step s0) Q:=by
 refine loop_ex J μ Q (fun s hs=>?_) s0 h0
 obtain ⟨r,h1,h2⟩:=h s hs
 cases r with
 | inl s'=>exact .inl ⟨s',h1,h2.1,h2.2⟩
 | inr r=>exact .inr ⟨r,h1,h2⟩
theorem T.go {J:S→Prop} {μ:S→Nat} {m:Nat} {Q:R→Prop} {s:S} (h:J s) (h2:μ s < m):T (some (Sum.inl (β:=R) s)) (LQ J μ m Q):=⟨_,rfl,h,h2⟩
theorem T.out {J:S→Prop} {μ:S→Nat} {m:Nat} {Q:R→Prop} {r:R} (h:Q r):T (some (Sum.inr (α:=S) r)) (LQ J μ m Q):=⟨_,rfl,h⟩
theorem T.jgo {M:S→Prop} {Q:R→Prop} {s:S} (h:M s):T (some (Sum.inl (β:=R) s)) (JQ M Q):=⟨_,rfl,h⟩
theorem T.join {o:Option (S ⊕ R)} {f:S→Option R} {Q:R→Prop} (M:S→Prop) (h:T o (JQ M Q)) (h2:∀ s,M s→T (f s) Q):T (joinO o f) Q:=by
 obtain ⟨r,h1,h3⟩:=h
 rw [h1]
 cases r with
 | inl s=>exact h2 s h3
 | inr r=>exact ⟨r,rfl,h3⟩
end
theorem iLt_T {a b:Int}:(iLt a b=true)=(a < b):=by simp [iLt]
theorem iLt_F {a b:Int}:(iLt a b=false)=(b≤a):=by simp [iLt]
theorem iLe_T {a b:Int}:(iLe a b=true)=(a≤b):=by simp [iLe]
theorem iLe_F {a b:Int}:(iLe a b=false)=(b < a):=by simp [iLe]
theorem iEq_T {a b:Int}:(iEq a b=true)=(a=b):=by simp [iEq]
theorem iEq_F {a b:Int}:(iEq a b=false)=(¬ a=b):=by simp [iEq]
theorem iNe_T {a b:Int}:(iNe a b=true)=(¬ a=b):=by simp [iNe]
theorem iNe_F {a b:Int}:(iNe a b=false)=(a=b):=by simp [iNe]
theorem bnd_T {a b:Int}:(bnd a b=true)=(0≤a∧a < b):=by simp [bnd]
theorem bnd_F {a b:Int}:(bnd a b=false)=(a < 0∨b≤a):=by simp [bnd]; constructor <;> intro h <;> omega
theorem inB_T {α:Type} {i:Nat} {xs:List α}:(inB i xs=true)=(i < xs.length):=by simp [inB]
theorem inB_F {α:Type} {i:Nat} {xs:List α}:(inB i xs=false)=(xs.length≤i):=by simp [inB]
theorem fits_T {n b:Nat}:(fits n b=true)=(n * b≤140737488355328∧n≤4611686018427387904):=by
 rw [eq_iff_iff]; constructor
 ·intro h; unfold fits maxB at h; rw [Bool.and_eq_true] at h; exact ⟨of_decide_eq_true h.1,of_decide_eq_true h.2⟩
 ·rintro ⟨h1,h2⟩; unfold fits maxB; rw [decide_eq_true h1,decide_eq_true h2]; rfl
theorem fitsI_T {n:Int} {b:Nat}:(fitsI n b=true)=(0≤n∧n * b≤140737488355328∧n≤4611686018427387904):=by
 rw [eq_iff_iff]; constructor
 ·intro h; unfold fitsI maxB at h; rw [Bool.and_eq_true,Bool.and_eq_true] at h; exact ⟨of_decide_eq_true h.1.1,of_decide_eq_true h.1.2,of_decide_eq_true h.2⟩
 ·rintro ⟨h1,h2,h3⟩; unfold fitsI maxB; rw [decide_eq_true h1,decide_eq_true h3]; simp only [Bool.true_and,Bool.and_true]; exact decide_eq_true h2
theorem cutOk_T {l u:Int} {n:Nat}:(cutOk l u n=true)=(0≤l∧l≤u∧u≤(n:Int)):=by simp [cutOk,and_assoc]
theorem someE_T {α:Type} {xs:List α}:(someE xs=true)=(0 < xs.length):=by cases xs <;> simp [someE]
theorem someE_F {α:Type} {xs:List α}:(someE xs=false)=(xs.length=0):=by cases xs <;> simp [someE]
theorem leN_T {α:Type} {n:Nat} {xs:List α}:(leN n xs=true)=(n≤xs.length):=by simp [leN]
theorem not_T {b:Bool}:(Bool.not b=true)=(b=false):=by cases b <;> simp
theorem not_F {b:Bool}:(Bool.not b=false)=(b=true):=by cases b <;> simp
theorem and_T {a b:Bool}:(and a b=true)=(a=true∧b=true):=by cases a <;> simp
theorem and_F {a b:Bool}:(and a b=false)=(a=false∨b=false):=by cases a <;> simp
theorem or_T {a b:Bool}:(or a b=true)=(a=true∨b=true):=by cases a <;> simp
theorem or_F {a b:Bool}:(or a b=false)=(a=false∧b=false):=by cases a <;> simp
theorem candF_T {a b:Bool}:(cond a b false=true)=(a=true∧b=true):=by cases a <;> simp
theorem candF_F {a b:Bool}:(cond a b false=false)=(a=false∨b=false):=by cases a <;> simp
theorem corT_T {a b:Bool}:(cond a true b=true)=(a=true∨b=true):=by cases a <;> simp
theorem corT_F {a b:Bool}:(cond a true b=false)=(a=false∧b=false):=by cases a <;> simp
theorem bEqT_T {a:Bool}:(bEq a true=true)=(a=true):=by cases a <;> simp [bEq]
theorem bEqT_F {a:Bool}:(bEq a true=false)=(a=false):=by cases a <;> simp [bEq]
theorem bEqF_T {a:Bool}:(bEq a false=true)=(a=false):=by cases a <;> simp [bEq]
theorem bEqF_F {a:Bool}:(bEq a false=false)=(a=true):=by cases a <;> simp [bEq]
theorem sEq_T {a b:ByteArray}:(sEq a b=true)=(a=b):=by
 simp only [sEq,beq_iff_eq,eq_iff_iff]
 constructor
 ·intro h
  exact (show ∀ x y:ByteArray,x.toList=y.toList→x=y from fun x y q=>by
   have hx:∀ z:ByteArray,z.toList=z.data.toList:=fun z=>ByteArray.toList_eq z
   rw [hx,hx] at q
   cases x; cases y
   simp at q; rw [q]) a b h
 ·intro h; rw [h]
theorem sEq_F {a b:ByteArray}:(sEq a b=false)=(¬ a=b):=by
 rw [← Bool.not_eq_true,sEq_T]
end Abs
end Go.Proofs.YtgfnhpadmifiiaaDoor
end
section
namespace Go.Proofs.YtgfnhpadmifiiaaDoor
namespace Abs
open Go.RowKit
theorem lptr_ints {F:Addr→Option Value} {g:Nat} {k:IntKind} {zs:List Int} (h:∀ i,i < zs.length→F ⟨g,i,none⟩=some (.int k (zs.getD i 0))):RP F (.pointer (some ⟨g,0,none⟩)) (.lptr (zs.map fun z=>.v (.int k z))):=by
 refine RP.lptr _ _ (fun j=>.int k (zs.getD j 0)) (fun j a hj=>?_) (fun j a hj=>?_)
 ·have hl:j < zs.length:=by
   rcases Nat.lt_or_ge j zs.length with q | q
   ·exact q
   ·rw [List.getElem?_eq_none (by simpa using q)] at hj; cases hj
  refine ⟨?_,rfl⟩
  have:(Addr.add ⟨g,0,none⟩ j:Addr)=⟨g,j,none⟩:=by simp [Addr.add]; intro h; exact h.symm
  rw [this]; exact h j hl
 ·rw [List.getElem?_map] at hj
  rcases q:zs[j]? with _ | z
  ·rw [q] at hj; cases hj
  ·rw [q] at hj
   simp only [Option.map_some,Option.some.injEq] at hj
   subst hj
   have:zs.getD j 0=z:=by rw [List.getD_eq_getElem?_getD,q]; rfl
   rw [this]; exact .v _
theorem calls_trueG {P:Program} {Gl:Nat→Option (List AV)} {w:World} {f:Nat} {xs:Array Value} {l:List AV} (hP:Pure P Gl f l (.v (.bool true))) (hg:GlOk Gl (snap w)) (hw:GlW Gl w.heap.size w) (hxs:RPL (snap w) xs l):Calls P f xs w fun e w'=>e=.returned (.bool true)∧Below w.heap.size w w':=by
 refine (hP w (snap w) xs (fun _ _ h=>h) hg hw hxs).mono ?_
 rintro e w' ⟨v,F',rfl,_,_,_,hR,hb⟩
 cases hR
 exact ⟨rfl,hb⟩
end Abs
end Go.Proofs.YtgfnhpadmifiiaaDoor
end
section
namespace Go.Proofs.YtgfnhpadmifiiaaDoor
namespace Abs
def iterF {α β:Type} (F:(α→Option β)→α→Option β):Nat→α→Option β
 | 0,_=>none
 | n + 1,x=>F (iterF F n) x
open Classical in
noncomputable def fixO {α β:Type} (F:(α→Option β)→α→Option β) (x:α):Option β:=if h:∃ v,∃ N,∀ n,N≤n→iterF F n x=some v then some h.choose else none
section
variable {α β:Type} {F:(α→Option β)→α→Option β}
theorem fixO_some {x:α} {v:β} (h:fixO F x=some v):∃ n,iterF F n x=some v:=by
 unfold fixO at h
 split at h
 ·rename_i hx
  have he:=Option.some.inj h
  obtain ⟨N,hN⟩:=hx.choose_spec
  exact ⟨N,by rw [hN N (Nat.le_refl _),he]⟩
 ·cases h
theorem fixO_of {x:α} {v:β} (N:Nat) (h:∀ n,N≤n→iterF F n x=some v):fixO F x=some v:=by
 have hx:∃ v,∃ N,∀ n,N≤n→iterF F n x=some v:=⟨v,N,h⟩
 unfold fixO
 rw [dif_pos hx]
 obtain ⟨M,hM⟩:=hx.choose_spec
 have h1:=hM (max M N) (Nat.le_max_left _ _)
 rw [h _ (Nat.le_max_right _ _)] at h1
 exact h1.symm
variable {P:Program} {Gl:Nat→Option (List AV)}
theorem pok_fix {f:Nat} {ps rs:List Ty} {G:(Ty.denL ps→Option (Ty.denL rs))→Ty.denL ps→Option (Ty.denL rs)} (hc:callable P f=true) (h:∀ run,POk P Gl ⟨f,ps,rs,run⟩→POk P Gl ⟨f,ps,rs,G run⟩):POk P Gl ⟨f,ps,rs,fixO G⟩:=by
 have key:∀ n,POk P Gl ⟨f,ps,rs,iterF G n⟩:=by
  intro n
  induction n with
  | zero=>exact ⟨hc,fun x y q=>by cases q⟩
  | succ n ih=>exact h _ ih
 refine ⟨hc,fun x y q=>?_⟩
 obtain ⟨n,hn⟩:=fixO_some q
 exact (key n).2 x y hn
theorem hok_fix {f:Nat} {ish osh:Sh} {kp:List Nat} {G:(Ty.denL ish.tys→Option (Ty.denL osh.tys))→Ty.denL ish.tys→Option (Ty.denL osh.tys)} (hc:callable P f=true) (h:∀ run,HOk P Gl ⟨f,ish,osh,run,kp⟩→HOk P Gl ⟨f,ish,osh,G run,kp⟩):HOk P Gl ⟨f,ish,osh,fixO G,kp⟩:=by
 have key:∀ n,HOk P Gl ⟨f,ish,osh,iterF G n,kp⟩:=by
  intro n
  induction n with
  | zero=>exact ⟨hc,fun x y q=>by cases q⟩
  | succ n ih=>exact h _ ih
 refine ⟨hc,fun x y q=>?_⟩
 obtain ⟨n,hn⟩:=fixO_some q
 exact (key n).2 x y hn
end
end Abs
end Go.Proofs.YtgfnhpadmifiiaaDoor
end
section
namespace Go.Proofs.YtgfnhpadmifiiaaDoor
namespace Abs
def Mo {α β γ:Type} (F:(α→Option β)→Option γ):Prop:=∀ s s':α→Option β,(∀ y v,s y=some v→s' y=some v)→∀ v,F s=some v→F s'=some v
section
variable {α β γ δ S R:Type}
theorem Mo.const (o:Option γ):Mo (fun _:α→Option β=>o):=fun _ _ _ _ h=>h
theorem Mo.self (y:α):Mo (fun s:α→Option β=>s y):=fun _ _ h _ q=>h _ _ q
theorem Mo.bind {F:(α→Option β)→Option γ} {G:(α→Option β)→γ→Option δ} (hF:Mo F) (hG:∀ x,Mo fun s=>G s x):Mo (fun s=>(F s).bind (G s)):=by
 intro s s' h v q
 cases e:F s with
 | none=>simp only [e,Option.bind_none] at q; cases q
 | some x =>
  simp only [e,Option.bind_some] at q
  simp only [hF s s' h x e,Option.bind_some]
  exact hG x s s' h v q
theorem Mo.cond (c:Bool) {F G:(α→Option β)→Option γ} (hF:Mo F) (hG:Mo G):Mo (fun s=>_root_.cond c (F s) (G s)):=by cases c <;> assumption
theorem Mo.map {F:(α→Option β)→Option γ} {f:γ→δ} (hF:Mo F):Mo (fun s=>(F s).map f):=by
 intro s s' h v q
 cases e:F s with
 | none=>simp only [e,Option.map_none] at q; cases q
 | some x =>
  simp only [e,Option.map_some] at q
  simp only [hF s s' h x e,Option.map_some]
  exact q
theorem Mo.join {F:(α→Option β)→Option (S ⊕ R)} {G:(α→Option β)→S→Option R} (hF:Mo F) (hG:∀ x,Mo fun s=>G s x):Mo (fun s=>joinO (F s) (G s)):=by
 intro s s' h v q
 cases e:F s with
 | none=>simp only [e] at q; cases q
 | some x =>
  simp only [e] at q
  simp only [hF s s' h x e]
  cases x with
  | inl x=>exact hG x s s' h v q
  | inr r=>exact q
theorem runO_mo {step step':S→Option (S ⊕ R)} (h:∀ y v,step y=some v→step' y=some v):∀ n s r,runO step n s=some r→runO step' n s=some r:=by
 intro n
 induction n with
 | zero=>intro s r q; cases q
 | succ n ih =>
  intro s r q
  simp only [runO] at q ⊢
  cases e:step s with
  | none=>rw [e] at q; cases q
  | some x =>
   rw [e] at q; rw [h _ _ e]
   cases x with
   | inl x=>exact ih _ _ q
   | inr x=>exact q
theorem loopO_run {step:S→Option (S ⊕ R)} {s:S} {r:R} (h:loopO step s=some r):∃ n,runO step n s=some r:=by
 unfold loopO at h
 split at h
 ·rename_i hx; exact ⟨_,h⟩
 ·cases h
theorem run_loopO {step:S→Option (S ⊕ R)}:∀ (n:Nat) {s:S} {r:R},runO step n s=some r→loopO step s=some r:=by
 intro n
 induction n with
 | zero=>intro s r q; cases q
 | succ n ih =>
  intro s r q
  simp only [runO] at q
  cases e:step s with
  | none=>rw [e] at q; cases q
  | some x =>
   rw [e] at q
   cases x with
   | inl x=>rw [loop_in e]; exact ih q
   | inr x=>rw [loop_out e]; exact q
theorem Mo.loop {G:(α→Option β)→S→Option (S ⊕ R)} (hG:∀ x,Mo fun s=>G s x) (x:S):Mo (fun s=>loopO (G s) x):=by
 intro s s' h v q
 obtain ⟨n,hn⟩:=loopO_run q
 exact run_loopO n (runO_mo (fun y v hy=>hG y s s' h v hy) n x v hn)
theorem fix_G {ι:Type} {F:(α→Option β)→α→Option β} (hm:∀ x,Mo fun s=>F s x) (arg:ι→α) (P:ι→Prop) (Q:ι→β→Prop) (μ:ι→Nat) (h:∀ g,P g→∀ s:α→Option β,(∀ g',P g'→μ g' < μ g→T (s (arg g')) (Q g'))→T (F s (arg g)) (Q g)) (g:ι) (hg:P g):T (fixO F (arg g)) (Q g):=by
 have up:∀ n x v,iterF F n x=some v→iterF F (n + 1) x=some v:=by
  intro n
  induction n with
  | zero=>intro x v q; cases q
  | succ n ih=>intro x v q; exact hm x _ _ ih v q
 have ups:∀ k n x v,iterF F n x=some v→iterF F (n + k) x=some v:=by
  intro k
  induction k with
  | zero=>intro n x v q; exact q
  | succ k ih=>intro n x v q; exact up _ _ _ (ih n x v q)
 have key:∀ m g,P g→μ g < m→T (iterF F m (arg g)) (Q g):=by
  intro m
  induction m with
  | zero=>intro x _ q; omega
  | succ m ih=>intro x hx q; exact h x hx _ fun y hy hlt=>ih y hy (by omega)
 obtain ⟨v,h1,h2⟩:=key (μ g + 1) g hg (by omega)
 refine ⟨v,fixO_of (μ g + 1) (fun n hn=>?_),h2⟩
 have:=ups (n - (μ g + 1)) _ _ _ h1
 rwa [show μ g + 1 + (n - (μ g + 1))=n by omega] at this
end
end Abs
end Go.Proofs.YtgfnhpadmifiiaaDoor
end
