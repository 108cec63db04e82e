/- Merged and trimmed by a program: TA TB TC TD TE TF TG TokC. -/
import Derived.Test.YtnhgeocdffhkjaaGreatDoorZHF
set_option linter.unusedVariables false
set_option linter.unusedSimpArgs false
set_option linter.defProp false
namespace Go.Proofs.YtnhgeocdffhkjaaGreatDoor
namespace Abs
noncomputable section
section
open Go.RowKit
section
variable{P:Program}{Gl:Nat->Option (List AV)}{F:Addr->Option Value}{own:List Ent}{B:Nat}{w0:W0}{σ:St}{act:Act}{w:World}{K:Exit->St->Prop}{code:Code}
def WPx(P:Program)(Gl:Nat->Option (List AV))(B:Nat)(w0:W0)(code:Code)(K:Exit->St->Prop)(σ:St):Prop :=
 ∀F own act w,Inv Gl F own B w0 σ act w->code.wp P (λe a w=>NG e/\lY Gl B w0 (K e) a w) act w
theorem a8S(hm:P.follows .mixedOrders=true){hl:List Nat}{c:C}(hc:cC P hl code=some c)(ha:awp P Gl w0.N c K σ):WPx P Gl B w0 code K σ :=
 λF own act w hI=>mP hm rfl code c hc K σ F own act w ha hI
theorem a4R{K':Exit->St->Prop}(h:WPx P Gl B w0 code K σ)(hk:∀e τ,K e τ->K' e τ):WPx P Gl B w0 code K' σ :=
 λF own act w hI=>wp_mono (h F own act w hI) λe a w ⟨ng,F1,dO,τ,h1,h2⟩=>⟨ng,F1,dO,τ,h1,hk e τ h2⟩
def b6Z(P:Program)(Gl:Nat->Option (List AV))(B:Nat)(w0:W0)(b:Code)(K:Exit->St->Prop)(e:Exit)(τ:St):Prop:=match e with|.normal=>WPx P Gl B w0 b K τ|e=>K e τ
theorem a8Q{a b:Code}(h:WPx P Gl B w0 a (b6Z P Gl B w0 b K) σ):WPx P Gl B w0 (.seq a b) K σ:=λF own act w hI=>by
 refine wp_seq (wp_mono (h F own act w hI) ?_)
 rintro e a1 w1 ⟨ng,F1,dO,τ,hI1,hK⟩
 cases e with
 |normal=>exact hK F1 dO a1 w1 hI1
 |_=>exact⟨ng,F1,dO,τ,hI1,hK⟩
theorem a00{id:Nat}{b:Code}(h:WPx P Gl B w0 b (zx id K) σ):WPx P Gl B w0 (.block id b) K σ:=λF own act w hI=>by
 refine wp_block (wp_mono (h F own act w hI) ?_)
 rintro e a1 w1 ⟨ng,F1,dO,τ,hI1,hK⟩
 cases e with
 |exit i =>
  simp only[Exit.inBlock]
  have hK:(if i=id then K .normal τ else K (.exit i) τ):=hK
  by_cases hi:i=id
  .rw[if_pos hi]at hK;rw[if_pos hi];exact⟨mY,F1,dO,τ,hI1,hK⟩
  .rw[if_neg hi]at hK;rw[if_neg hi];exact⟨Bz _,F1,dO,τ,hI1,hK⟩
 |_=>exact⟨ng,F1,dO,τ,hI1,hK⟩
def BU(J:Nat->St->Prop)(K:Exit->St->Prop)(n:Nat)(e:Exit)(τ:St):Prop:=match e with|.normal=>∃m,n=m+1/\J m τ|e=>K e τ
theorem jS{J:Nat->St->Prop}{n:Nat}{τ:St}:BU J K n .normal τ=∃m,n=m+1/\J m τ:=rfl
theorem rU{J:Nat->St->Prop}{n i:Nat}{τ:St}:BU J K n (.exit i) τ=K (.exit i) τ:=rfl
theorem a4S{b:Code}(J:Nat->St->Prop)(n:Nat)(h0:J n σ)(hr:∀m τ,J m τ->WPx P Gl B w0 b (BU J K m) τ):WPx P Gl B w0 (.loop b) K σ:=λF own act w hI=>by
 have key:∀(n:Nat) (τ:St) (F:Addr->Option Value) (own:List Ent) (act:Act) (w:World),J n τ->Inv Gl F own B w0 τ act w->Code.rounds P b (λe a w=>NG e/\lY Gl B w0 (K e) a w) (n+1) act w:=by
  intro n
  induction n with
  |zero =>
   intro τ F own act w hJ hI
   rw[rounds_succ]
   refine wp_mono (hr 0 τ hJ F own act w hI) ?_
   rintro e a1 w1 ⟨ng,F1,dO,ρ,hI1,hK⟩
   cases e with
   |normal=>obtain⟨m,q,_⟩:=hK;omega
   |_=>exact⟨ng,F1,dO,ρ,hI1,hK⟩
  |succ n ih =>
   intro τ F own act w hJ hI
   rw[rounds_succ]
   refine wp_mono (hr (n+1) τ hJ F own act w hI) ?_
   rintro e a1 w1 ⟨ng,F1,dO,ρ,hI1,hK⟩
   cases e with
   |normal =>
    obtain⟨m,q,hJ1⟩:=hK
    obtain rfl:m=n:=by omega
    exact ih ρ F1 dO a1 w1 hJ1 hI1
   |_=>exact⟨ng,F1,dO,ρ,hI1,hK⟩
 exact wp_loop_rounds (n+1) (key n σ F own act w h0 hI)
theorem a0Z(h:∀F own act w,Inv Gl F own B w0 σ act w->∃F' own' τ,Inv Gl F' own' B w0 τ act w/\WPx P Gl B w0 code K τ):WPx P Gl B w0 code K σ:=λF own act w hI=>by
 obtain⟨F',own',τ,hI',h'⟩:=h F own act w hI
 exact h' F' own' act w hI'
theorem Inv.slot(h:Inv Gl F own B w0 σ act w){i:Nat}{a:AV}(hR:∀x,act.tmps[i]?=some x->R F own x a):Inv Gl F own B w0 ⟨σ.t.set i a,σ.h⟩ act w :=
  { tl:=by simpa using h.tl,
    tr:=fun j x b p q=>by
      have q:(σ.t.set i a)[j]?=some b:=q
      by_cases hj:i=j
      · subst hj
        rw[dh]at q
        split at q
        · split at q
          .cases q;exact hR x p
          .cases q
        .rename_i hne;exact absurd rfl hne
      .rw[aC hj]at q;exact h.tr j x b p q,
    defers:=h.defers,sub:=h.sub,hl:=h.hl,objs:=h.objs,inj:=h.inj,below:=h.below,base:=h.base,gl:=h.gl,gw:=h.gw,room:=h.room,ext:=h.ext,jI:=h.jI,nl:=h.nl,fr:=h.fr,pd:=h.pd }
theorem a8T(i:Nat)(h:WPx P Gl B w0 code K ⟨σ.t.set i .any,σ.h⟩):WPx P Gl B w0 code K σ :=
 a0Z λF own act w hI=>⟨F,own,_,hI.slot λx _=>.pure (.any x),h⟩
theorem a8R(l:List Nat):∀{σ:St},WPx P Gl B w0 code K ⟨clr l σ.t,σ.h⟩->WPx P Gl B w0 code K σ:=by
 induction l with
 |nil=>intro σ h;exact h
 |cons i l ih=>intro σ h;exact a8T i (ih (σ:=⟨σ.t.set i .any,σ.h⟩) h)
theorem G8{b:Code}(h:WPx P Gl B w0 b K σ):WPx P Gl B w0 (.scope b) K σ:=λF own act w hI=>by
 refine wp_scope_straight (wp_mono (h F own act w hI) ?_)
 rintro e a1 w1 ⟨ng,hK⟩
 cases e with
 |goto l=>exact absurd rfl (ng l)
 |_=>exact⟨ng,hK⟩
def WPc(P:Program)(Gl:Nat->Option (List AV))(B:Nat)(w0:W0)(c:C)(K:Exit->St->Prop)(σ:St):Prop:=∀(hl:List Nat) (code:Code),cC P hl code=some c->WPx P Gl B w0 code K σ
def MZ(P:Program)(Gl:Nat->Option (List AV))(B:Nat)(w0:W0)(b:C)(K:Exit->St->Prop)(e:Exit)(τ:St):Prop:=match e with|.normal=>WPc P Gl B w0 b K τ|e=>K e τ
theorem QL{b:C}{τ:St}:MZ P Gl B w0 b K .normal τ=WPc P Gl B w0 b K τ:=rfl
theorem ZG{b:C}{τ:St}:MZ P Gl B w0 b K .ret τ=K .ret τ:=rfl
theorem VN{b:C}{i:Nat}{τ:St}:MZ P Gl B w0 b K (.exit i) τ=K (.exit i) τ:=rfl
theorem jh(hm:P.follows .mixedOrders=true){c:C}(ha:awp P Gl w0.N c K σ):WPc P Gl B w0 c K σ:=λhl code hc=>a8S hm hc ha
theorem kR{a b:C}(h:WPc P Gl B w0 a (MZ P Gl B w0 b K) σ):WPc P Gl B w0 (.seq a b) K σ:=by
 intro hl code
 induction code with
 |seq ca cb _ _ =>
  intro hc
  simp only[cC]at hc
  split at hc
  .rename_i x y hxa hyb
   cases hc
   refine a8Q (a4R (h hl ca hxa) λe τ hk=>?_)
   cases e with
   |normal=>exact hk hl cb hyb
   |_=>exact hk
  .cases hc
 |scope b ih=>intro hc;exact G8 (ih hc)
 |region id ops draw =>
  intro hc
  cases draw<;>simp only[cC]at hc
  .cases hq:cL P false ops ops.toList<;>rw[hq]at hc<;>cases hc
  .repeat' split at hc
   all_goals cases hc
 |cond c a b _ _ =>
  intro hc
  simp only[cC]at hc
  split at hc<;>cases hc
 |block id b _=>intro hc;simp only[cC]at hc;cases hq:cC P hl b<;>rw[hq]at hc<;>cases hc
 |loop b _=>intro hc;simp only[cC]at hc;cases hq:cC P hl b<;>rw[hq]at hc<;>cases hc
 |_=>intro hc;cases hc
theorem uZ{id:Nat}{b:C}(h:WPc P Gl B w0 b (zx id K) σ):WPc P Gl B w0 (.block id b) K σ:=by
 intro hl code
 induction code with
 |block id' cb _ =>
  intro hc
  simp only[cC]at hc
  cases hq:cC P hl cb with
  |none=>rw[hq]at hc;cases hc
  |some x=>rw[hq]at hc;cases hc;exact a00 (h hl cb hq)
 |scope b ih=>intro hc;exact G8 (ih hc)
 |region id ops draw =>
  intro hc
  cases draw<;>simp only[cC]at hc
  .cases hq:cL P false ops ops.toList<;>rw[hq]at hc<;>cases hc
  .repeat' split at hc
   all_goals cases hc
 |cond c a b _ _ =>
  intro hc
  simp only[cC]at hc
  split at hc<;>cases hc
 |seq a b _ _ =>
  intro hc
  simp only[cC]at hc
  split at hc<;>cases hc
 |loop b _=>intro hc;simp only[cC]at hc;cases hq:cC P hl b<;>rw[hq]at hc<;>cases hc
 |_=>intro hc;cases hc
theorem EO{b:C}(J:Nat->St->Prop)(n:Nat)(h0:J n σ)(hr:∀m τ,J m τ->WPc P Gl B w0 b (BU J K m) τ):WPc P Gl B w0 (.loop b) K σ:=by
 intro hl code
 induction code with
 |loop cb _ =>
  intro hc
  simp only[cC]at hc
  cases hq:cC P hl cb with
  |none=>rw[hq]at hc;cases hc
  |some x=>rw[hq]at hc;cases hc;exact a4S J n h0 λm τ hJ=>hr m τ hJ hl cb hq
 |scope b ih=>intro hc;exact G8 (ih hc)
 |region id ops draw =>
  intro hc
  cases draw<;>simp only[cC]at hc
  .cases hq:cL P false ops ops.toList<;>rw[hq]at hc<;>cases hc
  .repeat' split at hc
   all_goals cases hc
 |cond c a b _ _ =>
  intro hc
  simp only[cC]at hc
  split at hc<;>cases hc
 |seq a b _ _ =>
  intro hc
  simp only[cC]at hc
  split at hc<;>cases hc
 |block id b _=>intro hc;simp only[cC]at hc;cases hq:cC P hl b<;>rw[hq]at hc<;>cases hc
 |_=>intro hc;cases hc
theorem fJ.ofX{f:FuncId}{fn:Func}{code:Code}{rs:List RV}(hf:P.funcs[f]?=some fn)(hb:fn.body=some code)(hr:sj P fn.results.toList=some rs){h0:List aH}{us:List AV}{Q:AV->List aH->Prop}
  (h:∀(B:Nat) (w0:W0),w0.N=h0.length->WPx P Gl B w0 code (uy Gl rs Q) ⟨us++List.replicate (fn.ntmps-us.length) .any,h0⟩):fJ P Gl f h0 us Q :=
 fJ.ofW hf hb hr λF own B w0 act w hN hI=>wp_mono (h B w0 hN F own act w hI) λe a w q=>q.2
theorem fJ.ofC(hm:P.follows .mixedOrders=true){f n:Nat}{c:C}{rs:List RV}(h:Fn P f n c rs){us:List AV}{h0:List aH}{Q:AV->List aH->Prop}{t:List AV}(ht:us++List.replicate (n-us.length) .any=t)(ha:∀(B:Nat) (w0:W0),WPc P Gl B w0 c (uy Gl rs Q) ⟨t,h0⟩):fJ P Gl f h0 us Q:=by
 obtain⟨fn,hl,h1,h2,h3,rfl,_⟩:=h
 cases hb:fn.body with
 |none=>rw[hb]at h2;cases h2
 |some code =>
  rw[hb]at h2
  subst ht
  exact fJ.ofX h1 hb h3 λB w0 hN=>ha B w0 hl code h2
theorem HZ(l:List Nat)(t':List AV){c:C}{t:List AV}{h:List aH}(e:clr l t=t')(H:WPc P Gl B w0 c K ⟨t',h⟩):WPc P Gl B w0 c K ⟨t,h⟩:=λhl code hc=>a8R l (by rw[e];exact H hl code hc)
end
set_option maxRecDepth 100000
def Xa:List Ins:=[qI 2 (.mov (.k (.pointer none)))]
def X9:List Ins:=[qI 3 (.mov 0),qI 4 (.nck 3),qI 5 (.fO 2 4),qI 6 (.load 1 false 5),qI 7 (.mov 0),qI 8 (.nck 7),qI 9 (.fO 2 8),qI 10 (.load 1 false 9),qI 11 (.len 10),qI 12 (.bin .sub 11 (kI 1)),qI 13 (.rA 3 6 12),qI 2 (.mov 13)]
def b3d:C:=(.seq (.ops false Xa) (.seq (.ops true X9) .ret))
theorem c1f:Fn Tryz.prog 216 14 b3d [.t 2]:=⟨Tryz.f216,221::hcl,Tryz.func216,by kernel_rfl,by kernel_rfl,by kernel_rfl,by kernel_rfl⟩
def Xr:List Ins:=[qI 3 (.box 212 8 1)]
def Xq:List Ins:=[qI 5 (.mov 0),qI 6 (.call (.fn 216) [5]),qI 4 (.mov 6)]
def Xp:List Ins:=[qI 7 (.mov 4),qI 8 (.nck 7),qI 9 (.fO 0 8),qI 10 (.load 1 false 9),qI 11 (.mov (kI 0))]
def Ot:List Ins:=[qI 12 (.bin .lss 11 10)]
def Xo:List Ins:=[qI 13 (.load 8 true 3),qI 14 (.lI 212 8 [13]),qI 15 (.call (.fn 220) [(kI 6),14]),qN (.store 8 3 15)]
def Xn:List Ins:=[qI 16 (.bin .add 11 (kI 1)),qI 11 (.mov 16)]
def PD:C:=(.seq (.ops false Ot) (.seq (.cond 12 .skip (.exit 0)) (.seq (.block 1 (.ops false Xo)) (.ops false Xn))))
def Xm:List Ins:=[qI 17 (.mov 4),qI 18 (.nck 17),qI 19 (.fO 0 18),qN (.store 1 19 (kI 0))]
def Oq:List (Nat×Ins):=[(0,qI 20 (.mov 4)),(0,qI 21 (.mov 4)),(0,qI 22 (.nck 21)),(0,qI 23 (.fO 1 22)),(1,qI 24 (.load 1 false 23)),(0,qI 25 (.load 8 true 3)),(2,qI 26 (.lI 212 8 [25])),(0,qI 27 (.app 212 8 104 24 26)),(0,qI 28 (.nck 20)),(0,qI 29 (.fO 1 28)),(0,qN (.store 1 29 27))]
def c203:C:=(.seq (.ops false Xr) (.seq (.ops false Xq) (.seq (.seq (.ops false Xp) (.block 0 (.loop PD))) (.seq (.ops false Xm) (.pO Oq)))))
theorem c1i:Fn Tryz.prog 203 30 c203 []:=⟨Tryz.f203,221::hcl,Tryz.func203,by kernel_rfl,by kernel_rfl,by kernel_rfl,by kernel_rfl⟩
def Xl:List Ins:=[qI 2 (.mov (.k (.bool false)))]
def Xk:List Ins:=[qI 4 (.mov 0),qI 5 (.mQ 5 1 9 (.g 0) (kI 7)),qI 6 (.fO 0 5),qI 7 (.load 1 false 6),qI 8 (.call (.fn 206) [4,(kI 1),7])]
def Xj:List Ins:=[qI 2 (.mov (.k (.bool true)))]
def Xi:List Ins:=[qI 9 (.mov 0),qI 10 (.mQ 5 1 9 (.g 0) (kI 8)),qI 11 (.fO 0 10),qI 12 (.load 1 false 11),qI 13 (.call (.fn 206) [9,(kI 1),12]),qI 14 (.un .not 13)]
def Xh:List Ins:=[qI 2 (.mov (.k (.bool false)))]
def Xg:List Ins:=[qI 15 (.mov 0),qI 16 (.call (.fn 216) [15]),qI 3 (.mov 16)]
def Xf:List (Nat×Ins):=[(0,qI 17 (.mov 3)),(0,qI 18 (.mov 3)),(0,qI 19 (.nck 18)),(0,qI 20 (.fO 2 19)),(1,qI 21 (.load 1 false 20)),(0,qI 22 (.mov 3)),(0,qI 23 (.nck 22)),(0,qI 24 (.fO 1 23)),(0,qI 25 (.load 1 false 24)),(2,qI 26 (.call (.fn 221) [(kI 7),25])),(2,qI 27 (.lI 212 8 [26])),(0,qI 28 (.app 212 8 104 21 27)),(0,qI 29 (.nck 17)),(0,qI 30 (.fO 2 29)),(0,qN (.store 1 30 28))]
def Oo:List Ins:=[qI 31 (.mov 3),qI 32 (.nck 31),qI 33 (.fO 1 32),qN (.store 1 33 kN)]
def Om:List Ins:=[qI 2 (.mov (.k (.bool true)))]
def b3f:C:=(.seq (.ops false Xl) (.seq (.seq (.ops false Xk) (.cond 8 (.seq (.ops false Xj) .ret) .skip)) (.seq (.seq (.ops false Xi) (.cond 14 (.seq (.ops false Xh) .ret) .skip)) (.seq (.ops false Xg) (.seq (.pO Xf) (.seq (.ops false Oo) (.seq (.ops false Om) .ret)))))))
theorem c1h:Fn Tryz.prog 204 34 b3f [.t 2]:=⟨Tryz.f204,221::hcl,Tryz.func204,by kernel_rfl,by kernel_rfl,by kernel_rfl,by kernel_rfl⟩
def Xe:List Ins:=[qI 2 (.alloc 212 (.agg #[.int .i64 0,.string (bs []),.slice none 0 0,.int .i64 0,.int .i64 0,.slice none 0 0,.int .i64 0,.int .i64 0]))]
def Xd:List Ins:=[qI 4 (.mov 0),qI 5 (.call (.fn 216) [4]),qI 6 (.nck 5),qI 7 (.load 3 true 6),qI 3 (.alloc 207 (.agg #[.int .i64 0,.slice none 0 0,.slice none 0 0])),qN (.store 3 3 7)]
def Xc:List Ins:=[qI 8 (.mov 0),qI 9 (.mov 0),qI 10 (.nck 9),qI 11 (.fO 2 10),qI 12 (.load 1 false 11),qI 13 (.mov 0),qI 14 (.nck 13),qI 15 (.fO 2 14),qI 16 (.load 1 false 15),qI 17 (.len 16),qI 18 (.bin .sub 17 (kI 1)),qI 19 (.slice 3 12 none (some 18)),qI 20 (.nck 8),qI 21 (.fO 2 20),qN (.store 1 21 19)]
def Xb:List (Nat×Ins):=[(0,qI 22 (.fO 2 3)),(1,qI 23 (.load 1 false 22)),(0,qI 24 (.fO 1 3)),(0,qI 25 (.load 1 false 24)),(2,qI 26 (.call (.fn 221) [(kI 7),25])),(2,qI 27 (.lI 212 8 [26])),(0,qI 28 (.app 212 8 104 23 27)),(2,qI 29 (.call (.fn 221) [(kI 8),28])),(0,qN (.store 8 2 29))]
def b3e:C:=(.seq (.ops false Xe) (.seq (.ops false Xd) (.seq (.ops true Xc) (.seq (.pO Xb) .ret))))
theorem c1g:Fn Tryz.prog 205 30 b3e [.c 2 8 true]:=⟨Tryz.f205,221::hcl,Tryz.func205,by kernel_rfl,by kernel_rfl,by kernel_rfl,by kernel_rfl⟩
def Xv:List Ins:=[qI 3 (.mov 0),qI 4 (.mQ 5 1 9 (.g 0) (kI 6)),qI 5 (.fO 0 4),qI 6 (.load 1 false 5),qI 7 (.call (.fn 206) [3,(kI 1),6]),qI 2 (.mov 7)]
def Xu:List Ins:=[qI 8 (.mov 0),qI 9 (.call (.fn 216) [8]),qI 10 (.nck 9),qI 11 (.fO 0 10),qI 12 (.load 1 false 11),qI 13 (.bin .add 12 (kI 1)),qI 14 (.nck 9),qI 15 (.fO 0 14),qN (.store 1 15 13)]
def Ou:List Ins:=[qI 17 (.mov 0),qI 18 (.call (.fn 206) [17,(kI 4),(.k (.string (bs [40])))]),qI 16 (.mov 18)]
def Xt:List Ins:=[qI 19 (.mov 0),qI 20 (.mov 0),qI 21 (.nck 20),qI 22 (.fO 2 21),qI 23 (.load 1 false 22),qI 24 (.build [.int .i64 0,.slice none 0 0,.slice none 0 0] []),qI 25 (.lI 207 3 [24]),qI 26 (.app 207 3 56 23 25),qI 27 (.nck 19),qI 28 (.fO 2 27),qN (.store 1 28 26)]
def YB:C:=(.block 1 (.block 2 (.seq (.ops false Xv) (.cond 2 (.ops false Xu) (.seq (.ops false Ou) (.cond 16 (.ops false Xt) .ret))))))
def c201:C:=(.block 0 (.loop YB))
theorem c1j:Fn Tryz.prog 201 29 c201 []:=⟨Tryz.f201,221::hcl,Tryz.func201,by kernel_rfl,by kernel_rfl,by kernel_rfl,by kernel_rfl⟩
def XF:List Ins:=[qI 2 (.alloc 212 (.agg #[.int .i64 0,.string (bs []),.slice none 0 0,.int .i64 0,.int .i64 0,.slice none 0 0,.int .i64 0,.int .i64 0])),qI 3 (.mov (kI 0))]
def XD:List Ins:=[qI 7 (.mov 0),qI 8 (.call (.fn 201) [7])]
def Ow:List Ins:=[qI 10 (.mov 0),qI 11 (.call (.fn 202) [10]),qI 9 (.mov 11),qI 12 (.ext 0 9),qI 13 (.ext 1 9),qI 4 (.alloc 212 (.agg #[.int .i64 0,.string (bs []),.slice none 0 0,.int .i64 0,.int .i64 0,.slice none 0 0,.int .i64 0,.int .i64 0])),qN (.store 8 4 12),qI 5 (.mov 13)]
def Xz:List Ins:=[qI 14 (.mov 5),qI 15 (.bin .neq 14 (kI 0))]
def a9N:List Ins:=[qI 16 (.build [.int .i64 0,.string (bs []),.slice none 0 0,.int .i64 0,.int .i64 0,.slice none 0 0,.int .i64 0,.int .i64 0] []),qI 17 (.mov 5),qN (.store 8 2 16),qI 3 (.mov 17)]
def Xy:List Ins:=[qI 18 (.mov 0),qI 19 (.load 8 true 4),qI 20 (.call (.fn 203) [18,19])]
def Xx:List Ins:=[qI 21 (.mov 0),qI 22 (.call (.fn 204) [21]),qI 23 (.un .not 22)]
def DW:List Ins:=[qI 24 (.mov 0),qI 25 (.call (.fn 205) [24]),qI 6 (.alloc 212 (.agg #[.int .i64 0,.string (bs []),.slice none 0 0,.int .i64 0,.int .i64 0,.slice none 0 0,.int .i64 0,.int .i64 0])),qN (.store 8 6 25)]
def Ov:List Ins:=[qI 26 (.mov 0),qI 27 (.nck 26),qI 28 (.fO 2 27),qI 29 (.load 1 false 28),qI 30 (.len 29),qI 31 (.bin .eql 30 (kI 0))]
def Xw:List Ins:=[qI 32 (.load 8 true 6),qN (.store 8 2 32),qI 3 (.mov (kI 0))]
def Rp:List Ins:=[qI 33 (.mov 0),qI 34 (.call (.fn 206) [33,(kI 4),(.k (.string (bs [41])))]),qI 35 (.un .not 34)]
def a5u:List Ins:=[qI 36 (.build [.int .i64 0,.string (bs []),.slice none 0 0,.int .i64 0,.int .i64 0,.slice none 0 0,.int .i64 0,.int .i64 0] []),qN (.store 8 2 36),qI 3 (.mov (kI 5))]
def Ro:List Ins:=[qI 37 (.mov 0),qI 38 (.load 8 true 6),qI 39 (.call (.fn 203) [37,38])]
def YC:C:=(.seq (.seq (.ops false Xx) (.cond 23 .skip (.exit 2))) (.block 3 (.seq (.ops false DW) (.seq (.seq (.ops false Ov) (.cond 31 (.seq (.ops false Xw) .ret) .skip)) (.seq (.seq (.ops false Rp) (.cond 35 (.seq (.ops false a5u) .ret) .skip)) (.ops false Ro))))))
def YD:C:=(.block 1 (.seq (.ops false XD) (.seq (.ops false Ow) (.seq (.seq (.ops false Xz) (.cond 15 (.seq (.ops false a9N) .ret) .skip)) (.seq (.ops false Xy) (.block 2 (.loop YC)))))))
def b3g:C:=(.seq (.ops false XF) (.block 0 (.loop YD)))
theorem c1k:Fn Tryz.prog 191 40 b3g [.c 2 8 true,.t 3]:=⟨Tryz.f191,221::hcl,Tryz.func191,by kernel_rfl,by kernel_rfl,by kernel_rfl,by kernel_rfl⟩
def XM:List Ins:=[qI 4 (.alloc 34 (.agg #[.int .i64 0,.string (bs []),.slice none 0 0,.int .i64 0,.int .i64 0,.slice none 0 0])),qI 5 (.mov (kI 0)),qI 6 (.mov (kI 0)),qI 7 (.mov (kI 0))]
def XL:List Ins:=[qI 11 (.mov 1),qI 12 (.bin .lss 11 (kI 0)),qI 13 (.mov 12),qF 14 13 (.mov 1),qF 15 13 (.mov 0),qF 16 13 (.len 15),qF 17 13 (.bin .gtr 14 16),qI 18 (.pick 13 (.k (.bool true)) 17)]
def a9Q:List Ins:=[qI 19 (.build [.int .i64 0,.string (bs []),.slice none 0 0,.int .i64 0,.int .i64 0,.slice none 0 0] []),qN (.store 6 4 19),qI 5 (.mov (kI 0)),qI 6 (.mov (kI 0)),qI 7 (.mov (kI 1))]
def XK:List Ins:=[qI 20 (.mov 0),qI 21 (.mov 1),qI 22 (.build [.int .i64 0,.slice none 0 0,.slice none 0 0] []),qI 23 (.lI 207 3 [22]),qI 24 (.build [.slice none 0 0,.int .i64 0,.slice none 0 0] [(0,1,20),(1,1,21),(2,1,23)]),qI 8 (.alloc 210 (.agg #[.slice none 0 0,.int .i64 0,.slice none 0 0])),qN (.store 3 8 24)]
def XJ:List Ins:=[qI 26 (.call (.fn 191) [8]),qI 25 (.mov 26),qI 27 (.ext 0 25),qI 28 (.ext 1 25),qI 9 (.alloc 212 (.agg #[.int .i64 0,.string (bs []),.slice none 0 0,.int .i64 0,.int .i64 0,.slice none 0 0,.int .i64 0,.int .i64 0])),qN (.store 8 9 27),qI 10 (.mov 28)]
def XI:List Ins:=[qI 29 (.mov 10),qI 30 (.bin .neq 29 (kI 0))]
def a9P:List (Nat×Ins):=[(0,qI 31 (.build [.int .i64 0,.string (bs []),.slice none 0 0,.int .i64 0,.int .i64 0,.slice none 0 0] [])),(0,qI 32 (.fO 1 8)),(1,qI 33 (.load 1 false 32)),(0,qI 34 (.mov 10)),(2,qN (.store 6 4 31)),(0,qI 5 (.mov (kI 0))),(0,qI 6 (.mov 33)),(0,qI 7 (.mov 34))]
def XH:List Ins:=[qI 35 (.load 8 true 9),qI 36 (.call (.fn 192) [35])]
def a9O:List Ins:=[qI 37 (.build [.int .i64 0,.string (bs []),.slice none 0 0,.int .i64 0,.int .i64 0,.slice none 0 0] []),qI 38 (.mov 1),qN (.store 6 4 37),qI 5 (.mov (kI 0)),qI 6 (.mov 38),qI 7 (.mov (kI 4))]
def XG:List (Nat×Ins):=[(0,qI 39 (.fO 0 9)),(0,qI 40 (.load 6 true 39)),(0,qI 41 (.fO 1 8)),(1,qI 42 (.load 1 false 41)),(2,qN (.store 6 4 40)),(0,qI 5 (.mov 42)),(0,qI 6 (.mov (kI 0))),(0,qI 7 (.mov (kI 0)))]
def c182:C:=(.seq (.ops false XM) (.seq (.seq (.ops false XL) (.cond 18 (.seq (.ops false a9Q) .ret) .skip)) (.seq (.ops false XK) (.seq (.ops false XJ) (.seq (.seq (.ops false XI) (.cond 30 (.seq (.pO a9P) .ret) .skip)) (.seq (.seq (.ops false XH) (.cond 36 (.seq (.ops false a9O) .ret) .skip)) (.seq (.pO XG) .ret)))))))
theorem c1l:Fn Tryz.prog 182 43 c182 [.c 4 6 true,.t 5,.t 6,.t 7]:=⟨Tryz.f182,221::hcl,Tryz.func182,by kernel_rfl,by kernel_rfl,by kernel_rfl,by kernel_rfl⟩
def QB(H:List aH)(p:Nat)(toks:List ay)(k:Int)(a:AV):Prop:=∃c0,H[p]?=some ⟨210,3,0,false,[.agg [c0,.v (.int .i64 k),a]]⟩/\Wp c0 (Ty.enc (.list bR) toks)
structure Fr (H H':List aH) (S:List Nat):Prop where
 ge:H.length<=H'.length
 fr:∀j,j<H.length->j∉S->H'[j]?=H[j]?
theorem Fr.refl(H:List aH)(S:List Nat):Fr H H S:=⟨aS _,λ_ _ _=>rfl⟩
theorem a3U{H:List aH}{p:Nat}{O:aH}{ρ:List Nat}{h:List XO}{toks:List ay}{k:Int}{l:List AV}(hO:H[p]?=some O)(hs:wM ρ h (.box 210 [.d (.list bR) toks,.d (.int .i64) k,.raw l]) O):QB H p toks k (l.headD .any):=by
 obtain⟨h1,h2,h3,h4,e,h5,hc⟩:=hs
 obtain⟨c0,r,e0,v0,hc⟩:=hc.cZ
 obtain⟨c1,r,rfl,v1,hc⟩:=hc.cZ
 obtain⟨c2,r,rfl,v2,hc⟩:=hc.cZ
 obtain rfl:=hc.gT
 have v1:c1=_:=Wp.dK v1
 have v2:c2=l.headD .any:=v2
 subst v1 v2
 have he:e=.agg [c0,.v (.int .i64 k),l.headD .any]:=by
  cases e with
  |agg cs=>exact dn AV.agg e0
  |_=>simp[AV.cells]at e0
 obtain⟨ty,sz,fz,pr,es⟩:=O
 dsimp only at h1 h2 h3 h4 h5
 subst h1 h3 h4 h5 he
 exact⟨c0,hO.trans (by rw[h2];rfl),v0⟩
theorem a3V{H:List aH}{p:Nat}{toks:List ay}{k:Int}{a:AV}(h:QB H p toks k a):HS [p] [.box 210 [.d (.list bR) toks,.d (.int .i64) k,.raw [a]]] H:=by
 obtain⟨c0,hO,hw⟩:=h
 refine⟨rfl,by simp,λi o q=>?_⟩
 match i,q with
 |0,q =>
  cases q
  exact⟨_,hO,rfl,rfl,rfl,rfl,_,rfl,.cons hw (.cons (Wp.refl _) (.cons rfl .nil))⟩
theorem JF{ρ':List Nat}{p n:Nat}{H H':List aH}(h:Frm H [p] ρ' H')(hl:ρ'.length=1):ρ'=[p]/\Fr H H' [p]:=by
 obtain⟨⟨l,rfl,_⟩,h2,h3⟩:=h
 have:l=[]:=by simpa using hl
 subst this
 exact⟨rfl,h2,h3⟩
theorem FP{H:List aH}{p:Nat}{toks:List ay}{k:Int}{a:AV}(hp:QB H p toks k a){kd:Int}{s:ByteArray}{b:Bool}{k':Int}(hm:uJ kd s toks k [a]=some (b,toks,k',[a],())):fJ Tryz.prog (gx fA) 206 H [.ptr p 1 0 0,.v (.int .i64 kd),.v (.string s)] (λres H'=>res=.v (.bool b)/\QB H' p toks k' a/\Fr H H' [p]):=by
 refine(Io.2 (kd,s,toks,k,[a],()) _ hm H [p] _ ⟨.cons ⟨_,rfl,rfl⟩ (.cons (Dx (.refl _)) (.cons (Dx (.refl _)) .nil)),a3V hp⟩).mono ?_
 rintro res H' ⟨ρ',rs,hS,rfl,hF⟩
 obtain⟨rfl,hf⟩:=JF (n:=0) hF hS.h.rl
 have ht:bn (VT [p] _) [.d .bool b] rs:=hS.t
 obtain⟨a1,r,rfl,v1,ht⟩:=ht.cZ
 obtain rfl:=ht.gT
 have v1:a1=_:=Wp.dK v1
 obtain⟨O,hO,hs⟩:=hS.h.hr 0 _ rfl
 exact⟨v1,a3U hO hs,hf⟩
theorem b4X{H:List aH}{p:Nat}{toks:List ay}{k:Int}{a:AV}(hp:QB H p toks k a){x:cK}{k':Int}(hm:JM toks k [a]=some (0,x.1.1,x.1.2.1,x.1.2.2.1,x.1.2.2.2.1,x.1.2.2.2.2.1,x.1.2.2.2.2.2.1,x.2.1,x.2.2.1,toks,k',[a],())):fJ Tryz.prog (gx fA) 202 H [.ptr p 1 0 0] (λres H'=>∃cs,res=.tup [.agg cs,.v (.int .i64 0)]/\Wp (.agg cs) (Ty.enc pG x)/\QB H' p toks k' a/\Fr H H' [p]):=by
 refine(b1c.2 (toks,k,[a],()) _ hm H [p] _ ⟨.cons ⟨_,rfl,rfl⟩ .nil,a3V hp⟩).mono ?_
 rintro res H' ⟨ρ',rs,hS,rfl,hF⟩
 obtain⟨rfl,hf⟩:=JF (n:=0) hF hS.h.rl
 have ht:bn (VT [p] _) [.agg [.d (.int .i64) x.1.1,.d .str x.1.2.1,.d (.list .str) x.1.2.2.1,.d (.int .i64) x.1.2.2.2.1,.d (.int .i64) x.1.2.2.2.2.1,.d (.rl 34 6) x.1.2.2.2.2.2.1,.d (.int .i64) x.2.1,.d (.int .i64) x.2.2.1],.d (.int .i64) (show Int from 0)] rs:=hS.t
 obtain⟨a1,r,rfl,v1,ht⟩:=ht.cZ
 obtain⟨a2,r,rfl,v2,ht⟩:=ht.cZ
 obtain rfl:=ht.gT
 have v2:a2=_:=Wp.dK v2
 subst v2
 obtain⟨cs,rfl,hc⟩:=v1
 obtain⟨O,hO,hs⟩:=hS.h.hr 0 _ rfl
 obtain⟨b0,r,rfl,u0,hc⟩:=hc.cZ
 obtain⟨b1,r,rfl,u1,hc⟩:=hc.cZ
 obtain⟨b2,r,rfl,u2,hc⟩:=hc.cZ
 obtain⟨b3,r,rfl,u3,hc⟩:=hc.cZ
 obtain⟨b4,r,rfl,u4,hc⟩:=hc.cZ
 obtain⟨b5,r,rfl,u5,hc⟩:=hc.cZ
 obtain⟨b6,r,rfl,u6,hc⟩:=hc.cZ
 obtain⟨b7,r,rfl,u7,hc⟩:=hc.cZ
 obtain rfl:=hc.gT
 have q:bn Wp [b0,b1,b2,b3,b4,b5,b6,b7] (Ty.enc pG x).cells:=.cons u0 (.cons u1 (.cons u2 (.cons u3 (.cons u4 (.cons u5 (.cons u6 (.cons u7 .nil)))))))
 exact⟨_,rfl,.agg _ _ q.1 q.2,a3U hO hs,hf⟩
structure PC (cs:List AV) (x:cK):Prop where
 w:Wp (.agg cs) (Ty.enc pG x)
 l:cs.length=8
 t:cs.take 8=cs
 d:cs.drop 8=[]
 k:∀H,gW H (.agg cs)=some (.agg cs)
 s:∀pr,dB pr (.agg cs)=some cs
 r:cs.flatMap bZ=[]
theorem a9U{cs:List AV}{x:cK}(h:Wp (.agg cs) (Ty.enc pG x)):∀c∈cs,Pl1 c:=λc hm=>by
 obtain⟨i,hi⟩:=dP.1 hm
 obtain⟨y,hy,hw⟩:=bn.lq h.cells hi
 obtain⟨f,hf,_,_,_,_,_,hpl⟩:=(CY pG x).mZ hy
 exact hpl.of_wp hw
theorem K4(H:List aH):∀(l:List AV),(∀c∈l,Pl1 c)->jK H l=some l
 |[],_=>rfl
 |a::l,q=>by simp only[jK,(q a (by simp)).keep H,K4 H l λc hc=>q c (by simp[hc])]
theorem TP(pr:Bool){l:List AV}(hp:∀c∈l,Pl1 c):dB pr (.agg l)=some l:=by
 simp only[dB]
 rw[if_pos (aD.2 λc hc=>(hp c hc).st pr)]
theorem PC.of{cs:List AV}{x:cK}(h:Wp (.agg cs) (Ty.enc pG x)):PC cs x:=by
 have hc:bn Wp cs (Ty.enc pG x).cells:=h.cells
 have hl:cs.length=8:=hc.1.trans (ji pG x)
 have hp:=a9U h
 refine⟨h,hl,eF (by omega),List.drop_of_length_le (by omega),λH=>?_,λpr=>TP pr hp,List.flatMap_eq_nil_iff.2 λc hc=>(hp c hc).rows⟩
 simp only[gW,K4 H cs hp,bq]
def Er(l:List cK):List AV:=List.map (α:=cK) (β:=AV) (λx=>Ty.enc pG x) l
theorem GQ(l:List cK):(Er l).length=l.length:=bA (α:=cK) ..
theorem GR(a b:List cK):Er (a++b)=Er a++Er b:=aU (α:=cK)
def o8(H:List aH)(a:AV)(xs:List cK):Prop:=(a=.v (.slice none 0 0)/\xs=[])\/∃id es,a=.row id es.length 8 0 es.length/\H[id]?=some ⟨212,8,0,true,es⟩/\bn Wp es (Er xs)
structure LV where
 n:Nat
 A:List cK
 B:List cK
 a:AV
 b:AV
def LV.av(l:LV):AV:=.agg [.v (.int .i64 (l.n:Int)),l.a,l.b]
def LV.ids(l:LV):List Nat:=bZ l.a++bZ l.b
def foot(p lid:Nat)(L:List LV):List Nat:=p::lid::L.flatMap LV.ids
structure PS (H:List aH) (p lid:Nat) (toks:List ay) (k:Int) (L:List LV) (es:List AV):Prop where
 pb:QB H p toks k (.row lid es.length 3 0 L.length)
 lv:H[lid]?=some ⟨207,3,0,false,es⟩
 le:L.length<=es.length
 at':∀(i:Nat) (l:LV),L[i]?=some l->es[i]?=some l.av
 rw:∀l∈L,o8 H l.a l.A/\o8 H l.b l.B
 nd:(foot p lid L).Nodup
 ln:L.length<=1000000
theorem a9S{f:Nat}{op:Int}{xs:List cK}{y:cK}{es:List AV}(hp:Pure Tryz.prog (gx fA) f (encs [.int .i64,.list pG] (op,xs,())) (jX (encs [pG] (y,()))))(h:bn Wp es (Er xs)):∃cs,PC cs y/\scalar (.agg cs)=false/\Pure Tryz.prog (gx fA) f [.v (.int .i64 op),.list 8 es] (.agg cs) :=
 ⟨_,.of (.refl _),rfl,hp.weak rfl λj a b p q=>by
  match j,p,q with
  |0,p,q=>cases p;cases q;exact Wk.refl _
  |1,p,q=>cases p;cases q;exact(Wp.list 8 es _ h.1 h.2).wk⟩
theorem uj(h:List aH):freeze h []=h:=rfl
theorem Gy:rz 212=false:=rfl
theorem Va:rz 207=true:=rfl
theorem a2A(h:List aH)(o:aH):freeze (h++[o]) [h.length]=h++[{ o with fz:=o.es.length }]:=by
 simp[freeze]
theorem Zn{P:Program}{Gl:Nat->Option (List AV)}{σ:St}{d:Bool}{dst:Option Nat}{K:St->Prop}{f:Nat}{args:List Opd}{us:List AV}{cs:List AV}(hc:callable P f=true)(hk:dV σ.h (args.map (σ.val Gl))=some us)(hp:Pure P Gl f us (.agg cs))(hs:scalar (.agg cs)=false)(hd:d=true->freeze σ.h ((args.map (σ.val Gl)).flatMap dU)=σ.h)(h:K (St.put ⟨σ.t,freeze σ.h ((args.map (σ.val Gl)).flatMap dU)⟩ dst (.agg cs))):fQ P Gl d σ dst K (.call (.fn f) args) :=
 ⟨f,rfl,hc,.inl ⟨us,_,hk,hp,by rw[hs];exact hd,by rw[hs];exact h⟩⟩
theorem jk{P:Program}{Gl:Nat->Option (List AV)}{σ:St}{dst:Option Nat}{K:St->Prop}{f:Nat}{args:List Opd}{Q:AV->List aH->Prop}(hc:callable P f=true)(hp:fJ P Gl f σ.h (args.map (σ.val Gl)) Q)(h:∀res h',Q res h'->K (St.put ⟨σ.t,h'⟩ dst res)):fQ P Gl false σ dst K (.call (.fn f) args) :=
 ⟨f,rfl,hc,.inr ⟨rfl,hp.mono h⟩⟩
section
variable{P:Program}{Gl:Nat->Option (List AV)}{N:Nat}{U:List Nat}{σ:St}{K:St->Prop}
theorem yA{Q:Exit->St->Prop}{l:List (Nat×Ins)}(U:List Nat)(h:fZ P Gl σ.h.length U (Q .normal) l σ):awp P Gl N (.pO l) Q σ:=⟨U,h⟩
theorem ZE:fZ P Gl N U K [] σ=K σ:=rfl
theorem b3K{i:Ins}{r:List (Nat×Ins)}:fZ P Gl N U K ((0,i)::r) σ=fI P Gl true σ i (fZ P Gl N U K r):=rfl
theorem b3J{i:Ins}{r:List (Nat×Ins)}:fZ P Gl N U K ((1,i)::r) σ=((wants σ i->∀id∈i.i.ids Gl σ,id<N/\id∉U)/\fI P Gl true σ i (fZ P Gl N U K r)):=rfl
theorem b3I{i:Ins}{r:List (Nat×Ins)}:fZ P Gl N U K ((2,i)::r) σ=fI P Gl false σ i λρ=>agree N U σ.h ρ.h/\fZ P Gl N U K r ρ:=rfl
end
theorem a3j{P:Program}{Gl:Nat->Option (List AV)}{σ:St}{d:Bool}{K:St->Prop}{dst:Option Nat}{b s n}{x}{i}:fQ P Gl d σ dst K (.mQ b s n x i)=bE Gl σ dst K (.mQ b s n x i):=rfl
def bsH:=And.intro @a7k (And.intro @a7m (And.intro @a3k (And.intro @Zw (And.intro @a3l (And.intro @a7l (And.intro @Vz (And.intro @VB (And.intro @Rb (And.intro @ZF (And.intro @a3t (And.intro @KC (And.intro @QM (And.intro @Rf (And.intro @QL (And.intro @ZG (And.intro @VN (And.intro @a3s (And.intro @ZC (And.intro @VK (And.intro @a3o (And.intro @a3p (And.intro @a3r (And.intro @a3q (And.intro @b3v (And.intro @a7i (And.intro @b3z (And.intro @b6P (And.intro @b3x (And.intro @a3g (And.intro @a3f (And.intro @a7j (And.intro @a3d (And.intro @a3e (And.intro @b3w (And.intro @b3u (And.intro @b3A (And.intro @Zv (And.intro @a3h (And.intro @b3y (And.intro @a3i (And.intro @ZE (And.intro @b3K (And.intro @b3J (And.intro @b3I (@a3j)))))))))))))))))))))))))))))))))))))))))))))
theorem Mi{H:List aH}{p lid:Nat}{L:List LV}{t:LV}{es:List AV}{toks:List ay}{k:Int}(hP:PS H p lid toks k (L++[t]) es):fJ Tryz.prog (gx fA) 216 H [.ptr p 1 0 0] (λres H'=>res=.ptr lid es.length L.length 0/\H'=H):=by
 obtain⟨c0,hO,hw⟩:=hP.pb
 have h1:=hP.ln
 have h2:=hP.le
 rw[ak,aJ]at hO h1 h2
 have hw:IntKind.i64.wrap (L.length:Int)=L.length:=wrap64 (by omega) (by omega)
 refine c1f.U5 mixed (t:=[.ptr p 1 0 0,.any,.any,.any,.any,.any,.any,.any,.any,.any,.any,.any,.any,.any]) rfl ?_
 simp[b3d,Xa,X9,bsH,bE,step,St.val,St.put,hO,AV.cells,qI,qN,kI,bV,hw,uy,rZ,nY]
 exact⟨by omega,True,trivial⟩
set_option maxRecDepth 100000
theorem o8.mono{H H':List aH}{a:AV}{xs:List cK}(h:o8 H a xs)(hh:∀i∈bZ a,∀o,H[i]?=some o->H'[i]?=some o):o8 H' a xs:=by
 rcases h with h|⟨id,es,rfl,h2,h3⟩
 .exact .inl h
 .exact .inr ⟨id,es,rfl,hh id (by simp[bZ]) _ h2,h3⟩
theorem lt_of_some{H:List aH}{i:Nat}{o:aH}(h:H[i]?=some o):i<H.length:=(aj.1 h).1
theorem PS.mono{H H':List aH}{p lid:Nat}{toks:List ay}{k:Int}{L:List LV}{es:List AV}(h:PS H p lid toks k L es)(hh:∀i∈foot p lid L,∀o,H[i]?=some o->H'[i]?=some o):PS H' p lid toks k L es:=by
 obtain⟨⟨c0,h1,h2⟩,h3,h4,h5,h6,h7,h8⟩:=h
 have sub:∀l∈L,∀i,i∈l.ids->i∈foot p lid L:=λl hl i hi=>bG _ (bG _ (iM.2 ⟨l,hl,hi⟩))
 exact⟨⟨c0,hh p (by simp[foot]) _ h1,h2⟩,hh lid (by simp[foot]) _ h3,h4,h5,λl hl=>⟨(h6 l hl).1.mono λi hi=>hh i (sub l hl i (by simp[LV.ids,hi])),(h6 l hl).2.mono λi hi=>hh i (sub l hl i (by simp[LV.ids,hi]))⟩,h7,h8⟩
theorem PS.lt{H:List aH}{p lid:Nat}{toks:List ay}{k:Int}{L:List LV}{es:List AV}(h:PS H p lid toks k L es):∀i∈foot p lid L,i<H.length:=λi hi=>by
 obtain⟨⟨c0,h1,h2⟩,h3,h4,h5,h6,h7,h8⟩:=h
 rcases bD.1 hi with rfl|hi
 .exact lt_of_some h1
 .rcases bD.1 hi with rfl|hi
  .exact lt_of_some h3
  .obtain⟨l,hl,hi⟩:=iM.1 hi
   have one:∀{a:AV} {xs:List cK},o8 H a xs->i∈bZ a->i<H.length:=λhr q=>by
    rcases hr with⟨rfl,_⟩|⟨id,es,rfl,h2,_⟩
    .cases q
    .simp only[bZ,aV]at q;subst q;exact lt_of_some h2
   rcases aG.1 hi with q|q
   .exact one (h6 l hl).1 q
   .exact one (h6 l hl).2 q
theorem PS.app{H:List aH}{p lid:Nat}{toks:List ay}{k:Int}{L:List LV}{es:List AV}(h:PS H p lid toks k L es)(l:List aH):PS (H++l) p lid toks k L es :=
 h.mono λi hi o ho=>by rw[au (lt_of_some ho)];exact ho
theorem PS.top{H H':List aH}{p lid:Nat}{toks:List ay}{k:Int}{L:List LV}{t t':LV}{es:List AV}(h:PS H p lid toks k (L++[t]) es)(h1:∀i∈foot p lid L,i≠lid->∀o,H[i]?=some o->H'[i]?=some o)
  (h2:H'[lid]?=some ⟨207,3,0,false,es.set L.length t'.av⟩) (h3:o8 H' t'.a t'.A/\o8 H' t'.b t'.B) (h4:t'.ids.Nodup) (h5:∀i∈t'.ids,i∈t.ids\/H.length<=i):PS H' p lid toks k (L++[t']) (es.set L.length t'.av):=by
 have hlt:=h.lt
 obtain⟨⟨c0,k1,k2⟩,k3,k4,k5,k6,k7,k8⟩:=h
 have hne:p≠lid:=λe=>by subst e;simp[foot]at k7
 have e:∀x:LV,foot p lid (L++[x])=foot p lid L++x.ids:=λx=>by simp[foot]
 rw[e]at k7 hlt
 have hnd:=dN.1 k7
 simp only[ak,aJ]at k1 k4 k8
 refine⟨⟨c0,?_,k2⟩,h2,by simpa using k4,λi l q=>?_,λl hl=>?_,?_,by simpa using k8⟩
 .simp only[ak,aJ,pE];exact h1 p (by simp[foot]) hne _ k1
 .rcases bI i L.length with hi|hi
  .rw[au hi]at q
   rw[aC (by omega)]
   exact k5 i l (by rw[au hi];exact q)
  .rw[aO hi]at q
   have:i-L.length=0:=by have:=(aj.1 q).1;simp at this;omega
   rw[this]at q
   cases q
   rw[show i=L.length by omega,aK (by omega)]
 .rcases aG.1 hl with hl|hl
  .have sub:∀i,i∈l.ids->i∈foot p lid L:=λi hi=>bG _ (bG _ (iM.2 ⟨l,hl,hi⟩))
   have nl:∀i,i∈l.ids->i≠lid:=λi hi q=>by
    subst q
    have:(foot p i L).Nodup:=hnd.1
    simp only[foot,kM]at this
    exact this.2.1 (iM.2 ⟨l,hl,hi⟩)
   have:=k6 l (by simp[hl])
   exact⟨this.1.mono λi hi=>h1 i (sub i (by simp[LV.ids,hi])) (nl i (by simp[LV.ids,hi])),this.2.mono λi hi=>h1 i (sub i (by simp[LV.ids,hi])) (nl i (by simp[LV.ids,hi]))⟩
  .rw[aV.1 hl];exact h3
 .rw[e]
  refine dN.2 ⟨hnd.1,h4,λa ha b hb q=>?_⟩
  subst q
  rcases h5 a hb with q|q
  .exact hnd.2.2 a ha a q rfl
  .have:=hlt a (by simp[ha]);omega
structure Go' (H H':List aH) (F F':List Nat):Prop where
 fr:Fr H H' F
 nw:∀i∈F',i∈F\/H.length<=i
theorem Jy{H Hf:List aH}{p lid:Nat}{toks:List ay}{k:Int}{L:List LV}{t t':LV}{es:List AV}(h:PS H p lid toks k (L++[t]) es)(h1:∀j,j<H.length->j≠lid->j∉t.ids->Hf[j]?=H[j]?)(hl:H.length<=Hf.length)
  (h2:Hf[lid]?=some ⟨207,3,0,false,es.set L.length t'.av⟩) (h3:o8 Hf t'.a t'.A/\o8 Hf t'.b t'.B) (h4:t'.ids.Nodup) (h5:∀i∈t'.ids,i∈t.ids\/H.length<=i):PS Hf p lid toks k (L++[t']) (es.set L.length t'.av)/\Go' H Hf (foot p lid (L++[t])) (foot p lid (L++[t'])):=by
 have e:∀x:LV,foot p lid (L++[x])=foot p lid L++x.ids:=λx=>by simp[foot]
 have hnd:=h.nd
 rw[e]at hnd
 have hnd:=dN.1 hnd
 refine⟨h.top (λi hi hne o ho=>(h1 i (lt_of_some ho) hne λq=>hnd.2.2 i hi i q rfl).trans ho) h2 h3 h4 h5,⟨hl,λj hj hn=>?_⟩,λi hi=>?_⟩
 .rw[e,aG,not_or]at hn
  exact h1 j hj (λq=>hn.1 (by rw[q];simp[foot])) hn.2
 .rw[e]at hi ⊢
  rcases aG.1 hi with hi|hi
  .exact .inl (by simp[hi])
  .rcases h5 i hi with q|q
   .exact .inl (by simp[q])
   .exact .inr q
theorem SF{H Hf:List aH}{p lid:Nat}{toks:List ay}{k:Int}{L:List LV}{t:LV}{es:List AV}(a':AV){A':List cK}(h:PS H p lid toks k (L++[t]) es)(h1:∀j,j<H.length->j≠lid->j∉bZ t.a->Hf[j]?=H[j]?)(hl:H.length<=Hf.length)
  (h2:Hf[lid]?=some ⟨207,3,0,false,es.set L.length (.agg [.v (.int .i64 0),a',t.b])⟩) (h3:o8 Hf a' A') (h5:∀i∈bZ a',i∈bZ t.a\/H.length<=i):∃a'',(∃x,PS Hf p lid toks k (L++[⟨0,A',t.B,a'',t.b⟩]) x)/\Go' H Hf (foot p lid (L++[t])) (foot p lid (L++[⟨0,A',t.B,a'',t.b⟩])):=by
 have hnd:=h.nd
 have hlt:=h.lt
 have e:foot p lid (L++[t])=foot p lid L++t.ids:=by simp[foot]
 rw[e]at hnd hlt
 have hnd:=dN.1 hnd
 have hb:∀i∈bZ t.b,i∈t.ids:=λi hi=>by simp[LV.ids,hi]
 have ha:∀i∈bZ t.a,i∈t.ids:=λi hi=>by simp[LV.ids,hi]
 have hd:=dN.1 (show(bZ t.a++bZ t.b).Nodup from hnd.2.1)
 have one:(bZ a').Nodup:=by cases a'<;>simp[bZ]
 have q:=Jy (t':=⟨0,A',t.B,a',t.b⟩) h (λj hj hne hn=>h1 j hj hne λq=>hn (ha j q)) hl h2 ⟨h3,(h.rw t (by simp)).2.mono λi hi o ho=>(h1 i (lt_of_some ho) (λq=>hnd.2.2 lid (by simp[foot]) i (hb i hi) q.symm) (λq=>hd.2.2 i q i hi rfl)).trans ho⟩ (dN.2 ⟨one,hd.2.1,λx hx y hy e=>by
  subst e
  rcases h5 x hx with q|q
  .exact hd.2.2 x q x hy rfl
  .have:=hlt x (by simp[hb x hy]);omega⟩) (λi hi=>by
  rcases aG.1 hi with hi|hi
  .rcases h5 i hi with q|q
   .exact .inl (ha i q)
   .exact .inr q
  .exact .inl (hb i hi))
 exact⟨a',⟨_,q.1⟩,q.2⟩
def yM:Nat->cK->Option cK
 |0,x=>some x
 |n+1,x=>(Gq 6 [x]).bind λy=>yM n y.1
theorem b1A{n:Nat}{x y:cK}(h:yM (n+1) x=some y):∃z,Gq 6 [x]=some (z,())/\yM n z=some y:=by
 unfold yM at h
 rw[gV]at h
 obtain⟨⟨z,⟨⟩⟩,h1,h2⟩:=h
 exact⟨z,h1,h2⟩
def c1d(H:List aH)(p lid G n tn:Nat)(y:cK)(m:Nat)(τ:St):Prop:=∃(i:Nat) (x':cK) (cs':List AV),i+m=tn/\yM m x'=some y/\PC cs' x'/\τ.h[H.length]?=some ⟨212,8,0,false,[.agg cs']⟩/\(∀j,j<H.length->τ.h[j]?=H[j]?)/\clr [1,2,5,6,7,8,9,12,13,14,15,16,17,18,19,20,21,22,23,24,25,26,27,28,29] τ.t=[.ptr p 1 0 0,.any,.any,.ptr H.length 1 0 0,.ptr lid G n 0,.any,.any,.any,.any,.any,.v (.int .i64 (tn:Int)),.v (.int .i64 (i:Int)),.any,.any,.any,.any,.any,.any,.any,.any,.any,.any,.any,.any,.any,.any,.any,.any,.any,.any]
theorem b6X{H:List aH}{p lid:Nat}{toks:List ay}{k:Int}{L:List LV}{t:LV}{es:List AV}(hP:PS H p lid toks k (L++[t]) es){cs:List AV}{x y:cK}(hx:PC cs x)(hn:yM t.n x=some y)(hn2:t.n<=1000000)(hA:t.A.length<=100000) :
  fJ Tryz.prog (gx fA) 203 H [.ptr p 1 0 0,.agg cs] (λres H'=>∃a' es',PS H' p lid toks k (L++[⟨0,t.A++[y],t.B,a',t.b⟩]) es'/\Go' H H' (foot p lid (L++[t])) (foot p lid (L++[⟨0,t.A++[y],t.B,a',t.b⟩]))):=by
 refine fJ.ofC mixed c1i (t:=[.ptr p 1 0 0,.agg cs,.any,.any,.any,.any,.any,.any,.any,.any,.any,.any,.any,.any,.any,.any,.any,.any,.any,.any,.any,.any,.any,.any,.any,.any,.any,.any,.any,.any]) rfl λB w0=>?_
 unfold c203
 refine kR (jh mixed ?_)
 simp[bsH,bE,step,St.val,St.put,AV.cells,qI,qN,qF,kI,kN,bV,unV,Xr,hx.s,hx.l]
 have hP1:=hP.app [⟨212,8,0,false,[.agg cs]⟩]
 refine kR (jh mixed ?_)
 simp[bsH,bE,step,St.val,St.put,AV.cells,qI,qN,qF,kI,kN,bV,unV,Xq]
 refine jk (by kernel_rfl) (Mi hP1) ?_
 rintro _ _ ⟨rfl,rfl⟩
 simp[bsH,bE,step,St.val,St.put,AV.cells,qI,qN,qF,kI,kN,bV,unV]
 have hlen:=hP.le
 simp only[ak,aJ]at hlen
 have hlv:=hP1.lv
 have htop:es[L.length]?=some t.av:=hP.at' _ _ (by simp)
 refine kR (kR (jh mixed ?_))
 simp[bsH,bE,step,St.val,St.put,AV.cells,qI,qN,qF,kI,kN,bV,unV,Xp,hlv,htop,LV.av]
 refine⟨by omega,uZ (EO (c1d H p lid es.length L.length t.n y) t.n ⟨0,x,cs,by omega,hn,hx,by simp,λj hj=>au hj,by simp[clr]⟩ ?_)⟩
 clear hlv hP1
 rintro m ⟨τt,h⟩ ⟨i,x',cs',hi,hm,hx',hb,hfr,hcl⟩
 refine HZ _ _ hcl (jh mixed ?_)
 clear hcl
 cases m with
 |succ m =>
  obtain⟨z,hz,hm⟩:=b1A hm
  obtain⟨cz,hcz,hsz,hpz⟩:=a9S (Y3.2 ((show Int from 6),[x'],()) (z,()) hz) (es:=[.agg cs']) (.cons hx'.w .nil)
  have hlt:(i:Int)<(t.n:Int):=by omega
  simp[bsH,bE,step,St.val,St.put,AV.cells,qI,qN,qF,kI,kN,bV,unV,PD,Ot,Xo,hlt,hb,hx'.t,hx'.k,hx'.l,dV,dU,hx'.r,uj,Gy]
  refine Zn (by kernel_rfl) (us:=[.v (.int .i64 6),.list 8 [.agg cs']]) (by simp[St.val,dV,gW,jY,Value.oneCell']) hpz hsz (λq=>by cases q) ?_
  simp only[bg,List.map_nil,St.val]
  simp[dU,bZ,a2A]
  have hbl:H.length<h.length:=lt_of_some hb
  simp[bsH,bE,step,St.val,St.put,AV.cells,qI,qN,qF,kI,kN,bV,unV,au hbl,hb,hcz.s,hcz.l,jS]
  have hw:IntKind.i64.wrap ((i:Int)+1)=((i+1:Nat):Int):=by rw[wrap64 (by omega) (by omega)];rfl
  simp[bsH,bE,step,St.val,St.put,AV.cells,qI,qN,qF,kI,kN,bV,unV,Xn,hw,jS]
  refine⟨i+1,z,cz,by omega,hm,hcz,?_,λj hj=>?_,by simp[clr,und]⟩
  .rw[aK (by rw[ak];omega)]
   simp[setCells,hcz.l,hx'.d]
  .rw[aC (by omega),au (by omega)];exact hfr j hj
 |zero =>
  have hge:¬(i:Int)<(t.n:Int):=by omega
  obtain rfl:x'=y:=aI hm
  simp[bsH,bE,step,St.val,St.put,AV.cells,qI,qN,qF,kI,kN,bV,unV,PD,Ot,hge,rU]
  have GA:lid<H.length:=lt_of_some hP.lv
  have hlv:h[lid]?=some ⟨207,3,0,false,es⟩:=(hfr lid GA).trans hP.lv
  have hbl:H.length<h.length:=lt_of_some hb
  refine kR (jh mixed ?_)
  simp[bsH,bE,step,St.val,St.put,AV.cells,qI,qN,qF,kI,kN,bV,unV,Xm,hlv,htop,LV.av,dB,st1,Value.oneCell',setCells]
  refine⟨by omega,jh mixed (yA [] ?_)⟩
  have hb1:(h.set lid ⟨207,3,0,false,es.set L.length (.agg [.v (.int .i64 0),t.a,t.b])⟩)[H.length]?=some ⟨212,8,0,false,[.agg cs']⟩:=by rw[aC (by omega)];exact hb
  have hl1:(h.set lid ⟨207,3,0,false,es.set L.length (.agg [.v (.int .i64 0),t.a,t.b])⟩)[lid]?=some ⟨207,3,0,false,es.set L.length (.agg [.v (.int .i64 0),t.a,t.b])⟩:=aK (by omega)
  generalize hh1:h.set lid ⟨207,3,0,false,es.set L.length (.agg [.v (.int .i64 0),t.a,t.b])⟩=h1 at hb1 hl1
  have ht1:(es.set L.length (.agg [.v (.int .i64 0),t.a,t.b]))[L.length]?=some (.agg [.v (.int .i64 0),t.a,t.b]):=aK (by omega)
  rcases(hP.rw t (by simp)).1 with⟨ha,hA0⟩|⟨id,es2,ha,h2,h3⟩
  .rw[ha]at hl1 ht1
   have hl2:∀l,(h1++l)[lid]?=_:=λl=>(au (lt_of_some hl1)).trans hl1
   simp[bsH,bE,step,St.val,St.put,AV.cells,qI,qN,qF,kI,kN,bV,unV,Oq,ha,hl1,ht1,hb1,wants,I.ids,agree,hx'.t,hx'.k,hx'.l,dV,dU,hx'.r,uj,Gy,iC,tF,hl2,dB,st1,setCells,uy,nY,rZ]
   refine⟨lt_of_some hl1,by omega,λj hj=>au hj,by decide,by omega,⟨True,trivial⟩,?_⟩
   have hlen1:h1.length=h.length:=by rw[<- hh1];simp
   have hg:∀(l:List aH) (o:aH) j,j<H.length->j≠lid->((h1++l).set lid o)[j]?=H[j]?:=λl o j hj hne=>by
    rw[aC (λq=>hne q.symm),au (by omega),<- hh1,aC (λq=>hne q.symm)];exact hfr j hj
   refine SF (.row (h1.length+1) 1 8 0 1) hP (λj hj hne _=>hg _ _ j hj hne) (by simp;omega) (aK (by simp;omega)) (.inr ⟨h1.length+1,[.agg cs'],rfl,?_,by rw[hA0];exact .cons hx'.w .nil⟩) (λi hi=>.inr (by simp[bZ]at hi;omega))
   rw[aC (by omega)];simp
  .have K8:id≠lid:=λq=>by have:=hP.nd;simp[foot,LV.ids,ha,bZ,q]at this
   have hel:es2.length=t.A.length:=h3.1.trans (GQ _)
   have Ep:h1[id]?=some ⟨212,8,0,true,es2⟩:=by rw[<- hh1,aC (λq=>K8 q.symm),hfr id (lt_of_some h2)];exact h2
   have a2q:∀l,(h1++l)[id]?=_:=λl=>(au (lt_of_some Ep)).trans Ep
   rw[ha]at hl1 ht1
   have hl2:∀l o,((h1++l).set id o)[lid]?=_:=λl o=>(aC K8).trans ((au (lt_of_some hl1)).trans hl1)
   simp[bsH,bE,step,St.val,St.put,AV.cells,qI,qN,qF,kI,kN,bV,unV,Oq,ha,hl1,ht1,hb1,a2q,wants,I.ids,agree,hx'.t,hx'.k,hx'.l,dV,dU,hx'.r,uj,Gy,iC,tF,hl2,dB,st1,setCells,uy,nY,rZ]
   have hlen1:h1.length=h.length:=by rw[<- hh1];simp
   refine⟨lt_of_some hl1,by omega,λj hj=>au hj,⟨by unfold lU;omega,by omega⟩,by omega,⟨True,trivial⟩,?_⟩
   refine SF (.row id (es2.length+1) 8 0 (es2.length+1)) hP (λj hj hne hn=>?_) (by simp;omega) (aK (by simp;omega)) (.inr ⟨id,es2++[.agg cs'],by simp,?_,?_⟩) (λi hi=>.inl (by simpa[bZ,ha]using hi))
   .simp only[ha,bZ,aV]at hn
    rw[aC (λq=>hne q.symm),aC (λq=>hn q.symm),au (by omega),<- hh1,aC (λq=>hne q.symm)];exact hfr j hj
   .rw[aC (λq=>K8 q.symm),aK (by have:=lt_of_some Ep;simp;omega)]
   .rw[GR];exact h3.append (.cons hx'.w .nil)
set_option maxRecDepth 100000
theorem PS.acc{H H':List aH}{p lid:Nat}{toks:List ay}{k k':Int}{L:List LV}{es:List AV}(h:PS H p lid toks k L es)(hq:QB H' p toks k' (.row lid es.length 3 0 L.length))(hf:Fr H H' [p]):PS H' p lid toks k' L es/\Go' H H' (foot p lid L) (foot p lid L):=by
 have hlt:=h.lt
 have hnd:=h.nd
 have hne:∀i∈lid::L.flatMap LV.ids,i≠p:=λi hi q=>by subst q;simp only[foot,kM]at hnd;exact hnd.1 hi
 have keep:∀i∈lid::L.flatMap LV.ids,∀o,H[i]?=some o->H'[i]?=some o:=λi hi o ho=>(hf.fr i (lt_of_some ho) (by simp[hne i hi])).trans ho
 have sub:∀l∈L,∀i∈l.ids,i∈lid::L.flatMap LV.ids:=λl hl i hi=>bG _ (iM.2 ⟨l,hl,hi⟩)
 refine⟨⟨hq,keep lid (by simp) _ h.lv,h.le,h.at',λl hl=>⟨(h.rw l hl).1.mono λi hi=>keep i (sub l hl i (by simp[LV.ids,hi])),(h.rw l hl).2.mono λi hi=>keep i (sub l hl i (by simp[LV.ids,hi]))⟩,h.nd,h.ln⟩,⟨hf.ge,λj hj hn=>hf.fr j hj (by simp only[aV];intro q;exact hn (by rw[q];simp[foot]))⟩,λi hi=>.inl hi⟩
theorem Go'.trans{A B C:List aH}{F F' F'':List Nat}(h:Go' A B F F')(k:Go' B C F' F''):Go' A C F F'' :=
 ⟨⟨bF h.fr.ge k.fr.ge,λj hj hn=>(k.fr.fr j (ni hj h.fr.ge) λq=>(h.nw j q).elim hn λr=>by omega).trans (h.fr.fr j hj hn)⟩,λi hi=>(k.nw i hi).elim (λq=>h.nw i q) λq=>.inr (bF h.fr.ge q)⟩
def iK(toks:List ay)(k:Nat)(kd:Int)(s:ByteArray):Bool:=match toks[k]? with
 |some t=>cond (iEq t.1 kd) (sEq t.2.1 s) false
 |none=>false
theorem b2z(a b:Int):iNe a b=!iEq a b:=by simp only[iNe,iEq];rfl
theorem Au{toks:List ay}{k:Nat}(hk:k<=toks.length)(hl:toks.length<=1000000)(kd:Int)(s:ByteArray)(l:List AV):uJ kd s toks (k:Int) l=some (iK toks k kd s,toks,((cond (iK toks k kd s) (k+1) k:Nat):Int),l,()):=by
 have hL:aA toks=(toks.length:Int):=rfl
 unfold uJ iK
 rcases bI k toks.length with h|h
 .have ha:atI toks (k:Int) iU=toks[k]:=by unfold atI;rw[fG,bB,ah h];rfl
  rw[ah h,ha,show iEq (k:Int) (aA toks)=false by rw[dI];omega,show bnd (k:Int) (aA toks)=true by rw[bT];omega]
  simp only[mO]
  cases h1:iEq toks[k].1 kd<;>cases h2:sEq toks[k].2.1 s<;>simp[b2z,h1,aR,wrap64 (show -9223372036854775808<=(k:Int)+1 by omega) (by omega)]
 .have:k=toks.length:=by omega
  subst this
  rw[aX (aS _),show iEq ((toks.length:Nat):Int) (aA toks)=true by rw[kg,hL]]
  cases bnd ((toks.length:Nat):Int) (aA toks)<;>rfl
def g1C:List AV:=(gx fA 0).getD []
theorem gl0:gx fA 0=some g1C:=by kernel_rfl
theorem oW6:List.take 5 (List.drop 30 g1C)=[.v (.string (bs [110,111,116])),.v (.bool false),.v (.int .i64 1),.v (.int .i64 1),.v (.int .i64 3)]:=by kernel_rfl
theorem oW7:List.take 5 (List.drop 35 g1C)=[.v (.string (bs [97,110,100])),.v (.bool false),.v (.int .i64 2),.v (.int .i64 300),.v (.int .i64 2)]:=by kernel_rfl
theorem oW8:List.take 5 (List.drop 40 g1C)=[.v (.string (bs [111,114])),.v (.bool false),.v (.int .i64 2),.v (.int .i64 300),.v (.int .i64 1)]:=by kernel_rfl
def wI(toks:List ay)(k:Nat)(A B:List cK):Option (Bool×Nat×List cK×List cK) :=
 cond (iK toks k 1 (bs [97,110,100])) (some (true,k+1,A,B)) (cond (iK toks k 1 (bs [111,114])) ((oO 7 A).bind λy=>some (true,k+1,[],B++[y.1])) (some (false,k,A,B)))
theorem JB{H:List aH}{a:AV}{xs:List cK}(h:o8 H a xs):∃b,gW H a=some b/\Wp b (.list 8 (Er xs)):=by
 rcases h with⟨rfl,rfl⟩|⟨id,es,rfl,h2,h3⟩
 .exact⟨.v (.slice none 0 0),rfl,.nil 8⟩
 .exact⟨.list 8 es,by simp[gW,jY,h2],.list 8 _ _ h3.1 h3.2⟩
theorem PN{op:Int}{xs:List cK}{y:cK}(h:oO op xs=some (y,())){b:AV}(hb:Wp b (.list 8 (Er xs))):∃cs,PC cs y/\scalar (.agg cs)=false/\Pure Tryz.prog (gx fA) 221 [.v (.int .i64 op),b] (.agg cs) :=
 ⟨_,.of (.refl _),rfl,(b0p.2 (op,xs,()) (y,()) h).weak rfl λj a c p q=>by
  match j,p,q with
  |0,p,q=>cases p;cases q;exact Wk.refl _
  |1,p,q=>cases p;cases q;exact hb.wk⟩
theorem DU{H:List aH}{a:AV}{xs:List cK}(h:o8 H a xs):dU a=bZ a:=by
 rcases h with⟨rfl,_⟩|⟨id,es,rfl,_⟩<;>rfl
theorem Qu{P:Program}{Gl:Nat->Option (List AV)}{σ:St}{dst:Option Nat}{K:St->Prop}{f:Nat}{n:Int}{x:Opd}{a b:AV}{cs:List AV}(hc:callable P f=true)(ha:σ.val Gl x=a)(hk:gW σ.h a=some b)(hr:dU a=bZ a)(hp:Pure P Gl f [.v (.int .i64 n),b] (.agg cs))(hs:scalar (.agg cs)=false)
  (h:K (St.put ⟨σ.t,freeze σ.h (bZ a)⟩ dst (.agg cs))):fQ P Gl false σ dst K (.call (.fn f) [.k (.int .i64 n),x]):=by
 have e:([.k (.int .i64 n),x].map (σ.val Gl))=[.v (.int .i64 n),a]:=by
  show[AV.v (.int .i64 n),σ.val Gl x]=_
  rw[ha]
 have e2:([.v (.int .i64 n),a]:List AV).flatMap dU=bZ a:=by simp[dw,hr];rfl
 refine Zn hc (us:=[.v (.int .i64 n),b]) ?_ hp hs (λq=>by cases q) ?_
 .rw[e]
  show(match gW σ.h (.v (.int .i64 n)),(match gW σ.h a,dV σ.h []with|some b,some m=>some (b::m)|_,_=>none) with|some b,some m=>some (b::m)|_,_=>none)=_
  rw[hk];rfl
 .rw[e,e2];exact h
theorem Am:∀(ids:List Nat) (h:List aH) (id:Nat),id∉ids->(freeze h ids)[id]?=h[id]?:=by
 intro ids
 induction ids with
 |nil=>intro h id _;rfl
 |cons j ids ih =>
  intro h id hn
  simp only[bD,not_or]at hn
  show(freeze (match h[j]? with|some o=>h.set j { o with fz:=o.es.length }|none=>h) ids)[id]?=_
  rw[ih _ id hn.2]
  split
  .rw[aC (λe=>hn.1 e.symm)]
  .rfl
theorem a6I{h:List aH}{U:List Nat}:agree h.length U h (freeze h U):=λid hid hn=>Am U h id hn
theorem MR{Gl:Nat->Option (List AV)}{σ:St}{i:Nat}{Q:AV->List aH->Prop}(h:Q (σ.t.getD i .any) σ.h):uy Gl [.t i] Q .ret σ:=by
 simp only[uy,rZ,nY]
 exact⟨trivial,_,_,rfl,trivial,h⟩
theorem SA{H0 H Hf:List aH}{p lid:Nat}{toks:List ay}{k:Int}{L:List LV}{t:LV}{es:List AV}(b':AV){B':List cK}(hg:Go' H0 H (foot p lid (L++[t])) (foot p lid (L++[t])))(h:PS H p lid toks k (L++[t]) es)(h1:∀j,j<H.length->j≠lid->j∉bZ t.a->j∉bZ t.b->Hf[j]?=H[j]?)(hl:H.length<=Hf.length)
  (h2:Hf[lid]?=some ⟨207,3,0,false,es.set L.length (.agg [.v (.int .i64 (t.n:Int)),.v (.slice none 0 0),b'])⟩) (h3:o8 Hf b' B') (h5:∀i∈bZ b',i∈bZ t.b\/H.length<=i):∃a'' b'',(∃x,PS Hf p lid toks k (L++[⟨t.n,[],B',a'',b''⟩]) x)/\Go' H0 Hf (foot p lid (L++[t])) (foot p lid (L++[⟨t.n,[],B',a'',b''⟩])):=by
 have q:=Jy (t':=⟨t.n,[],B',.v (.slice none 0 0),b'⟩) h (λj hj hne hn=>h1 j hj hne (λq=>hn (by simp[LV.ids,q])) λq=>hn (by simp[LV.ids,q])) hl h2 ⟨.inl ⟨rfl,rfl⟩,h3⟩ (by cases b'<;>simp[LV.ids,bZ]) (λi hi=>by
  have hi:i∈bZ b':=by simpa[LV.ids,bZ]using hi
  rcases h5 i hi with q|q
  .exact .inl (by simp[LV.ids,q])
  .exact .inr q)
 exact⟨_,_,⟨_,q.1⟩,hg.trans q.2⟩
theorem b6S{H:List aH}{p lid:Nat}{toks:List ay}{k:Nat}{L:List LV}{t:LV}{es:List AV}(hP:PS H p lid toks k (L++[t]) es)(hk:k<=toks.length)(hl:toks.length<=1000000){b:Bool}{k':Nat}{A' B':List cK}(hn:wI toks k t.A t.B=some (b,k',A',B'))(hB:t.B.length<=100000) :
  fJ Tryz.prog (gx fA) 204 H [.ptr p 1 0 0] (λres H'=>res=.v (.bool b)/\∃a' b' es',PS H' p lid toks k' (L++[⟨t.n,A',B',a',b'⟩]) es'/\Go' H H' (foot p lid (L++[t])) (foot p lid (L++[⟨t.n,A',B',a',b'⟩]))):=by
 refine c1h.U5 mixed (t:=[.ptr p 1 0 0,.any,.any,.any,.any,.any,.any,.any,.any,.any,.any,.any,.any,.any,.any,.any,.any,.any,.any,.any,.any,.any,.any,.any,.any,.any,.any,.any,.any,.any,.any,.any,.any,.any]) rfl ?_
 unfold b3f
 simp[bsH,bE,step,St.val,St.put,AV.cells,qI,qN,qF,kI,kN,bV,unV,Xl,Xk,gl0,oW7]
 refine jk (by kernel_rfl) (FP hP.pb (Au hk hl 1 _ _)) ?_
 rintro _ H1 ⟨rfl,hq,hf⟩
 obtain⟨hP1,hg1⟩:=hP.acc hq hf
 unfold wI at hn
 cases h1:iK toks k 1 (bs [97,110,100]) with
 |true =>
  rw[h1]at hn hP1
  cases hn
  simp[bsH,bE,step,St.val,St.put,AV.cells,qI,qN,qF,kI,kN,bV,unV,h1,Xj]
  exact MR ⟨rfl,_,_,⟨_,hP1⟩,hg1⟩
 |false =>
  rw[h1]at hn hP1
  simp[bsH,bE,step,St.val,St.put,AV.cells,qI,qN,qF,kI,kN,bV,unV,h1,Xi,gl0,oW8]
  have hn:cond (iK toks k 1 (bs [111,114])) ((oO 7 t.A).bind λy=>some (true,k+1,[],t.B++[y.1])) (some (false,k,t.A,t.B))=some (b,k',A',B'):=hn
  refine jk (by kernel_rfl) (FP hP1.pb (Au hk hl 1 _ _)) ?_
  rintro _ H2 ⟨rfl,hq,hf⟩
  obtain⟨hP2,hg2⟩:=PS.acc (k:=(k:Int)) hP1 hq hf
  cases h2:iK toks k 1 (bs [111,114]) with
  |false =>
   rw[h2]at hn hP2
   cases hn
   simp[bsH,bE,step,St.val,St.put,AV.cells,qI,qN,qF,kI,kN,bV,unV,h2,Xh]
   exact MR ⟨rfl,_,_,⟨_,hP2⟩,hg1.trans hg2⟩
  |true =>
   rw[h2]at hn hP2
   simp[bsH,bE,step,St.val,St.put,AV.cells,qI,qN,qF,kI,kN,bV,unV,h2,Xg]
   refine jk (by kernel_rfl) (Mi hP2) ?_
   rintro _ h' ⟨rfl,rfl⟩
   obtain⟨⟨y,⟨⟩⟩,hy,hn⟩:=gV.1 (show((oO 7 t.A).bind λy=>some (true,k+1,([]:List cK),t.B++[y.1]))=some (b,k',A',B') from hn)
   cases hn
   have hlen:=hP2.le
   simp only[ak,aJ]at hlen
   have hlv:=hP2.lv
   have htop:es[L.length]?=some t.av:=hP2.at' _ _ (by simp)
   obtain⟨ba,hba,hwa⟩:=JB (hP2.rw t (by simp)).1
   obtain⟨cs,hcs,hsc,hpu⟩:=PN hy hwa
   have GA:lid<h'.length:=lt_of_some hlv
   simp[bsH,bE,step,St.val,St.put,AV.cells,qI,qN,qF,kI,kN,bV,unV]
   refine yA (bZ t.a) ?_
   simp[bsH,bE,step,St.val,St.put,AV.cells,qI,qN,qF,kI,kN,bV,unV,Xf,wants,I.ids,hlv,htop,LV.av]
   have hnl:lid∉t.ids:=λq=>by have:=hP2.nd;simp[foot,q]at this
   have hra:=DU (hP2.rw t (by simp)).1
   refine⟨⟨GA,λq=>hnl (by simp[LV.ids,q])⟩,by omega,?_⟩
   refine Qu (a:=t.a) (by kernel_rfl) rfl hba hra hpu hsc ?_
   have hfl:=za (bZ t.a) h'
   have hfg:=fun(id:Nat) (q:id∉bZ t.a)=>Am (bZ t.a) h' id q
   refine⟨a6I,?_⟩
   dsimp only[St.put]
   generalize freeze h' (bZ t.a)=hf at hfl hfg ⊢
   have hlv1:hf[lid]?=_:=(hfg lid λq=>hnl (by simp[LV.ids,q])).trans hlv
   rcases(hP2.rw t (by simp)).2 with⟨hb,hB0⟩|⟨id,es2,hb,h4,h5⟩
   .have hl2:∀l,(hf++l)[lid]?=_:=λl=>(au (by omega)).trans hlv1
    simp[bsH,bE,step,St.val,St.put,AV.cells,qI,qN,qF,kI,kN,bV,unV,hb,LV.av,hcs.t,hcs.k,hcs.l,dV,dU,hcs.r,uj,Gy,iC,tF,hl2,htop,dB,st1,setCells,agree,hfl]
    refine⟨λid hid _=>au (by omega),by decide,by omega,?_⟩
    have hl3:∀l o,((hf++l).set lid o)[lid]?=some o:=λl o=>aK (by rw[ak];omega)
    have he3:∀e,(es.set L.length e)[L.length]?=some e:=λe=>aK (by omega)
    simp[bsH,bE,step,St.val,St.put,AV.cells,qI,qN,qF,kI,kN,bV,unV,Oo,Om,hl3,he3,dB,st1,Value.oneCell',setCells,List.set_set]
    refine⟨by omega,MR ⟨rfl,?_⟩⟩
    refine SA (.row (h'.length+1) 1 8 0 1) (hg1.trans hg2) hP2 (λj hj hne hna _=>?_) (by simp;omega) (aK (by simp;omega)) (.inr ⟨h'.length+1,[.agg cs],rfl,?_,by rw[hB0];exact .cons hcs.w .nil⟩) (λi hi=>.inr (by simp[bZ]at hi;omega))
    .dsimp only
     rw[aC (λq=>hne q.symm),au (by omega)];exact hfg j hna
    .dsimp only
     rw[aC (by omega),aO (by omega)];simp[hfl]
   .have K8:id≠lid:=λq=>hnl (by simp[LV.ids,hb,bZ,q])
    have hna:id∉bZ t.a:=λq=>by
     have hnd:=hP2.nd
     rw[show foot p lid (L++[t])=foot p lid L++t.ids by simp[foot]]at hnd
     exact(dN.1 (show(bZ t.a++bZ t.b).Nodup from(dN.1 hnd).2.1)).2.2 id q id (by simp[hb,bZ]) rfl
    have hel:es2.length=t.B.length:=h5.1.trans (GQ _)
    have Ep:hf[id]?=some ⟨212,8,0,true,es2⟩:=(hfg id hna).trans h4
    have a2q:∀l,(hf++l)[id]?=_:=λl=>(au (lt_of_some Ep)).trans Ep
    have hl2:∀l o,((hf++l).set id o)[lid]?=_:=λl o=>(aC K8).trans ((au (by omega)).trans hlv1)
    simp[bsH,bE,step,St.val,St.put,AV.cells,qI,qN,qF,kI,kN,bV,unV,hb,LV.av,hcs.t,hcs.k,hcs.l,dV,dU,hcs.r,uj,Gy,iC,tF,Ep,a2q,hl2,htop,dB,st1,setCells,agree,hfl]
    refine⟨λi hi _=>au (by omega),⟨by unfold lU;omega,by omega⟩,by omega,?_⟩
    have hlx:=lt_of_some Ep
    have hl3:∀l o o',(((hf++l).set id o).set lid o')[lid]?=some o':=λl o o'=>aK (by rw[pE,ak];omega)
    have he3:∀e,(es.set L.length e)[L.length]?=some e:=λe=>aK (by omega)
    simp[bsH,bE,step,St.val,St.put,AV.cells,qI,qN,qF,kI,kN,bV,unV,Oo,Om,hl3,he3,dB,st1,Value.oneCell',setCells,List.set_set]
    refine⟨by omega,MR ⟨rfl,?_⟩⟩
    refine SA (.row id (es2.length+1) 8 0 (es2.length+1)) (hg1.trans hg2) hP2 (λj hj hne hnA hnB=>?_) (by simp;omega) (aK (by simp;omega)) (.inr ⟨id,es2++[.agg cs],by simp,?_,?_⟩) (λi hi=>.inl (by simpa[bZ,hb]using hi))
    .simp only[hb,bZ,aV]at hnB
     dsimp only
     rw[aC (λq=>hne q.symm),aC (λq=>hnB q.symm),au (by omega)];exact hfg j hnA
    .dsimp only
     rw[aC (λq=>K8 q.symm),aK (by rw[ak];omega)]
    .rw[GR];exact h5.append (.cons hcs.w .nil)
set_option maxRecDepth 100000
theorem Ao(p lid:Nat)(L:List LV)(t:LV):foot p lid (L++[t])=foot p lid L++t.ids:=by simp[foot]
theorem a6X{H Hf:List aH}{p lid:Nat}{toks:List ay}{k:Int}{L:List LV}{t:LV}{es:List AV}(h:PS H p lid toks k (L++[t]) es)(h1:∀j,j<H.length->j≠p->j∉t.ids->Hf[j]?=H[j]?)(hl:H.length<=Hf.length)
  (hp:∀c0,H[p]?=some ⟨210,3,0,false,[.agg [c0,.v (.int .i64 k),.row lid es.length 3 0 (L.length+1)]]⟩->Hf[p]?=some ⟨210,3,0,false,[.agg [c0,.v (.int .i64 k),.row lid es.length 3 0 L.length]]⟩):PS Hf p lid toks k L es/\Go' H Hf (foot p lid (L++[t])) (foot p lid L):=by
 have e:=Ao p lid L t
 have hnd:=h.nd
 have hln:=h.ln
 have hle:=h.le
 rw[e]at hnd
 have hnd:=dN.1 hnd
 rw[ak,aJ]at hln hle
 obtain⟨⟨c0,k1,k2⟩,k3,k4,k5,k6,k7,k8⟩:=h
 have np:∀i∈lid::L.flatMap LV.ids,i≠p:=λi hi q=>by
  subst q;have:=hnd.1;simp only[foot,kM]at this;exact this.1 hi
 have keep:∀i∈lid::L.flatMap LV.ids,∀o,H[i]?=some o->Hf[i]?=some o:=λi hi o ho=>(h1 i (lt_of_some ho) (np i hi) λq=>hnd.2.2 i (bG _ hi) i q rfl).trans ho
 have sub:∀l∈L,∀i∈l.ids,i∈lid::L.flatMap LV.ids:=λl hl i hi=>bG _ (iM.2 ⟨l,hl,hi⟩)
 rw[ak,aJ]at k1
 refine⟨⟨⟨c0,hp c0 k1,k2⟩,keep lid (by simp) _ k3,by omega,λi l q=>k5 i l (by rw[au (aj.1 q).1];exact q),λl hl=>?_,hnd.1,by omega⟩,⟨hl,λj hj hn=>?_⟩,λi hi=>.inl (by rw[e];simp[hi])⟩
 .have:=k6 l (by simp[hl])
  exact⟨this.1.mono λi hi=>keep i (sub l hl i (by simp[LV.ids,hi])),this.2.mono λi hi=>keep i (sub l hl i (by simp[LV.ids,hi]))⟩
 .rw[e,aG,not_or]at hn
  exact h1 j hj (λq=>hn.1 (by rw[q];simp[foot])) hn.2
def lv0:LV:=⟨0,[],[],.v (.slice none 0 0),.v (.slice none 0 0)⟩
theorem a1u{H Hf:List aH}{p lid:Nat}{toks:List ay}{k:Int}{L:List LV}{es es':List AV}(h:PS H p lid toks k L es)(hes:(L.length<es.length/\es'=es.set L.length lv0.av)\/(L.length=es.length/\es'=es++[lv0.av]))(hl:H.length<=Hf.length)(h1:∀j,j<H.length->j≠lid->j≠p->Hf[j]?=H[j]?)(h2:Hf[lid]?=some ⟨207,3,0,false,es'⟩)
  (hp:∀c0,H[p]?=some ⟨210,3,0,false,[.agg [c0,.v (.int .i64 k),.row lid es.length 3 0 L.length]]⟩->Hf[p]?=some ⟨210,3,0,false,[.agg [c0,.v (.int .i64 k),.row lid es'.length 3 0 (L.length+1)]]⟩) (hln:L.length+1<=1000000):PS Hf p lid toks k (L++[lv0]) es'/\Go' H Hf (foot p lid L) (foot p lid (L++[lv0])):=by
 have e:foot p lid (L++[lv0])=foot p lid L:=by rw[Ao];simp[LV.ids,lv0,bZ]
 have hnd:=h.nd
 obtain⟨⟨c0,k1,k2⟩,k3,k4,k5,k6,k7,k8⟩:=h
 have np:∀i∈L.flatMap LV.ids,i≠lid/\i≠p:=λi hi=>by
  simp only[foot,kM]at hnd
  exact⟨λq=>by subst q;exact hnd.2.1 hi,λq=>by subst q;exact hnd.1 (bG _ hi)⟩
 have keep:∀i∈L.flatMap LV.ids,∀o,H[i]?=some o->Hf[i]?=some o:=λi hi o ho=>(h1 i (lt_of_some ho) (np i hi).1 (np i hi).2).trans ho
 have sub:∀l∈L,∀i∈l.ids,i∈L.flatMap LV.ids:=λl hl i hi=>iM.2 ⟨l,hl,hi⟩
 have hle:L.length+1<=es'.length:=by rcases hes with⟨a,rfl⟩|⟨a,rfl⟩<;>simp<;>omega
 refine⟨⟨⟨c0,?_,k2⟩,h2,by simpa using hle,λi l q=>?_,λl hl=>?_,by rw[e];exact hnd,by simpa using hln⟩,⟨hl,λj hj hn=>h1 j hj (λq=>hn (by rw[q];simp[foot])) (λq=>hn (by rw[q];simp[foot]))⟩,λi hi=>.inl (by rw[<- e];exact hi)⟩
 .rw[ak,aJ];exact hp c0 k1
 .rcases bI i L.length with hi|hi
  .rw[au hi]at q
   have:=k5 i l q
   rcases hes with⟨a,rfl⟩|⟨a,rfl⟩
   .rw[aC (by omega)];exact this
   .rw[au (by omega)];exact this
  .have hi':i=L.length:=by have:=(aj.1 q).1;simp at this;omega
   subst hi'
   rw[aO hi,qJ]at q
   cases q
   rcases hes with⟨a,rfl⟩|⟨a,rfl⟩
   .exact aK a
   .rw[a,aO (aS _),qJ];rfl
 .rcases aG.1 hl with hl|hl
  .have:=k6 l hl
   exact⟨this.1.mono λi hi=>keep i (sub l hl i (by simp[LV.ids,hi])),this.2.mono λi hi=>keep i (sub l hl i (by simp[LV.ids,hi]))⟩
  .rw[aV.1 hl];exact⟨.inl ⟨rfl,rfl⟩,.inl ⟨rfl,rfl⟩⟩
def Ew(A B:List cK):Option cK:=(oO 7 A).bind λy=>(oO 8 (B++[y.1])).bind λz=>some z.1
theorem zc8:(Value.agg #[.int .i64 0,.string (bs []),.slice none 0 0,.int .i64 0,.int .i64 0,.slice none 0 0,.int .i64 0,.int .i64 0]).cells.size=8:=rfl
theorem zc3:(Value.agg #[.int .i64 0,.slice none 0 0,.slice none 0 0]).cells.size=3:=rfl
theorem o8.st{H:List aH}{a:AV}{xs:List cK}(h:o8 H a xs):st1 false a=true:=by
 rcases h with⟨rfl,_⟩|⟨id,es,rfl,_⟩<;>rfl
theorem b5M{H:List aH}{t:LV}(h:o8 H t.a t.A/\o8 H t.b t.B)(n:Int):dB false (.agg [.v (.int .i64 n),t.a,t.b])=some [.v (.int .i64 n),t.a,t.b]:=by
 simp only[dB,jT,h.1.st,h.2.st];rfl
theorem a7p{h:List aH}{b:AV}{xs:List cK}{cs:List AV}{y:cK}(hb:o8 h b xs)(hc:PC cs y)(hn:xs.length<=100000):∃p v h3,tF h 212 8 104 b [.agg cs]=some (p,v,h3)/\p/\o8 h3 v (xs++[y])/\(∀j,j<h.length->j∉bZ b->h3[j]?=h[j]?)/\h.length<=h3.length/\∀i∈bZ v,i∈bZ b\/h.length<=i:=by
 rcases hb with⟨rfl,rfl⟩|⟨id,es,rfl,h2,h3⟩
 .exact⟨_,_,_,rfl,⟨by show 1*104<=lU;decide,by show 1<=4611686018427387904;omega⟩,.inr ⟨h.length,[.agg cs],rfl,by simp,.cons hc.w .nil⟩,λj hj _=>au hj,by simp,λi hi=>.inr (by simp[bZ]at hi;omega)⟩
 .have hel:es.length=xs.length:=h3.1.trans (GQ _)
  refine⟨(es.length+1)*104<=lU/\es.length<=4611686018427387903,.row id (es.length+1) 8 0 (es.length+1),h.set id (aH.mk 212 8 0 true (es++[.agg cs])),by simp[tF,h2,Gy],⟨by unfold lU;omega,by omega⟩,.inr ⟨id,es++[.agg cs],by simp,aK (lt_of_some h2),by rw[GR];exact h3.append (.cons hc.w .nil)⟩,λj hj hn=>aC λq=>hn (by simp[bZ,q]),by simp,λi hi=>.inl hi⟩
theorem b6G{H:List aH}{p lid:Nat}{toks:List ay}{k:Nat}{L:List LV}{t:LV}{es:List AV}(hP:PS H p lid toks k (L++[t]) es){w:cK}(hc:Ew t.A t.B=some w)(hB:t.B.length<=100000) :
  fJ Tryz.prog (gx fA) 205 H [.ptr p 1 0 0] (λres H'=>∃cs,res=.agg cs/\PC cs w/\PS H' p lid toks k L es/\Go' H H' (foot p lid (L++[t])) (foot p lid L)):=by
 obtain⟨⟨y,⟨⟩⟩,hy,hc⟩:=gV.1 hc
 obtain⟨⟨z,⟨⟩⟩,hz,hc⟩:=gV.1 hc
 cases hc
 refine c1g.U5 mixed (t:=[.ptr p 1 0 0,.any,.any,.any,.any,.any,.any,.any,.any,.any,.any,.any,.any,.any,.any,.any,.any,.any,.any,.any,.any,.any,.any,.any,.any,.any,.any,.any,.any,.any]) rfl ?_
 unfold b3e
 simp[bsH,bE,step,St.val,St.put,AV.cells,qI,qN,qF,kI,kN,bV,unV,Xe,Xd,jO,zc8]
 have hP1:=hP.app [⟨212,8,0,false,[.agg [.v (.int .i64 0),.v (.string (bs [])),.v (.slice none 0 0),.v (.int .i64 0),.v (.int .i64 0),.v (.slice none 0 0),.v (.int .i64 0),.v (.int .i64 0)]]⟩]
 refine jk (by kernel_rfl) (Mi hP1) ?_
 rintro _ _ ⟨rfl,rfl⟩
 have hlen:=hP.le
 simp only[ak,aJ]at hlen
 have hlv:=hP.lv
 have GA:=lt_of_some hlv
 have hlv1:∀l,(H++l)[lid]?=_:=λl=>(au GA).trans hlv
 have htop:es[L.length]?=some t.av:=hP.at' _ _ (by simp)
 have hst:=b5M (hP.rw t (by simp))
 simp[bsH,bE,step,St.val,St.put,AV.cells,qI,qN,qF,kI,kN,bV,unV,hlv1,htop,LV.av,hst,setCells,jO,zc3]
 refine⟨by omega,?_⟩
 obtain⟨c0,hO,hw⟩:=hP.pb
 have hln:=hP.ln
 rw[ak,aJ]at hO hln
 have hp:=lt_of_some hO
 have hO1:∀l,(H++l)[p]?=_:=λl=>(au hp).trans hO
 have hsub:IntKind.i64.wrap (L.length:Int)=L.length:=wrap64 (by omega) (by omega)
 simp[bsH,bE,step,St.val,St.put,AV.cells,qI,qN,qF,kI,kN,bV,unV,Xc,hO1,hsub,qD,asN,dB,st1,setCells]
 refine⟨by omega,yA (bZ t.a++bZ t.b) ?_⟩
 simp only[hsub,fG]
 have hpl:p≠lid:=λe=>by have:=hP.nd;simp[foot,e]at this
 have hfr:∀j,j<H.length->j≠p->((H++[(⟨212,8,0,false,[.agg [.v (.int .i64 0),.v (.string (bs [])),.v (.slice none 0 0),.v (.int .i64 0),.v (.int .i64 0),.v (.slice none 0 0),.v (.int .i64 0),.v (.int .i64 0)]]⟩:aH),⟨207,3,0,false,[.agg [.v (.int .i64 (t.n:Int)),t.a,t.b]]⟩]).set p ⟨210,3,0,false,[.agg [c0,.v (.int .i64 (k:Int)),.row lid es.length 3 0 L.length]]⟩)[j]?=H[j]?:=λj hj hne=>by rw[aC (λq=>hne q.symm),au hj]
 have hpp:((H++[(⟨212,8,0,false,[.agg [.v (.int .i64 0),.v (.string (bs [])),.v (.slice none 0 0),.v (.int .i64 0),.v (.int .i64 0),.v (.slice none 0 0),.v (.int .i64 0),.v (.int .i64 0)]]⟩:aH),⟨207,3,0,false,[.agg [.v (.int .i64 (t.n:Int)),t.a,t.b]]⟩]).set p ⟨210,3,0,false,[.agg [c0,.v (.int .i64 (k:Int)),.row lid es.length 3 0 L.length]]⟩)[p]?=some ⟨210,3,0,false,[.agg [c0,.v (.int .i64 (k:Int)),.row lid es.length 3 0 L.length]]⟩:=aK (by rw[ak];omega)
 have h0n:((H++[(⟨212,8,0,false,[.agg [.v (.int .i64 0),.v (.string (bs [])),.v (.slice none 0 0),.v (.int .i64 0),.v (.int .i64 0),.v (.slice none 0 0),.v (.int .i64 0),.v (.int .i64 0)]]⟩:aH),⟨207,3,0,false,[.agg [.v (.int .i64 (t.n:Int)),t.a,t.b]]⟩]).set p ⟨210,3,0,false,[.agg [c0,.v (.int .i64 (k:Int)),.row lid es.length 3 0 L.length]]⟩)[H.length]?=some ⟨212,8,0,false,[.agg [.v (.int .i64 0),.v (.string (bs [])),.v (.slice none 0 0),.v (.int .i64 0),.v (.int .i64 0),.v (.slice none 0 0),.v (.int .i64 0),.v (.int .i64 0)]]⟩:=by
  rw[aC (by omega),aO (by omega)];simp
 have h1n:((H++[(⟨212,8,0,false,[.agg [.v (.int .i64 0),.v (.string (bs [])),.v (.slice none 0 0),.v (.int .i64 0),.v (.int .i64 0),.v (.slice none 0 0),.v (.int .i64 0),.v (.int .i64 0)]]⟩:aH),⟨207,3,0,false,[.agg [.v (.int .i64 (t.n:Int)),t.a,t.b]]⟩]).set p ⟨210,3,0,false,[.agg [c0,.v (.int .i64 (k:Int)),.row lid es.length 3 0 L.length]]⟩)[H.length+1]?=some ⟨207,3,0,false,[.agg [.v (.int .i64 (t.n:Int)),t.a,t.b]]⟩:=by
  rw[aC (by omega),aO (by omega)];simp
 have hl2:((H++[(⟨212,8,0,false,[.agg [.v (.int .i64 0),.v (.string (bs [])),.v (.slice none 0 0),.v (.int .i64 0),.v (.int .i64 0),.v (.slice none 0 0),.v (.int .i64 0),.v (.int .i64 0)]]⟩:aH),⟨207,3,0,false,[.agg [.v (.int .i64 (t.n:Int)),t.a,t.b]]⟩]).set p ⟨210,3,0,false,[.agg [c0,.v (.int .i64 (k:Int)),.row lid es.length 3 0 L.length]]⟩).length=H.length+2:=by simp
 generalize (H++[(⟨212,8,0,false,[.agg [.v (.int .i64 0),.v (.string (bs [])),.v (.slice none 0 0),.v (.int .i64 0),.v (.int .i64 0),.v (.slice none 0 0),.v (.int .i64 0),.v (.int .i64 0)]]⟩:aH),⟨207,3,0,false,[.agg [.v (.int .i64 (t.n:Int)),t.a,t.b]]⟩]).set p ⟨210,3,0,false,[.agg [c0,.v (.int .i64 (k:Int)),.row lid es.length 3 0 L.length]]⟩=h2 at hfr hpp h0n h1n hl2 ⊢
 simp[bsH,bE,step,St.val,St.put,AV.cells,qI,qN,qF,kI,kN,bV,unV,Xb,wants,I.ids,h1n]
 have hlt:∀i∈t.ids,i<H.length:=λi hi=>hP.lt i (by simp[foot];exact .inr (.inr (.inr hi)))
 refine⟨⟨by omega,λq=>?_,λq=>?_⟩,?_⟩
 .have:=hlt _ (nN _ q);omega
 .have:=hlt _ (qM _ q);omega
 have hnd:=hP.nd
 rw[Ao]at hnd
 have hnd:=dN.1 hnd
 have hnp:∀i∈t.ids,i≠p:=λi hi q=>hnd.2.2 p (by simp[foot]) i hi q.symm
 have hdj:=(dN.1 (show(bZ t.a++bZ t.b).Nodup from hnd.2.1)).2.2
 have up:∀i∈t.ids,∀o,H[i]?=some o->h2[i]?=some o:=λi hi o ho=>(hfr i (hlt i hi) (hnp i hi)).trans ho
 have hrA:o8 h2 t.a t.A:=(hP.rw t (by simp)).1.mono λi hi=>up i (by simp[LV.ids,hi])
 have hrB:o8 h2 t.b t.B:=(hP.rw t (by simp)).2.mono λi hi=>up i (by simp[LV.ids,hi])
 obtain⟨ba,hba,hwa⟩:=JB hrA
 obtain⟨cs,hcs,hsc,hpu⟩:=PN hy hwa
 refine Qu (a:=t.a) (by kernel_rfl) rfl hba (DU hrA) hpu hsc ?_
 have hfl:=za (bZ t.a) h2
 have hfg:=fun(id:Nat) (q:id∉bZ t.a)=>Am (bZ t.a) h2 id q
 refine⟨λi hi hn=>hfg i λq=>hn (by simp[q]),?_⟩
 dsimp only[St.put]
 generalize freeze h2 (bZ t.a)=h3 at hfl hfg ⊢
 have c0n:o8 (h3++[⟨212,8,0,true,[.agg cs]⟩]) t.b t.B:=hrB.mono λi hi o ho=>by
  rw[au (by have:=hlt i (by simp[LV.ids,hi]);omega)]
  exact(hfg i λq=>hdj i q i hi rfl).trans ho
 obtain⟨pa,v,h4,ha1,ha2,ha3,ha4,ha5,ha6⟩:=a7p c0n hcs hB
 simp[bsH,bE,step,St.val,St.put,AV.cells,qI,qN,qF,kI,kN,bV,unV,hcs.t,hcs.k,hcs.l,dV,dU,hcs.r,uj,Gy,iC,ha1,agree]
 refine⟨λi hi _ _=>au (by omega),ha2,?_⟩
 rw[ak,aJ]at ha4 ha5 ha6
 obtain⟨bv,hbv,hwv⟩:=JB ha3
 obtain⟨cz,hcz,hsz,hpz⟩:=PN hz hwv
 refine Qu (a:=v) (by kernel_rfl) rfl hbv (DU ha3) hpz hsz ?_
 have c0y:=za (bZ v) h4
 have b2M:=fun(id:Nat) (q:id∉bZ v)=>Am (bZ v) h4 id q
 dsimp only[St.put]
 generalize freeze h4 (bZ v)=h5 at c0y b2M ⊢
 have h5f:∀i,i<H.length+2->i∉bZ t.a->i∉bZ t.b->h5[i]?=h2[i]?:=λi hi n1 n2=>by
  rw[b2M i λq=>(ha6 i q).elim n2 λr=>by omega,ha4 i (by omega) n2,au (by omega),hfg i n1]
 have h50:h5[H.length]?=_:=(h5f H.length (by omega) (λq=>by have:=hlt _ (nN _ q);omega) (λq=>by have:=hlt _ (qM _ q);omega)).trans h0n
 have h51:∀o,(h5.set H.length o)[H.length]?=some o:=λo=>aK (lt_of_some h50)
 refine⟨λi hi n1 n2=>(h5f i (by omega) n1 n2).trans (((ha4 i (by omega) n2).trans ((au (by omega)).trans (hfg i n1))).symm),?_⟩
 simp[bsH,bE,step,St.val,St.put,AV.cells,qI,qN,qF,kI,kN,bV,unV,h50,h51,hcz.s,hcz.l,hcz.t,hcz.d,setCells,uy,nY,rZ]
 have hpn:p∉t.ids:=λq=>hnp p q rfl
 refine⟨True,_,⟨trivial,rfl⟩,trivial,cz,rfl,hcz,a6X hP (λj hj hne hn=>?_) (by simp;omega) λc hc=>?_⟩
 .rw[aC (by omega),h5f j (by omega) (λq=>hn (nN _ q)) (λq=>hn (qM _ q)),hfr j hj hne]
 .rw[aC (by omega),h5f p (by omega) (λq=>hpn (nN _ q)) (λq=>hpn (qM _ q)),hpp]
  cases hc.symm.trans hO;rfl
set_option maxRecDepth 100000
abbrev NL:Type:=Nat×List cK×List cK
def LV.nl(l:LV):NL:=(l.n,l.A,l.B)
def nW:ByteArray:=bs [110,111,116]
def OpR(toks:List ay)(k:Nat)(x:cK)(k1:Nat):Prop:=k1<=toks.length/\∀a:AV,JM toks (k:Int) [a]=some (0,x.1.1,x.1.2.1,x.1.2.2.1,x.1.2.2.2.1,x.1.2.2.2.2.1,x.1.2.2.2.2.2.1,x.2.1,x.2.2.1,toks,(k1:Int),[a],())
inductive Ev (toks:List ay) (w:cK) (kw:Nat):Nat->Bool->Nat->List NL->Prop
 |nt {m k n A B S} (h:iK toks k 1 nW=true) (r:Ev toks w kw m false (k+1) ((n+1,A,B)::S)):Ev toks w kw (m+1) false k ((n,A,B)::S)
 |pr {m k s S} (h0:iK toks k 1 nW=false) (h:iK toks k 4 (bs [40])=true) (r:Ev toks w kw m false (k+1) ((0,[],[])::s::S)):Ev toks w kw (m+1) false k (s::S)
 |op {m k n A B S x y k1} (h0:iK toks k 1 nW=false) (h1:iK toks k 4 (bs [40])=false) (h:OpR toks k x k1) (hy:yM n x=some y) (r:Ev toks w kw m true k1 ((0,A++[y],B)::S)):Ev toks w kw (m+1) false k ((n,A,B)::S)
 |an {m k n A B S k1 A' B'} (h:wI toks k A B=some (true,k1,A',B')) (r:Ev toks w kw m false k1 ((n,A',B')::S)):Ev toks w kw (m+1) true k ((n,A,B)::S)
 |cl {m k n A B n' A' B' S x y} (h:wI toks k A B=some (false,k,A,B)) (hx:Ew A B=some x) (h1:iK toks k 4 (bs [41])=true) (hy:yM n' x=some y) (r:Ev toks w kw m true (k+1) ((0,A'++[y],B')::S)):Ev toks w kw (m+1) true k ((n,A,B)::(n',A',B')::S)
 |en {m k n A B} (h:wI toks k A B=some (false,k,A,B)) (hx:Ew A B=some w) (e:k=kw):Ev toks w kw (m+1) true k [(n,A,B)]
structure Bn (toks:List ay) (m k:Nat) (S:List NL):Prop where
 t:toks.length<=1000000
 k:k<=toks.length
 s:S.length+m<=90000
 l:∀x∈S,x.1+m<=90000/\x.2.1.length+m<=90000/\x.2.2.length+m<=90000
def GS(H0 H:List aH)(p:Nat)(toks:List ay)(k:Nat)(S:List NL)(F0:List Nat):Prop:=∃lid L es,PS H p lid toks k L es/\L.map LV.nl=S.reverse/\Go' H0 H F0 (foot p lid L)
theorem EI{toks:List ay}{k:Nat}{kd:Int}{s:ByteArray}(h:iK toks k kd s=true):k<toks.length:=by
 unfold iK at h
 rcases bI k toks.length with q|q
 .exact q
 .rw[aX q]at h;cases h
theorem OY{L:List LV}{s:NL}{S:List NL}(h:L.map LV.nl=(s::S).reverse):∃L' t,L=L'++[t]/\t.nl=s/\L'.map LV.nl=S.reverse:=by
 rw[List.reverse_cons]at h
 obtain⟨L',l2,rfl,h1,h2⟩:=List.map_eq_append_iff.1 h
 match l2,h2 with
 |[t],h2=>exact⟨L',t,rfl,by simpa using h2,h1⟩
 |[],h2=>cases h2
 |_::_::_,h2=>cases h2
def c1o(toks:List ay)(w:cK)(kw m k:Nat)(S:List NL):Prop:=∃n A B S' x y k1,S=(n,A,B)::S'/\OpR toks k x k1/\yM n x=some y/\Ev toks w kw m true k1 ((0,A++[y],B)::S')
theorem GS.split{H0 H:List aH}{p:Nat}{toks:List ay}{k:Nat}{s:NL}{S:List NL}{F0:List Nat}(h:GS H0 H p toks k (s::S) F0):∃lid L t es,PS H p lid toks k (L++[t]) es/\t.nl=s/\L.map LV.nl=S.reverse/\Go' H0 H F0 (foot p lid (L++[t])):=by
 obtain⟨lid,L,es,h1,h2,h3⟩:=h
 obtain⟨L',t,rfl,h4,h5⟩:=OY h2
 exact⟨lid,L',t,es,h1,h4,h5,h3⟩
theorem GS.mk{H0 H:List aH}{p lid:Nat}{toks:List ay}{k:Nat}{S:List NL}{F0:List Nat}{L:List LV}{t:LV}{es:List AV}(h1:PS H p lid toks k (L++[t]) es)(h2:L.map LV.nl=S.reverse)(h3:Go' H0 H F0 (foot p lid (L++[t]))):GS H0 H p toks k (t.nl::S) F0 :=
 ⟨lid,L++[t],es,h1,by simp[h2],h3⟩
def LV.up(t:LV):LV:=⟨t.n+1,t.A,t.B,t.a,t.b⟩
theorem a6j{H:List aH}{p lid:Nat}{toks:List ay}{k:Int}{L:List LV}{t:LV}{es:List AV}(h:PS H p lid toks k (L++[t]) es):PS (H.set lid ⟨207,3,0,false,es.set L.length t.up.av⟩) p lid toks k (L++[t.up]) (es.set L.length t.up.av)/\Go' H (H.set lid ⟨207,3,0,false,es.set L.length t.up.av⟩) (foot p lid (L++[t])) (foot p lid (L++[t.up])):=by
 have hnd:=h.nd
 rw[Ao]at hnd
 have hnd:=dN.1 hnd
 generalize hv:es.set L.length t.up.av=es'
 have up:∀i∈t.ids,∀o,H[i]?=some o->(H.set lid ⟨207,3,0,false,es'⟩)[i]?=some o:=λi hi o ho=>by
  rw[aC (λq=>hnd.2.2 lid (by simp[foot]) i hi q)];exact ho
 rw[<- hv]at up ⊢
 exact Jy (t':=t.up) h (λj hj hne hn=>aC λq=>hne q.symm) (by simp) (aK (lt_of_some h.lv)) ⟨(h.rw t (by simp)).1.mono λi hi=>up i (by simp[LV.ids,hi]),(h.rw t (by simp)).2.mono λi hi=>up i (by simp[LV.ids,hi])⟩ hnd.2.1 λi hi=>.inl hi
theorem Bn.nt{toks:List ay}{m k n:Nat}{A B:List cK}{S:List NL}(h:Bn toks (m+1) k ((n,A,B)::S))(hk:k<toks.length):Bn toks m (k+1) ((n+1,A,B)::S) :=
 ⟨h.t,by omega,by have:=h.s;simp at this ⊢;omega,λx hx=>by
  rcases bD.1 hx with rfl|hx
  .have:=h.l _ bY;dsimp only at this ⊢;omega
  .have:=h.l x (bG _ hx);omega⟩
theorem Bn.le{toks:List ay}{m m' k:Nat}{S:List NL}(h:Bn toks m k S)(hm:m'<=m):Bn toks m' k S:=⟨h.t,h.k,by have:=h.s;omega,λx hx=>by have:=h.l x hx;omega⟩
theorem Bn.pr{toks:List ay}{m k:Nat}{S:List NL}(h:Bn toks (m+1) k S)(hk:k<toks.length):Bn toks m (k+1) ((0,[],[])::S) :=
 ⟨h.t,by omega,by have:=h.s;simp at this ⊢;omega,λx hx=>by
  have:=h.s
  rcases bD.1 hx with rfl|hx
  .dsimp only;simp;omega
  .have:=h.l x hx;omega⟩
theorem b3E{h:List aH}{lid n:Nat}{es:List AV}(hlv:h[lid]?=some ⟨207,3,0,false,es⟩)(hn:n<=es.length)(hb:n<=1000000):∃pp es',tF h 207 3 56 (.row lid es.length 3 0 n) [.agg [.v (.int .i64 0),.v (.slice none 0 0),.v (.slice none 0 0)]]=some (pp,.row lid (List.length (α:=AV) es') 3 0 (n+1),h.set lid ⟨207,3,0,false,es'⟩)/\pp/\((n<es.length/\es'=es.set n lv0.av)\/(n=es.length/\es'=es++[lv0.av])):=by
 rcases bI n es.length with h1|h1
 .exact⟨True,es.set n lv0.av,by simp[tF,hlv,Va,h1,lv0,LV.av],trivial,.inl ⟨h1,rfl⟩⟩
 .obtain rfl:n=es.length:=by omega
  exact⟨(es.length+1)*56<=lU/\es.length<=4611686018427387903,es++[lv0.av],by simp[tF,hlv,Va,lv0,LV.av],⟨by unfold lU;omega,by omega⟩,.inr ⟨rfl,rfl⟩⟩
def c1e(H0:List aH)(p:Nat)(toks:List ay)(w:cK)(kw M:Nat)(F0:List Nat)(m:Nat)(τ:St):Prop:=∃k S j,j<=m/\j<=M/\Ev toks w kw j false k S/\Bn toks j k S/\GS H0 τ.h p toks k S F0/\clr [1,2,3,4,5,6,7,8,9,10,11,12,13,14,15,16,17,18,19,20,21,22,23,24,25,26,27,28] τ.t=[.ptr p 1 0 0,.any,.any,.any,.any,.any,.any,.any,.any,.any,.any,.any,.any,.any,.any,.any,.any,.any,.any,.any,.any,.any,.any,.any,.any,.any,.any,.any,.any]
theorem b4x{H0 H:List aH}{p:Nat}{toks:List ay}{w:cK}{kw m k:Nat}{S:List NL}{F0:List Nat}(hG:GS H0 H p toks k S F0)(he:Ev toks w kw m false k S)(hb:Bn toks m k S) :
  fJ Tryz.prog (gx fA) 201 H [.ptr p 1 0 0] (λres H'=>∃j k' S',j<m/\c1o toks w kw j k' S'/\Bn toks (j+1) k' S'/\GS H0 H' p toks k' S' F0):=by
 refine fJ.ofC mixed c1j (t:=[.ptr p 1 0 0,.any,.any,.any,.any,.any,.any,.any,.any,.any,.any,.any,.any,.any,.any,.any,.any,.any,.any,.any,.any,.any,.any,.any,.any,.any,.any,.any,.any]) rfl λB w0=>?_
 unfold c201
 refine uZ (EO (c1e H0 p toks w kw m F0) m ⟨k,S,m,aS _,aS _,he,hb,hG,by simp[clr]⟩ ?_)
 clear he hb hG
 rintro m' ⟨τt,h⟩ ⟨k,S,j,hj,hjM,he,hb,hG,hcl⟩
 refine HZ _ _ hcl (jh mixed ?_)
 clear hcl
 unfold YB
 obtain⟨lid,L,es,hP,hL,hgo⟩:=hG
 simp[bsH,bE,step,St.val,St.put,AV.cells,qI,qN,qF,kI,kN,bV,unV,Xv,gl0,oW6]
 refine jk (by kernel_rfl) (FP hP.pb (Au hb.k hb.t 1 _ _)) ?_
 rintro _ h' ⟨rfl,hq,hf⟩
 obtain⟨hP1,hg1⟩:=hP.acc hq hf
 cases he with
 |@nt m1 k n A B S1 ha r =>
  obtain⟨L',t,rfl,ht,hL'⟩:=OY hL
  cases ht
  have ha:iK toks k 1 (bs [110,111,116])=true:=ha
  rw[ha]at hP1
  simp[bsH,bE,step,St.val,St.put,AV.cells,qI,qN,qF,kI,kN,bV,unV,ha,Xu]
  refine jk (by kernel_rfl) (Mi hP1) ?_
  rintro _ _ ⟨rfl,rfl⟩
  have hlen:=hP1.le
  simp only[ak,aJ]at hlen
  have hlv:=hP1.lv
  have htop:es[L'.length]?=some t.av:=hP1.at' _ _ (by simp)
  have hn:t.n+(m1+1)<=90000:=(hb.l _ bY).1
  have hw:IntKind.i64.wrap ((t.n:Int)+1)=(t.n:Int)+1:=wrap64 (by omega) (by omega)
  simp[bsH,bE,step,St.val,St.put,AV.cells,qI,qN,qF,kI,kN,bV,unV,hlv,htop,LV.av,hw,dB,st1,Value.oneCell',setCells,jS]
  refine⟨by omega,?_⟩
  have q:=a6j hP1
  refine⟨m'-1,by omega,k+1,_,m1,by omega,by omega,r,hb.nt (EI ha),GS.mk q.1 hL' (hgo.trans (hg1.trans q.2)),by simp[clr]⟩
 |@pr m1 k s S1 h0 ha r =>
  have h0:iK toks k 1 (bs [110,111,116])=false:=h0
  rw[h0]at hP1
  simp[bsH,bE,step,St.val,St.put,AV.cells,qI,qN,qF,kI,kN,bV,unV,h0,Ou]
  refine jk (by kernel_rfl) (FP hP1.pb (Au hb.k hb.t 4 _ _)) ?_
  rintro _ h2 ⟨rfl,hq,hf⟩
  obtain⟨hP2,hg2⟩:=PS.acc (k:=(k:Int)) hP1 hq hf
  rw[ha]at hP2
  obtain⟨c0,hO,hw⟩:=hP2.pb
  have hp:=lt_of_some hO
  have hO1:∀l,(h2++l)[p]?=_:=λl=>(au hp).trans hO
  have hlv:=hP2.lv
  have GA:=lt_of_some hlv
  have hLl:L.length=S1.length+1:=by have:=dn List.length hL;simpa using this
  have hs:=hb.s
  simp only[aL]at hs
  obtain⟨pp,es',ha1,ha2,ha3⟩:=b3E (n:=L.length) ((au GA).trans hlv:(h2++[⟨207,3,0,false,[.agg [.v (.int .i64 0),.v (.slice none 0 0),.v (.slice none 0 0)]]⟩])[lid]?=_) hP2.le (by omega)
  have hpl:lid≠p:=λe=>by have:=hP2.nd;simp[foot,e]at this
  have hO2:∀l o,((h2++l).set lid o)[p]?=_:=λl o=>(aC hpl).trans (hO1 l)
  simp[bsH,bE,step,St.val,St.put,AV.cells,qI,qN,qF,kI,kN,bV,unV,ha,Xt,hO,hO2,Va,l6,gW,jK,jY,dV,dB,st1,Value.oneCell',dU,bZ,uj,iC,plE,ha1,setCells,jS]
  have q:=a1u (es':=es') (Hf:=((h2++[aH.mk 207 3 0 false [.agg [.v (.int .i64 0),.v (.slice none 0 0),.v (.slice none 0 0)]]]).set lid ⟨207,3,0,false,es'⟩).set p ⟨210,3,0,false,[.agg [c0,.v (.int .i64 ((k:Int)+1)),.row lid es'.length 3 0 (L.length+1)]]⟩) hP2 ha3 (by simp) (λj hj n1 n2=>by rw[aC (λq=>n2 q.symm),aC (λq=>n1 q.symm),au hj]) (by rw[aC (λq=>hpl q.symm)];exact aK (by rw[ak];omega)) (λc hc=>by rw[aK (by simp;omega)];cases hc.symm.trans hO;rfl) (by omega)
  exact⟨ha2,m'-1,by omega,k+1,_,m1,by omega,by omega,r,hb.pr (EI ha),GS.mk q.1 hL (hgo.trans (hg1.trans (hg2.trans q.2))),by simp[clr]⟩
 |@op m1 k n A B S1 x y k1 h0 h1 hx hy r =>
  have h0:iK toks k 1 (bs [110,111,116])=false:=h0
  rw[h0]at hP1
  simp[bsH,bE,step,St.val,St.put,AV.cells,qI,qN,qF,kI,kN,bV,unV,h0,Ou]
  refine jk (by kernel_rfl) (FP hP1.pb (Au hb.k hb.t 4 _ _)) ?_
  rintro _ h2 ⟨rfl,hq,hf⟩
  obtain⟨hP2,hg2⟩:=PS.acc (k:=(k:Int)) hP1 hq hf
  rw[h1]at hP2
  simp[bsH,bE,step,St.val,St.put,AV.cells,qI,qN,qF,kI,kN,bV,unV,h1,BU]
  simp only[uy,rZ,nY]
  exact⟨trivial,_,_,rfl,trivial,m1,by omega,k,_,⟨n,A,B,S1,x,y,k1,rfl,hx,hy,r⟩,hb,lid,L,es,hP2,hL,hgo.trans (hg1.trans hg2)⟩
set_option maxRecDepth 100000
section
variable{H0 H:List aH}{p:Nat}{toks:List ay}{k:Nat}{S:List NL}{F0:List Nat}
theorem GS.app(h:GS H0 H p toks k S F0)(l:List aH):GS H0 (H++l) p toks k S F0:=by
 obtain⟨lid,L,es,h1,h2,h3⟩:=h
 exact⟨lid,L,es,h1.app l,h2,h3.trans ⟨⟨by simp,λj hj _=>au hj⟩,λi hi=>.inl hi⟩⟩
theorem GS.len(h:GS H0 H p toks k S F0):∃c0 lid n m,H[p]?=some ⟨210,3,0,false,[.agg [c0,.v (.int .i64 (k:Int)),.row lid n 3 0 m]]⟩/\m=S.length:=by
 obtain⟨lid,L,es,h1,h2,h3⟩:=h
 obtain⟨c0,hO,_⟩:=h1.pb
 exact⟨c0,_,_,_,hO,by have:=dn List.length h2;simpa using this⟩
theorem b6Y(h:GS H0 H p toks k S F0)(hk:k<=toks.length)(hl:toks.length<=1000000)(kd:Int)(s:ByteArray):fJ Tryz.prog (gx fA) 206 H [.ptr p 1 0 0,.v (.int .i64 kd),.v (.string s)] (λres H'=>res=.v (.bool (iK toks k kd s))/\GS H0 H' p toks (cond (iK toks k kd s) (k+1) k) S F0/\Fr H H' [p]):=by
 obtain⟨lid,L,es,h1,h2,h3⟩:=h
 refine(FP h1.pb (Au hk hl kd s _)).mono ?_
 rintro res H' ⟨rfl,hq,hf⟩
 have q:=h1.acc hq hf
 exact⟨rfl,⟨lid,L,es,q.1,h2,h3.trans q.2⟩,hf⟩
theorem b4Y(h:GS H0 H p toks k S F0){x:cK}{k1:Nat}(hx:OpR toks k x k1):fJ Tryz.prog (gx fA) 202 H [.ptr p 1 0 0] (λres H'=>∃cs,res=.tup [.agg cs,.v (.int .i64 0)]/\PC cs x/\GS H0 H' p toks k1 S F0):=by
 obtain⟨lid,L,es,h1,h2,h3⟩:=h
 refine(b4X h1.pb (hx.2 _)).mono ?_
 rintro res H' ⟨cs,rfl,hw,hq,hf⟩
 have q:=h1.acc hq hf
 exact⟨cs,rfl,.of hw,lid,L,es,q.1,h2,h3.trans q.2⟩
theorem a4O{n:Nat}{A B:List cK}(h:GS H0 H p toks k ((n,A,B)::S) F0){cs:List AV}{x y:cK}(hx:PC cs x)(hn:yM n x=some y)(hn2:n<=1000000)(hA:A.length<=100000):fJ Tryz.prog (gx fA) 203 H [.ptr p 1 0 0,.agg cs] (λres H'=>GS H0 H' p toks k ((0,A++[y],B)::S) F0):=by
 obtain⟨lid,L,t,es,h1,ht,h2,h3⟩:=h.split
 cases ht
 refine(b6X h1 hx hn hn2 hA).mono ?_
 rintro res H' ⟨a',es',q1,q2⟩
 exact GS.mk q1 h2 (h3.trans q2)
theorem VD{n:Nat}{A B:List cK}(h:GS H0 H p toks k ((n,A,B)::S) F0)(hk:k<=toks.length)(hl:toks.length<=1000000){b:Bool}{k':Nat}{A' B':List cK}(hn:wI toks k A B=some (b,k',A',B'))(hB:B.length<=100000):fJ Tryz.prog (gx fA) 204 H [.ptr p 1 0 0] (λres H'=>res=.v (.bool b)/\GS H0 H' p toks k' ((n,A',B')::S) F0):=by
 obtain⟨lid,L,t,es,h1,ht,h2,h3⟩:=h.split
 cases ht
 refine(b6S h1 hk hl hn hB).mono ?_
 rintro res H' ⟨rfl,a',b',es',q1,q2⟩
 exact⟨rfl,GS.mk q1 h2 (h3.trans q2)⟩
theorem a4G{n:Nat}{A B:List cK}(h:GS H0 H p toks k ((n,A,B)::S) F0){w:cK}(hw:Ew A B=some w)(hB:B.length<=100000):fJ Tryz.prog (gx fA) 205 H [.ptr p 1 0 0] (λres H'=>∃cs,res=.agg cs/\PC cs w/\GS H0 H' p toks k S F0):=by
 obtain⟨lid,L,t,es,h1,ht,h2,h3⟩:=h.split
 cases ht
 refine(b6G h1 hw hB).mono ?_
 rintro res H' ⟨cs,rfl,hc,q1,q2⟩
 exact⟨cs,rfl,hc,lid,L,es,q1,h2,h3.trans q2⟩
end
theorem Bn.top{toks:List ay}{m k k1 n n':Nat}{A B A' B':List cK}{S:List NL}(h:Bn toks (m+1) k ((n,A,B)::S))(hk:k1<=toks.length)(h1:n'<=n)(h2:A'.length<=A.length+1)(h3:B'.length<=B.length+1):Bn toks m k1 ((n',A',B')::S) :=
 ⟨h.t,hk,by have:=h.s;simp at this ⊢;omega,λx hx=>by
  rcases bD.1 hx with rfl|hx
  .have:=h.l _ bY;dsimp only at this ⊢;omega
  .have:=h.l x (bG _ hx);omega⟩
theorem Bn.tail{toks:List ay}{m k:Nat}{s:NL}{S:List NL}(h:Bn toks m k (s::S)):Bn toks m k S:=⟨h.t,h.k,by have:=h.s;simp at this;omega,λx hx=>h.l x (bG _ hx)⟩
theorem a7q{toks:List ay}{k k1:Nat}{A B A' B':List cK}(h:wI toks k A B=some (true,k1,A',B')):k1<=toks.length/\A'.length<=A.length/\B'.length<=B.length+1:=by
 unfold wI at h
 cases h1:iK toks k 1 (bs [97,110,100]) with
 |true=>rw[h1]at h;cases h;exact⟨EI h1,aS _,Nat.le_succ _⟩
 |false =>
  rw[h1]at h
  cases h2:iK toks k 1 (bs [111,114]) with
  |true =>
   rw[h2]at h
   obtain⟨y,_,h⟩:=gV.1 (show((oO 7 A).bind λy=>some (true,k+1,([]:List cK),B++[y.1]))=some (true,k1,A',B') from h)
   cases h;exact⟨EI h2,bN _,by simp⟩
  |false=>rw[h2]at h;cases h
def JX(b:Bool)(H1:List aH)(p c:Nat)(toks:List ay)(w:cK)(kw:Nat)(F0:List Nat)(M m:Nat)(τ:St):Prop:=∃k S j,j<=m/\j<=M/\Ev toks w kw j b k S/\Bn toks j k S/\GS H1 τ.h p toks k S F0/\clr [1,3,4,5,6,7,8,9,10,11,12,13,14,15,16,17,18,19,20,21,22,23,24,25,26,27,28,29,30,31,32,33,34,35,36,37,38,39] τ.t=[.ptr p 1 0 0,.any,.ptr c 1 0 0,.any,.any,.any,.any,.any,.any,.any,.any,.any,.any,.any,.any,.any,.any,.any,.any,.any,.any,.any,.any,.any,.any,.any,.any,.any,.any,.any,.any,.any,.any,.any,.any,.any,.any,.any,.any,.any]
theorem b6w{H:List aH}{p lid:Nat}{toks:List ay}{w:cK}{kw m k:Nat}{S:List NL}{L:List LV}{es:List AV}(hP:PS H p lid toks k L es)(hL:L.map LV.nl=S.reverse)(he:Ev toks w kw m false k S)(hb:Bn toks m k S) :
  fJ Tryz.prog (gx fA) 191 H [.ptr p 1 0 0] (λres H'=>∃cs,res=.tup [.agg cs,.v (.int .i64 0)]/\PC cs w/\(∃a,QB H' p toks kw a)/\Fr H H' (foot p lid L)):=by
 refine fJ.ofC mixed c1k (t:=[.ptr p 1 0 0,.any,.any,.any,.any,.any,.any,.any,.any,.any,.any,.any,.any,.any,.any,.any,.any,.any,.any,.any,.any,.any,.any,.any,.any,.any,.any,.any,.any,.any,.any,.any,.any,.any,.any,.any,.any,.any,.any,.any]) rfl λB w0=>?_
 unfold b3g
 refine kR (jh mixed ?_)
 simp[bsH,bE,step,St.val,St.put,AV.cells,qI,qN,qF,kI,kN,bV,unV,XF,jO,zc8]
 have hF:=hP.lt
 have hG1:GS (H++[aH.mk 212 8 0 false [.agg [.v (.int .i64 0),.v (.string (bs [])),.v (.slice none 0 0),.v (.int .i64 0),.v (.int .i64 0),.v (.slice none 0 0),.v (.int .i64 0),.v (.int .i64 0)]]]) (H++[aH.mk 212 8 0 false [.agg [.v (.int .i64 0),.v (.string (bs [])),.v (.slice none 0 0),.v (.int .i64 0),.v (.int .i64 0),.v (.slice none 0 0),.v (.int .i64 0),.v (.int .i64 0)]]]) p toks k S (foot p lid L):=⟨lid,L,es,hP.app _,hL,⟨aS _,λ_ _ _=>rfl⟩,λi hi=>.inl hi⟩
 have hc1:(H++[aH.mk 212 8 0 false [.agg [.v (.int .i64 0),.v (.string (bs [])),.v (.slice none 0 0),.v (.int .i64 0),.v (.int .i64 0),.v (.slice none 0 0),.v (.int .i64 0),.v (.int .i64 0)]]])[H.length]?=some (aH.mk 212 8 0 false [.agg [.v (.int .i64 0),.v (.string (bs [])),.v (.slice none 0 0),.v (.int .i64 0),.v (.int .i64 0),.v (.slice none 0 0),.v (.int .i64 0),.v (.int .i64 0)]]):=by simp
 have hf1:∀j,j<H.length->(H++[aH.mk 212 8 0 false [.agg [.v (.int .i64 0),.v (.string (bs [])),.v (.slice none 0 0),.v (.int .i64 0),.v (.int .i64 0),.v (.slice none 0 0),.v (.int .i64 0),.v (.int .i64 0)]]])[j]?=H[j]?:=λj hj=>au hj
 have hl1:(H++[aH.mk 212 8 0 false [.agg [.v (.int .i64 0),.v (.string (bs [])),.v (.slice none 0 0),.v (.int .i64 0),.v (.int .i64 0),.v (.slice none 0 0),.v (.int .i64 0),.v (.int .i64 0)]]]).length=H.length+1:=by simp
 generalize foot p lid L=F0 at *
 generalize H++[aH.mk 212 8 0 false [.agg [.v (.int .i64 0),.v (.string (bs [])),.v (.slice none 0 0),.v (.int .i64 0),.v (.int .i64 0),.v (.slice none 0 0),.v (.int .i64 0),.v (.int .i64 0)]]]=H1 at *
 refine uZ (EO (JX false H1 p H.length toks w kw F0 m) m ⟨k,S,m,aS _,aS _,he,hb,hG1,by simp[clr]⟩ ?_)
 clear he hb hG1 hP hL
 rintro m' ⟨τt,h⟩ ⟨k,S,j,hj,hjM,he,hb,hG,hcl⟩
 refine HZ _ _ hcl ?_
 clear hcl
 unfold YD
 refine uZ (kR (jh mixed ?_))
 simp[bsH,bE,step,St.val,St.put,AV.cells,qI,qN,qF,kI,kN,bV,unV,XD]
 refine jk (by kernel_rfl) (b4x hG he hb) ?_
 clear he hb hG
 rintro res h' ⟨j1,k1,S1,hj1,⟨n,A,B',S',x,y,k2,rfl,hx,hy,he⟩,hb,hG⟩
 refine kR (jh mixed ?_)
 simp[bsH,bE,step,St.val,St.put,AV.cells,qI,qN,qF,kI,kN,bV,unV,Ow]
 refine jk (by kernel_rfl) (b4Y hG hx) ?_
 clear hG
 rintro _ h2 ⟨cs,rfl,hcs,hG⟩
 simp[bsH,bE,step,St.val,St.put,AV.cells,qI,qN,qF,kI,kN,bV,unV,Ow,jO,zc8,hcs.s,hcs.l,hcs.d,setCells]
 have hG:=hG.app [⟨212,8,0,false,[.agg cs]⟩]
 have hq:=hb.l _ bY
 dsimp only at hq
 refine kR (kR (jh mixed ?_))
 simp[bsH,bE,step,St.val,St.put,AV.cells,qI,qN,qF,kI,kN,bV,unV,Xz]
 refine jh mixed ?_
 simp[bsH,bE,step,St.val,St.put,AV.cells,qI,qN,qF,kI,kN,bV,unV]
 refine kR (jh mixed ?_)
 simp[bsH,bE,step,St.val,St.put,AV.cells,qI,qN,qF,kI,kN,bV,unV,Xy,hcs.t,hcs.l]
 refine jk (by kernel_rfl) (a4O hG hcs hy (by omega) (by omega)) ?_
 have hb:=hb.top (n':=0) (A':=A++[y]) (B':=B') hx.1 (bN _) (by simp) (by simp)
 clear hG
 rintro _ h3 hG
 refine uZ (EO (JX true H1 p H.length toks w kw F0 j1) j1 ⟨k2,_,j1,aS _,aS _,he,hb,hG,by simp[clr,St.put]⟩ ?_)
 clear he hb hG hx hy hcs hq
 rintro m2 ⟨τ2,h4⟩ ⟨k,S,j2,hj2,c1B,he,hb,hG,hcl⟩
 refine HZ _ _ hcl ?_
 clear hcl
 unfold YC
 refine kR (kR (jh mixed ?_))
 simp[bsH,bE,step,St.val,St.put,AV.cells,qI,qN,qF,kI,kN,bV,unV,Xx]
 cases he with
 |@an m3 k n A B S k1 A' B' h r =>
  have hq:=hb.l _ bY
  dsimp only at hq
  refine jk (by kernel_rfl) (VD hG hb.k hb.t h (by omega)) ?_
  rintro _ h5 ⟨rfl,hG⟩
  simp[bsH,bE,step,St.val,St.put,AV.cells,qI,qN,qF,kI,kN,bV,unV]
  refine jh mixed ?_
  simp[bsH,bE,step,St.val,St.put,AV.cells,qI,qN,qF,kI,kN,bV,unV,rU,jS]
  obtain⟨i1,i2,i3⟩:=a7q h
  exact⟨m'-1,by omega,k1,_,m3,by omega,by omega,r,hb.top i1 (aS _) (by omega) i3,hG,by simp[clr]⟩
 |@cl m3 k n A B n' A' B' S x y h hx h1 hy r =>
  have hq:=hb.l _ bY
  have hq2:=hb.l (n',A',B') (by simp)
  dsimp only at hq hq2
  refine jk (by kernel_rfl) (VD hG hb.k hb.t h (by omega)) ?_
  clear hG
  rintro _ h5 ⟨rfl,hG⟩
  simp[bsH,bE,step,St.val,St.put,AV.cells,qI,qN,qF,kI,kN,bV,unV]
  refine jh mixed ?_
  simp[bsH,bE,step,St.val,St.put,AV.cells,qI,qN,qF,kI,kN,bV,unV,rU,jS]
  refine uZ (kR (jh mixed ?_))
  simp[bsH,bE,step,St.val,St.put,AV.cells,qI,qN,qF,kI,kN,bV,unV,DW]
  refine jk (by kernel_rfl) (a4G hG hx (by omega)) ?_
  clear hG
  rintro _ h6 ⟨cs,rfl,hcs,hG⟩
  simp[bsH,bE,step,St.val,St.put,AV.cells,qI,qN,qF,kI,kN,bV,unV,DW,jO,zc8,hcs.s,hcs.l,hcs.d,setCells]
  have hG:=hG.app [⟨212,8,0,false,[.agg cs]⟩]
  refine kR (kR (jh mixed ?_))
  obtain⟨c0,b9w,n0,m0,hO,hm0⟩:=hG.len
  rw[aL]at hm0
  have hz:(((m0:Nat):Int)==0)=false:=beq_false_of_ne (by omega)
  simp[bsH,bE,step,St.val,St.put,AV.cells,qI,qN,qF,kI,kN,bV,unV,Ov,hO,hz]
  refine jh mixed ?_
  simp[bsH,bE,step,St.val,St.put,AV.cells,qI,qN,qF,kI,kN,bV,unV,rU,jS]
  refine kR (kR (jh mixed ?_))
  simp[bsH,bE,step,St.val,St.put,AV.cells,qI,qN,qF,kI,kN,bV,unV,Rp]
  refine jk (by kernel_rfl) (b6Y hG hb.k hb.t 4 _) ?_
  clear hG
  rintro _ h7 ⟨rfl,hG,hf⟩
  have hn:h6.length≠p:=λq=>by rw[<- q]at hO;simp at hO
  have h7b:h7[h6.length]?=some ⟨212,8,0,false,[.agg cs]⟩:=(hf.fr h6.length (by simp) (by simp[hn])).trans (by simp)
  rw[h1]at hG
  simp[bsH,bE,step,St.val,St.put,AV.cells,qI,qN,qF,kI,kN,bV,unV,h1]
  refine jh mixed ?_
  simp[bsH,bE,step,St.val,St.put,AV.cells,qI,qN,qF,kI,kN,bV,unV,rU,jS]
  refine jh mixed ?_
  simp[bsH,bE,step,St.val,St.put,AV.cells,qI,qN,qF,kI,kN,bV,unV,Ro,h7b,hcs.t,hcs.l]
  refine jk (by kernel_rfl) (a4O hG hcs hy (by omega) (by omega)) ?_
  have hbt:Bn toks (m3+1) k ((n',A',B')::S):=hb.tail
  rintro _ h8 hG
  simp[bsH,bE,step,St.val,St.put,AV.cells,qI,qN,qF,kI,kN,bV,unV,jS]
  exact⟨m2-1,by omega,k+1,_,m3,by omega,by omega,r,hbt.top (EI h1) (bN _) (by simp) (by simp),hG,by simp[clr,St.put]⟩
 |@en m3 k n A B h hx e =>
  have hq:=hb.l _ bY
  dsimp only at hq
  refine jk (by kernel_rfl) (VD hG hb.k hb.t h (by omega)) ?_
  clear hG
  rintro _ h5 ⟨rfl,hG⟩
  simp[bsH,bE,step,St.val,St.put,AV.cells,qI,qN,qF,kI,kN,bV,unV]
  refine jh mixed ?_
  simp[bsH,bE,step,St.val,St.put,AV.cells,qI,qN,qF,kI,kN,bV,unV,rU,jS]
  refine uZ (kR (jh mixed ?_))
  simp[bsH,bE,step,St.val,St.put,AV.cells,qI,qN,qF,kI,kN,bV,unV,DW]
  refine jk (by kernel_rfl) (a4G hG hx (by omega)) ?_
  clear hG
  rintro _ h6 ⟨cs,rfl,hcs,hG⟩
  simp[bsH,bE,step,St.val,St.put,AV.cells,qI,qN,qF,kI,kN,bV,unV,DW,jO,zc8,hcs.s,hcs.l,hcs.d,setCells]
  have hG:=hG.app [⟨212,8,0,false,[.agg cs]⟩]
  have hb6:(h6++[⟨212,8,0,false,[.agg cs]⟩])[h6.length]?=some ⟨212,8,0,false,[.agg cs]⟩:=by simp
  generalize h6++[⟨212,8,0,false,[.agg cs]⟩]=h7 at hG hb6 ⊢
  refine kR (kR (jh mixed ?_))
  obtain⟨b9w,L',es',hP,hL,hgo⟩:=hG
  obtain rfl:L'=[]:=by simpa using hL
  obtain⟨c0,hO,hw⟩:=hP.pb
  have hc7:=(hgo.fr.fr H.length (by omega) λq=>Nat.lt_irrefl _ (hF _ q)).trans hc1
  have hn:p≠H.length:=λq=>by rw[q,hc7]at hO;cases hO
  simp[bsH,bE,step,St.val,St.put,AV.cells,qI,qN,qF,kI,kN,bV,unV,Ov,hO]
  refine jh mixed ?_
  have hs7:∀o,(h7.set H.length o)[H.length]?=some o:=λo=>aK (lt_of_some hc7)
  simp[bsH,bE,step,St.val,St.put,AV.cells,qI,qN,qF,kI,kN,bV,unV,Xw,hb6,hc7,hs7,hcs.t,hcs.l,hcs.s,hcs.d,setCells,uy,nY,rZ,BU]
  subst e
  have hge:=hgo.fr.ge
  exact⟨True,_,⟨trivial,rfl⟩,trivial,cs,rfl,hcs,⟨_,c0,(aC λq=>hn q.symm).trans hO,hw⟩,by simp;omega,λj hj hn=>by rw[aC (by omega),hgo.fr.fr j (by omega) hn,hf1 j hj]⟩
set_option maxRecDepth 100000
def QK(toks:List ay)(k:Nat)(w:cK)(kw:Nat):Prop:=∃m,Ev toks w kw m false k [(0,[],[])]/\Bn toks m k [(0,[],[])]/\w.2.1<=300/\w.2.2.1<=16
theorem zcP:(Value.agg #[.slice none 0 0,.int .i64 0,.slice none 0 0]).cells.size=3:=rfl
theorem zc6:(Value.agg #[.int .i64 0,.string (bs []),.slice none 0 0,.int .i64 0,.int .i64 0,.slice none 0 0]).cells.size=6:=rfl
theorem a9V{cs:List AV}{w:cK}(h:PC cs w):Wk (.agg (cs.take 6)) (Ty.enc tS0 w.1)/\(∀H,jK H (cs.take 6)=some (cs.take 6))/\(cs.take 6).length=6/\dB false (.agg (cs.take 6))=some (cs.take 6)/\(cs.take 6).take 6=cs.take 6/\(cs.take 6).drop 6=[]:=by
 have hp:∀c∈cs.take 6,Pl1 c:=λc hc=>a9U h.w c (List.mem_of_mem_take hc)
 have hl:(cs.take 6).length=6:=by simp[h.l]
 have q:bn Wp (cs.take 6) ((Ty.enc pG w).cells.take 6):=bn.take h.w.cells 6
 exact⟨Wp.wk (.agg _ _ q.1 q.2),λH=>K4 H _ hp,hl,TP false hp,eF (by omega),List.drop_of_length_le (by omega)⟩
theorem b4h{toks:List ay}{k:Nat}{w:cK}{kw:Nat}(h:QK toks k w kw):Pure Tryz.prog (gx fA) 182 [Ty.enc (.list bR) toks,.v (.int .i64 k)] (.tup [Ty.enc tS0 w.1,.v (.int .i64 kw),.v (.int .i64 0),.v (.int .i64 0)]):=by
 obtain⟨m,he,hb,hw1,hw2⟩:=h
 have hk0:¬(k:Int)<0:=by omega
 have hk1:¬(toks.length:Int)<(k:Int):=by have:=hb.k;omega
 obtain⟨ts,hts,hlen⟩:∃ts:List AV,Ty.enc (.list bR) toks=.list 4 ts/\ts.length=toks.length:=⟨_,rfl,bA _⟩
 have hw0:Wp (.list 4 ts) (Ty.enc (.list bR) toks):=by rw[hts];exact .refl _
 rw[hts]
 refine c1l.pure mixed (t:=[.list 4 ts,.v (.int .i64 k),.any,.any,.any,.any,.any,.any,.any,.any,.any,.any,.any,.any,.any,.any,.any,.any,.any,.any,.any,.any,.any,.any,.any,.any,.any,.any,.any,.any,.any,.any,.any,.any,.any,.any,.any,.any,.any,.any,.any,.any,.any]) rfl ?_
 unfold c182
 simp[bsH,bE,step,St.val,St.put,AV.cells,qI,qN,qF,kI,kN,bV,unV,XM,XL,jO,hk0,hk1,hlen,zc6]
 simp[bsH,bE,step,St.val,St.put,AV.cells,qI,qN,qF,kI,kN,bV,unV,XK,jO,zcP,zc3,l6,dB,st1,Value.oneCell',gW,jK,jY,dV,dU,bZ,uj,Va,setCells]
 simp[bsH,bE,step,St.val,St.put,AV.cells,qI,qN,qF,kI,kN,bV,unV,XJ]
 have hP:PS [aH.mk 34 6 0 false [.agg [.v (.int .i64 0),.v (.string (bs [])),.v (.slice none 0 0),.v (.int .i64 0),.v (.int .i64 0),.v (.slice none 0 0)]],⟨207,3,0,false,[lv0.av]⟩,⟨210,3,0,false,[.agg [.list 4 ts,.v (.int .i64 k),.row 1 1 3 0 1]]⟩] 2 1 toks k [lv0] [lv0.av] :=
  ⟨⟨.list 4 ts,rfl,hw0⟩,rfl,by simp,λi l q=>(by cases i with|zero=>cases q;rfl|succ i=>cases q),λl hl=>by rw[aV.1 hl];exact⟨.inl ⟨rfl,rfl⟩,.inl ⟨rfl,rfl⟩⟩,by decide,by simp⟩
 refine jk (by kernel_rfl) (b6w hP rfl he hb) ?_
 rintro _ h' ⟨cs,rfl,hcs,⟨a,c0,hO,hw⟩,hfr⟩
 have h0:=hfr.fr 0 (by simp) (by decide)
 have hO1:∀l,(h'++l)[2]?=_:=λl=>(au (lt_of_some hO)).trans hO
 have h01:∀l,(h'++l)[0]?=_:=λl=>(au (lt_of_some h0)).trans h0
 simp[bsH,bE,step,St.val,St.put,AV.cells,qI,qN,qF,kI,kN,bV,unV,XI,jO,zc8,hcs.s,hcs.l,hcs.d,setCells]
 simp[bsH,bE,step,St.val,St.put,AV.cells,qI,qN,qF,kI,kN,bV,unV,XH,hcs.t,hcs.l]
 have hbe:Pure Tryz.prog (gx fA) 192 [.agg cs] (.v (.bool false)):=Pure.b4f (Y4.2 (w,()) (false,()) (by show some (cond (iLt 300 w.2.1) true (iLt 16 w.2.2.1),())=_;rw[show iLt 300 w.2.1=false by rw[cO];exact hw1,show iLt 16 w.2.2.1=false by rw[cO];exact hw2];rfl)) hcs.w.wk
 refine⟨192,rfl,by kernel_rfl,.inl ⟨[.agg cs],.v (.bool false),by simp[St.val,dV,hcs.k],hbe,(λq=>by cases q),?_⟩⟩
 simp[bsH,bE,step,St.val,St.put,AV.cells,qI,qN,qF,kI,kN,bV,unV,scalar,wK]
 have hO2:=hO1 [⟨212,8,0,false,[.agg cs]⟩]
 have h02:=h01 [⟨212,8,0,false,[.agg cs]⟩]
 have h92:(h'++[⟨212,8,0,false,[.agg cs]⟩])[h'.length]?=some ⟨212,8,0,false,[.agg cs]⟩:=by simp
 generalize h'++[⟨212,8,0,false,[.agg cs]⟩]=h1 at hO2 h02 h92 ⊢
 have hs0:∀o,(h1.set 0 o)[0]?=some o:=λo=>aK (lt_of_some h02)
 obtain⟨h6w,h6k,h6l,h6s,h6t,h6d⟩:=a9V hcs
 refine yA [0] ?_
 simp[bsH,bE,step,St.val,St.put,AV.cells,qI,qN,qF,kI,kN,bV,unV,XG,wants,I.ids,hO2,h02,h92,hs0,h6k,h6l,h6s,h6t,h6d,agree,setCells,Ends,nY,rZ]
 refine⟨lt_of_some hO2,λid _ hn=>aC λq=>hn q.symm,True,_,⟨trivial,rfl⟩,trivial,.tup [.agg (cs.take 6),.v (.int .i64 kw),.v (.int .i64 0),.v (.int .i64 0)],by simp[CG,dV,gW,h6k,jY,Value.oneCell'],Wk.tup rfl λj a b p q=>?_⟩
 match j,p,q with
 |0,p,q=>cases p;cases q;exact h6w
 |j+1,p,q=>simp at p q;rw[p]at q;cases q;exact Wk.refl _
open Classical in
def JO(a0:List ay)(a1:Int):Option (DS0×Int×Int×Int×Unit):=if h:∃q:cK×Nat,0<=a1/\QK a0 a1.toNat q.1 q.2 then some (h.choose.1.1,(h.choose.2:Int),0,0,()) else none
def i182:PI:=⟨182,[(.list bR),(.int .i64)],[tS0,(.int .i64),(.int .i64),(.int .i64)],fun(x:(List ay)×Int×Unit)=>JO x.1 x.2.1⟩
theorem b0u:PK i182:=⟨by kernel_rfl,λx y h=>by
 obtain⟨toks,k,⟨⟩⟩:=x
 have h:JO toks k=some y:=h
 unfold JO at h
 split at h
 .rename_i hq
  cases h
  obtain⟨h0,hr⟩:=hq.choose_spec
  have:=b4h hr
  rw[gQ h0]at this
  exact this
 .cases h⟩
theorem OpR.det{toks:List ay}{k k1 k2:Nat}{x x2:cK}(h:OpR toks k x k1)(g:OpR toks k x2 k2):x=x2/\k1=k2:=by
 have:=(h.2 .any).symm.trans (g.2 .any)
 simp only[dW,nH]at this
 obtain⟨⟨a,b,c,d,e,f,⟨⟩⟩,s,p,⟨⟩⟩:=x
 obtain⟨⟨a',b',c',d',e',f',⟨⟩⟩,s',p',⟨⟩⟩:=x2
 dsimp only at this
 obtain⟨_,rfl,rfl,rfl,rfl,rfl,rfl,rfl,rfl,_,q,_⟩:=this
 exact⟨rfl,by omega⟩
theorem Ev.det{toks:List ay}{w w':cK}{kw kw' m m':Nat}{b:Bool}{k:Nat}{S:List NL}(h:Ev toks w kw m b k S):Ev toks w' kw' m' b k S->w=w'/\kw=kw':=by
 induction h generalizing m' with
 |nt h _ ih =>
  intro g
  cases g with
  |nt _ r=>exact ih r
  |pr h0 _ _=>rw[h]at h0;cases h0
  |op h0 _ _ _ _=>rw[h]at h0;cases h0
 |pr h0 h _ ih =>
  intro g
  cases g with
  |nt h2 r=>rw[h0]at h2;cases h2
  |pr _ _ r=>exact ih r
  |op _ h2 _ _ _=>rw[h]at h2;cases h2
 |op h0 h1 hx hy _ ih =>
  intro g
  cases g with
  |nt h2 r=>rw[h0]at h2;cases h2
  |pr _ h2 _=>rw[h1]at h2;cases h2
  |op _ _ hx2 hy2 r =>
   obtain⟨rfl,rfl⟩:=hx.det hx2
   cases hy.symm.trans hy2
   exact ih r
 |an h _ ih =>
  intro g
  cases g with
  |an h2 r=>cases h.symm.trans h2;exact ih r
  |cl h2 _ _ _ _=>cases h.symm.trans h2
  |en h2 _ _=>cases h.symm.trans h2
 |cl h hx h1 hy _ ih =>
  intro g
  cases g with
  |an h2 r=>cases h.symm.trans h2
  |cl _ hx2 _ hy2 r =>
   cases hx.symm.trans hx2
   cases hy.symm.trans hy2
   exact ih r
 |en h hx e =>
  intro g
  cases g with
  |an h2 r=>cases h.symm.trans h2
  |en _ hx2 e2=>exact⟨aI (hx.symm.trans hx2),e.symm.trans e2⟩
theorem b4g{toks:List ay}{k:Nat}{w:cK}{kw:Nat}(h:QK toks k w kw):JO toks k=some (w.1,(kw:Int),0,0,()):=by
 have hq:∃q:cK×Nat,0<=(k:Int)/\QK toks (k:Int).toNat q.1 q.2:=⟨(w,kw),by omega,h⟩
 unfold JO
 rw[dif_pos hq]
 obtain⟨_,m,he,_⟩:=hq.choose_spec
 obtain⟨m',he',_⟩:=h
 obtain⟨e1,e2⟩:=he.det he'
 rw[e1,e2]
end
end
end Abs
end Go.Proofs.YtnhgeocdffhkjaaGreatDoor
