/- Merged and trimmed by a program: F7 F8 F9 FA FB FC FD FE FF EXW. -/
import Derived.Test.YtnhgeocdffhkjaaGreatDoorZGJ
import Derived.Lib.LaidTab
import Derived.LaidSub
set_option linter.unusedVariables false
set_option linter.unusedSimpArgs false
set_option linter.defProp false
namespace Go.Proofs.YtnhgeocdffhkjaaGreatDoor
namespace Abs
noncomputable section
theorem b0w{n:Nat}{e:DS0}(h:okE n e=true):1<=e.1/\e.1<=8:=by
 obtain⟨op,nm,ws,lo,hi,l,⟨⟩⟩:=e
 cases n with
 |zero=>cases h
 |succ n=>unfold okE at h;exact(zP (dR.mp h).1).1
theorem iG{n m:Nat}(h:n+m<=1000000000):fits (n+m) 40=true:=by rw[jh];omega
theorem binds{o op:Int}(h:1<=o/\o<=8)(h':op=6\/op=7\/op=8):cond (cond (iEq o 7) true (iEq o 8)) (iLe ((atI opsL o (ByteArray.empty,false,0,0,0,())).2.2.2.2.1) ((atI opsL op (ByteArray.empty,false,0,0,0,())).2.2.2.2.1)) false=cond (iEq o 8) true (cond (iEq o 7) (iNe op 8) false):=by
 have:o=1\/o=2\/o=3\/o=4\/o=5\/o=6\/o=7\/o=8:=by omega
 rcases this with rfl|rfl|rfl|rfl|rfl|rfl|rfl|rfl<;>rcases h' with rfl|rfl|rfl<;>rfl
def PE(n:Nat)(y:DS0×List aB×Unit):Prop:=XX y.1/\okE n y.1=true/\y.2.1.length+40*szE n y.1<=990000
def QE(n:Nat)(y:DS0×List aB×Unit)(z:List aB×Unit):Prop:=z=(y.2.1++gZ n y.1,())
theorem a4o{n:Nat}{self:DS0×List aB×Unit->Option (List aB×Unit)}(hs:∀y,PE n y->T (self y) (QE n y)){op:Int}(ho:op=6\/op=7\/op=8){e:DS0}{l:List aB}(hx:XX e)(hk:okE n e=true)(hl:l.length+1+40*szE n e<=990000):T (JU self op e l) (λz=>z=(l++jG op e.1 (gZ n e),())):=by
 have h18:=b0w hk
 have hn:=zy n e hk
 have b9:∀(k:Int) (b:Bool),1<=k/\k<=8->or (bnd k ((9:Nat):Int)) b=true:=λk b h=>by rw[lq,bV];left;omega
 unfold JU jG
 refine T.grd (b9 _ _ h18) (T.grd (b9 _ _ (by omega)) ?_)
 rw[binds h18 ho]
 refine T.cnd (λhc=>?_) (λhc=>?_)<;>rw[hc]
 .refine T.aU (show Ba (bs [40])=some (mkT (bs [40]),()) from rfl) (T.grd (iG (by simp;omega)) (T.call (hs (e,l++[mkT (bs [40])],()) ⟨hx,hk,by simp;omega⟩) (λy hy=>?_)))
  rw[show y=_ from hy]
  refine T.aU (show Ba (bs [41])=some (mkT (bs [41]),()) from rfl) (T.grd (iG (by simp;omega)) (T.ret ?_))
  simp
 .refine T.call (hs (e,l,()) ⟨hx,hk,by dsimp only;omega⟩) (λy hy=>T.ret ?_)
  rw[show y=_ from hy];rfl
theorem a8A{op:Int}(h:op=7\/op=8):(atI opsL op (ByteArray.empty,false,0,0,0,())).1=cond (iEq op 7) (bs [97,110,100]) (bs [111,114]):=by rcases h with rfl|rfl<;>rfl
theorem mG{α:Type}{l a b:List α}{t z:α}(h:l=a++t::b):atI l (a.length:Int) z=t:=by rw[h];exact Jd a b t z rfl
theorem add_one{α:Type}{a:List α}{x:α}(h:a.length<=1000000000):aN .i64 (a.length:Int) 1=((a++[x]).length:Int):=by rw[bC (by omega) (by omega),ak,aT];omega
theorem lF{α:Type}{l a b:List α}(h:l=a++b)(hb:(a.length:Int)<(l.length:Int)):∃x c,b=x::c/\l=a++x::c:=by
 cases b with
 |nil=>rw[h,cu]at hb;omega
 |cons x c=>exact⟨x,c,rfl,h⟩
theorem kQ{α:Type}{l a b:List α}(h:l=a++b)(hb:(l.length:Int)<=(a.length:Int)):l=a:=by
 rw[h,ak]at hb
 rw[h,bW.1 (show b.length=0 by omega),cu]
theorem b40{F:Nat}{x:DS0×List aB×Unit}(h:PE F x):T (eT (λself (x:DS0×List aB×Unit)=>Mj self x.1 x.2.1) F x) (QE F x):=by
 refine T.iter PE QE (λn x h self hs=>?_) (λx h=>by have:=h.2.1;cases this) F x h
 obtain⟨⟨op,nm,ws,lo,hi,al,⟨⟩⟩,l,⟨⟩⟩:=x
 obtain⟨hx,hk,hl⟩:=h
 obtain⟨hwl,hA⟩:=hx.out
 have hk0:=hk
 unfold okE at hk
 rw[dR]at hk
 obtain⟨hn,ha0⟩:=hk
 have ha:=aG.1 ha0
 clear ha0 hk0
 dsimp only at ha hl hwl hA
 obtain⟨h18,h3,hw,h5,h6,_⟩:=zP hn
 have hz:szE (n+1) (op,nm,ws,lo,hi,al,())=1+(List.map (λa=>szE n (aV a)) al).sum:=rfl
 rw[hz]at hl
 unfold Mj
 dsimp only
 refine T.grd (by rw[bV];omega) ?_
 refine JD h18 (λq=>?_) (λq=>?_) (λq=>?_) (λq=>?_) (λq=>?_) (λq=>?_) (λq=>?_)
 .subst q;exact T.grd (iG (by simp;omega)) (T.ret rfl)
 .subst q;exact T.grd (iG (by simp;omega)) (T.ret rfl)
 .subst q;exact T.grd (iG (by simp;omega)) (T.ret rfl)
 .subst q
  have b8o:=(hw rfl).1
  have hL:=aX ws
  have g2:∀a b:List ByteArray,ws=a++b->(eU [mkT (bs [44])] (λw=>[nmT w]) false a).length<=2*a.length/\a.length<=12:=λa b e=>⟨wV a,by have:=dO List.length e;rw[ak]at this;omega⟩
  refine T.grd (iG (by simp;omega)) (T.loop (λq=>∃a b,ws=a++b/\q=(ws,aD ws,(a.length:Int),l++([nmT nm,nmT (bs [105,110]),mkT (bs [40])]++jP a),())) (λq=>ws.length-q.2.2.1.toNat) ⟨[],ws,rfl,rfl⟩ ?_)
  rintro _ ⟨a,b,hab,rfl⟩
  obtain⟨g1,g2⟩:=g2 a b hab
  have g1:(jP a).length<=2*a.length:=g1
  dsimp only
  refine T.cnd (λhc=>?_) (λhc=>?_)<;>simp only[bQ,dh]at hc
  .obtain⟨w,c,rfl,hab⟩:=lF hab (by omega)
   refine T.grd (by rw[bV];omega) ?_
   rw[mG hab]
   have nx:∀o:List aB,o=l++([nmT nm,nmT (bs [105,110]),mkT (bs [40])]++jP (a++[w]))->T (some (Sum.inl (β:=List aB×Unit) (ws,aD ws,aN .i64 (a.length:Int) 1,o,()))) (LQ (λq=>∃a b,ws=a++b/\q=(ws,aD ws,(a.length:Int),l++([nmT nm,nmT (bs [105,110]),mkT (bs [40])]++jP a),())) (λq=>ws.length-q.2.2.1.toNat) (ws.length-(a.length:Int).toNat) (QE (n+1) ((4,nm,ws,lo,hi,al,()),l,()))):=λo ho=>by
    rw[add_one (x:=w) (by omega),ho]
    refine T.go ⟨a++[w],c,by rw[hab,aQ];rfl,rfl⟩ ?_
    dsimp only;rw[ak,aT];omega
   have e:jP (a++[w])=jP a++(cond (iLt 0 (a.length:Int)) [mkT (bs [44])] []++[nmT w]):=sj _ _ a w
   refine T.cnd (λhp=>?_) (λhp=>?_)
   .refine T.aU (show Ba (bs [44])=some (mkT (bs [44]),()) from rfl) (T.grd (iG (by simp;omega)) (T.aU (show uq w=some (nmT w,()) from rfl) (T.grd (iG (by simp;omega)) (nx _ ?_))))
    rw[e,hp];simp
   .refine T.aU (show uq w=some (nmT w,()) from rfl) (T.grd (iG (by simp;omega)) (nx _ ?_))
    rw[e,hp];simp
  .have he:=kQ hab (by omega)
   refine T.iD (T.aU (show Ba (bs [41])=some (mkT (bs [41]),()) from rfl) (T.grd (iG (by simp;omega)) (T.ret ?_)))
   show(_,())=(l++([nmT nm,nmT (bs [105,110]),mkT (bs [40])]++(jP ws++[mkT (bs [41])])),())
   rw[he];simp
 .subst q;exact T.grd (iG (by simp;omega)) (T.ret rfl)
 .subst q
  have h1:=h6 rfl
  match al,h1 with
  |[a],_ =>
   have hm:a∈[a]:=by simp
   simp at hl
   refine T.grd (iG (by simp;omega)) (T.grd (hA.g (mK _) (by simp)) (T.call (a4o (e:=aV a) hs (.inl rfl) (hA.2 a hm).2 (ha a hm) (by simp;omega)) (λy hy=>T.ret ?_)))
   rw[hy]
   show(_,())=(l++([nmT (bs [110,111,116])]++([]++(jG 6 (aV a).1 (gZ n (aV a))++[]))),())
   rw[cu,fq,<- aQ];rfl
 .have ho:op=6\/op=7\/op=8:=.inr q
  have e1:gZ (n+1) (op,nm,ws,lo,hi,al,())=eU [nmT (cond (iEq op 7) (bs [97,110,100]) (bs [111,114]))] (λa=>jG op (aV a).1 (gZ n (aV a))) false al:=by rcases q with rfl|rfl<;>rfl
  have h7:∀k:Int,k<=6->iEq op k=false:=λk hk=>by rw[iT];omega
  rw[h7 1 (by omega),h7 2 (by omega),h7 3 (by omega),h7 4 (by omega),h7 5 (by omega),h7 6 (by omega),a8A q]
  unfold QE
  rw[e1]
  generalize cond (iEq op 7) (bs [97,110,100]) (bs [111,114])=wd
  dsimp only
  have hL:=aX al
  have hal:=hA.1
  have sl:∀a c,al=a++c->(eU [nmT wd] (λa=>jG op (aV a).1 (gZ n (aV a))) false a).length<=40*(List.map (λa=>szE n (aV a)) a).sum:=λa c e=>by
   rw[<- EF]
   exact xg a false λx hm=>by
    have a1:=zy n _ (ha x (by rw[e];simp[hm]))
    have a2:=Gg op (aV x).1 (gZ n (aV x))
    rw[aT];omega
  have lm:∀(f:AV->Nat) (m:List AV),(∀x,1<=f x)->m.length<=(m.map f).sum:=λf m h=>by
   induction m with
   |nil=>exact dG _
   |cons x m ih=>have:=h x;rw[bL,fU,bf];omega
  refine T.loop (λq=>∃a b,al=a++b/\q=(al,aD al,(a.length:Int),l++eU [nmT wd] (λa=>jG op (aV a).1 (gZ n (aV a))) false a,op,nm,ws,lo,hi,al,wd,(atI opsL op (ByteArray.empty,false,0,0,0,())).2.1,(atI opsL op (ByteArray.empty,false,0,0,0,())).2.2.1,(atI opsL op (ByteArray.empty,false,0,0,0,())).2.2.2.1,(atI opsL op (ByteArray.empty,false,0,0,0,())).2.2.2.2.1,())) (λq=>al.length-q.2.2.1.toNat) ⟨[],al,rfl,by simp[eU]⟩ ?_
  rintro _ ⟨a,b,hab,rfl⟩
  dsimp only
  have hsl:=sl a b hab
  refine T.cnd (λhc=>?_) (λhc=>?_)<;>simp only[bQ,dh]at hc
  .obtain⟨x,c,rfl,hab⟩:=lF hab (by omega)
   have hm:x∈al:=by rw[hab];simp
   have hsum:(List.map (λa=>szE n (aV a)) al).sum=(List.map (λa=>szE n (aV a)) a).sum+(szE n (aV x)+(List.map (λa=>szE n (aV a)) c).sum):=by rw[hab,bJ,wK,bL,fU]
   have hla:=lm (λa=>szE n (aV a)) a λx=>Bn n _
   refine T.grd (hA.g (by omega) (by omega)) ?_
   rw[mG hab]
   have nx:∀o:List aB,o=l++eU [nmT wd] (λa=>jG op (aV a).1 (gZ n (aV a))) false (a++[x])->T (some (Sum.inl (β:=List aB×Unit) (al,aD al,aN .i64 (a.length:Int) 1,o,op,nm,ws,lo,hi,al,wd,(atI opsL op (ByteArray.empty,false,0,0,0,())).2.1,(atI opsL op (ByteArray.empty,false,0,0,0,())).2.2.1,(atI opsL op (ByteArray.empty,false,0,0,0,())).2.2.2.1,(atI opsL op (ByteArray.empty,false,0,0,0,())).2.2.2.2.1,()))) (LQ (λq=>∃a b,al=a++b/\q=(al,aD al,(a.length:Int),l++eU [nmT wd] (λa=>jG op (aV a).1 (gZ n (aV a))) false a,op,nm,ws,lo,hi,al,wd,(atI opsL op (ByteArray.empty,false,0,0,0,())).2.1,(atI opsL op (ByteArray.empty,false,0,0,0,())).2.2.1,(atI opsL op (ByteArray.empty,false,0,0,0,())).2.2.2.1,(atI opsL op (ByteArray.empty,false,0,0,0,())).2.2.2.2.1,())) (λq=>al.length-q.2.2.1.toNat) (al.length-(a.length:Int).toNat) (λz=>z=(l++eU [nmT wd] (λa=>jG op (aV a).1 (gZ n (aV a))) false al,()))):=λo ho=>by
    rw[add_one (x:=x) (by omega),ho]
    refine T.go ⟨a++[x],c,by rw[hab,aQ];rfl,rfl⟩ ?_
    dsimp only;rw[ak,aT];omega
   have hq:=fun(o:List aB) (h:o.length+1+40*szE n (aV x)<=990000)=>a4o (l:=o) hs ho (hA.2 x hm).2 (ha x hm) h
   refine T.cnd (λhp=>?_) (λhp=>?_)
   .refine T.aU (show uq wd=some (nmT wd,()) from rfl) (T.grd (iG (by simp;omega)) (T.call (hq _ (by simp;omega)) (λy hy=>?_)))
    rw[hy]
    refine nx _ ?_
    rw[sj,hp];simp
   .refine T.call (hq _ (by simp;omega)) (λy hy=>?_)
    rw[hy]
    refine nx _ ?_
    rw[sj,hp];simp
  .have he:=kQ hab (by omega)
   refine T.out ?_
   rw[<- he]
theorem P6(ws:List ByteArray)(l:List aB)(h:ws.length<=1000)(hl:l.length<=1000000):m75 ws l=some (l++jP ws,()):=by
 refine T.eq ?_
 unfold m75
 have hL:=aX ws
 refine T.loop (λq=>∃a b,ws=a++b/\q=(ws,(a.length:Int),l++jP a,())) (λq=>ws.length-q.2.1.toNat) ⟨[],ws,rfl,by simp[jP,eU]⟩ ?_
 rintro _ ⟨a,b,hab,rfl⟩
 have g1:=wV a
 have g2:a.length<=ws.length:=by have:=dO List.length hab;rw[ak]at this;omega
 dsimp only
 refine T.cnd (λhc=>?_) (λhc=>?_)<;>simp only[bQ,dh]at hc
 .obtain⟨w,c,rfl,hab⟩:=lF hab (by omega)
  have nx:∀o:List aB,o=l++jP (a++[w])->T (some (Sum.inl (β:=List aB×Unit) (ws,aN .i64 (a.length:Int) 1,o,()))) (LQ (λq=>∃a b,ws=a++b/\q=(ws,(a.length:Int),l++jP a,())) (λq=>ws.length-q.2.1.toNat) (ws.length-(a.length:Int).toNat) (λz=>z=(l++jP ws,()))):=λo ho=>by
   rw[add_one (x:=w) (by omega),ho]
   refine T.go ⟨a++[w],c,by rw[hab,aQ];rfl,rfl⟩ ?_
   dsimp only;rw[ak,aT];omega
  have e:jP (a++[w])=jP a++(cond (iLt 0 (a.length:Int)) [mkT (bs [44])] []++[nmT w]):=sj _ _ a w
  have b0:bnd (a.length:Int) (aD ws)=true:=by rw[bV];omega
  rw[mG hab]
  refine T.cnd (λhp=>?_) (λhp=>?_)
  .refine T.aU (show m74 (bs [44])=some (mkT (bs [44]),()) from rfl) (T.grd (iG (by simp;omega)) (T.grd b0 (T.aU (show m73 w=some (nmT w,()) from rfl) (T.grd (iG (by simp;omega)) (nx _ ?_)))))
   rw[e,hp];simp
  .refine T.grd b0 (T.aU (show m73 w=some (nmT w,()) from rfl) (T.grd (iG (by simp;omega)) (nx _ ?_)))
   rw[e,hp];simp
 .have he:=kQ hab (by omega)
  refine T.out ?_
  rw[<- he]
theorem b2v{F:Nat}{x:DS0×List aB×Unit}(h:PE F x):T (eT (λself (x:DS0×List aB×Unit)=>MB self x.1 x.2.1) F x) (QE F x):=by
 refine T.iter PE QE (λn x h self hs=>?_) (λx h=>by have:=h.2.1;cases this) F x h
 obtain⟨⟨op,nm,ws,lo,hi,al,⟨⟩⟩,l,⟨⟩⟩:=x
 obtain⟨hx,hk,hl⟩:=h
 obtain⟨hwl,hA⟩:=hx.out
 have hk0:=hk
 unfold okE at hk
 rw[dR]at hk
 obtain⟨hn,ha0⟩:=hk
 have ha:=aG.1 ha0
 clear ha0 hk0
 dsimp only at ha hl hwl hA
 obtain⟨h18,h3,hw,h5,h6,_⟩:=zP hn
 have hz:szE (n+1) (op,nm,ws,lo,hi,al,())=1+(List.map (λa=>szE n (aV a)) al).sum:=rfl
 rw[hz]at hl
 unfold MB
 dsimp only
 refine T.cnd (λq=>?_) (λq1=>T.cnd (λq=>?_) (λq2=>T.cnd (λq=>?_) (λq3=>T.cnd (λq=>?_) (λq4=>T.cnd (λq=>?_) (λq5=>?_)))))
 .rw[lK]at q;subst q;exact T.grd (iG (by simp;omega)) (T.ret rfl)
 .rw[lK]at q;subst q;exact T.grd (iG (by simp;omega)) (T.ret rfl)
 .rw[lK]at q;subst q;exact T.grd (iG (by simp;omega)) (T.ret rfl)
 .rw[lK]at q;subst q
  have b8o:=(hw rfl).1
  have g1:=wV ws
  refine T.grd (iG (by simp;omega)) (T.aU (P6 ws _ (by omega) (by simp;omega)) (T.aU (show m74 (bs [41])=some (mkT (bs [41]),()) from rfl) (T.grd (iG (by simp;omega)) (T.ret ?_))))
  show(_,())=(l++([nmT nm,nmT (bs [105,110]),mkT (bs [40])]++(jP ws++[mkT (bs [41])])),())
  simp;exact⟨rfl,rfl,rfl⟩
 .rw[lK]at q;subst q;exact T.grd (iG (by simp;omega)) (T.ret rfl)
 have e1:gZ (n+1) (op,nm,ws,lo,hi,al,())=cond (iEq op 6) [nmT (bs [110,111,116])] []++eU [nmT (cond (iEq op 7) (bs [97,110,100]) (bs [111,114]))] (λa=>jG op (aV a).1 (gZ n (aV a))) false al:=by
  show cond (iEq op 1) _ (cond (iEq op 2) _ (cond (iEq op 3) _ (cond (iEq op 4) _ (cond (iEq op 5) _ _))))=_
  rw[q1,q2,q3,q4,q5];rfl
 unfold QE
 dsimp only
 rw[e1]
 refine T.join (λj=>j=(cond (iEq op 7) (bs [97,110,100]) (bs [111,114]),l,op,nm,ws,lo,hi,al,())) (T.cnd (λq=>T.jgo (by rw[q];rfl)) (λq=>T.jgo (by rw[q];rfl))) ?_
 rintro _ rfl
 generalize cond (iEq op 7) (bs [97,110,100]) (bs [111,114])=wd
 refine T.join (λj=>j=(wd,l++cond (iEq op 6) [nmT (bs [110,111,116])] [],op,nm,ws,lo,hi,al,())) (T.cnd (λq=>T.aU (show m73 _=some (nmT (bs [110,111,116]),()) from rfl) (T.grd (iG (by simp;omega)) (T.jgo (by rw[q];rfl)))) (λq=>T.jgo (by rw[q];simp))) ?_
 rintro _ rfl
 have hm1:(cond (iEq op 6) [nmT (bs [110,111,116])] ([]:List aB)).length<=1:=by cases iEq op 6<;>simp
 generalize cond (iEq op 6) [nmT (bs [110,111,116])] []=pre at hm1 ⊢
 dsimp only
 have hL:=aX al
 have hal:=hA.1
 have sl:∀a c,al=a++c->(eU [nmT wd] (λa=>jG op (aV a).1 (gZ n (aV a))) false a).length<=40*(List.map (λa=>szE n (aV a)) a).sum:=λa c e=>by
  rw[<- EF]
  exact xg a false λx hm=>by
   have a1:=zy n _ (ha x (by rw[e];simp[hm]))
   have a2:=Gg op (aV x).1 (gZ n (aV x))
   rw[aT];omega
 have lm:∀(f:AV->Nat) (m:List AV),(∀x,1<=f x)->m.length<=(m.map f).sum:=λf m h=>by
  induction m with
  |nil=>exact dG _
  |cons x m ih=>have:=h x;rw[bL,fU,bf];omega
 refine T.loop (λq=>∃a b,al=a++b/\q=(wd,(a.length:Int),l++pre++eU [nmT wd] (λa=>jG op (aV a).1 (gZ n (aV a))) false a,op,nm,ws,lo,hi,al,())) (λq=>al.length-q.2.1.toNat) ⟨[],al,rfl,by simp[eU]⟩ ?_
 rintro _ ⟨a,b,hab,rfl⟩
 dsimp only
 have hsl:=sl a b hab
 refine T.cnd (λhc=>?_) (λhc=>?_)<;>simp only[bQ,dh]at hc
 .obtain⟨x,c,rfl,hab⟩:=lF hab (by omega)
  have hm:x∈al:=by rw[hab];simp
  have hsum:(List.map (λa=>szE n (aV a)) al).sum=(List.map (λa=>szE n (aV a)) a).sum+(szE n (aV x)+(List.map (λa=>szE n (aV a)) c).sum):=by rw[hab,bJ,wK,bL,fU]
  have hla:=lm (λa=>szE n (aV a)) a λx=>Bn n _
  refine T.grd (hA.g (by omega) (by omega)) ?_
  rw[mG hab]
  have hx:=(hA.2 x hm).2
  have hk:=ha x hm
  have hn2:=zy n _ hk
  generalize he:aV x=e at hx hk hsum hn2
  refine T.join (λj=>j=(wd,(a.length:Int),l++pre++eU [nmT wd] (λa=>jG op (aV a).1 (gZ n (aV a))) false a++cond (iLt 0 (a.length:Int)) [nmT wd] [],op,nm,ws,lo,hi,al,e.1,e.2.1,e.2.2.1,e.2.2.2.1,e.2.2.2.2.1,e.2.2.2.2.2.1,())) (T.cnd (λq=>T.aU (show m73 wd=some (nmT wd,()) from rfl) (T.grd (iG (by simp;omega)) (T.jgo (by rw[q];rfl)))) (λq=>T.jgo (by rw[q];simp))) ?_
  rintro _ rfl
  have hout:(l++pre++eU [nmT wd] (λa=>jG op (aV a).1 (gZ n (aV a))) false a++cond (iLt 0 (a.length:Int)) [nmT wd] []).length+1+40*szE n e<=990000:=by
   have:(cond (iLt 0 (a.length:Int)) [nmT wd] ([]:List aB)).length<=1:=by cases iLt 0 (a.length:Int)<;>simp
   simp only[ak];omega
  have hsn:l++pre++eU [nmT wd] (λa=>jG op (aV a).1 (gZ n (aV a))) false (a++[x])=l++pre++eU [nmT wd] (λa=>jG op (aV a).1 (gZ n (aV a))) false a++cond (iLt 0 (a.length:Int)) [nmT wd] []++jG op e.1 (gZ n e):=by
   rw[sj,he];simp only[aQ]
  generalize l++pre++eU [nmT wd] (λa=>jG op (aV a).1 (gZ n (aV a))) false a++cond (iLt 0 (a.length:Int)) [nmT wd] []=out at hout hsn
  dsimp only
  have nx:∀o:List aB,o=out++jG op e.1 (gZ n e)->T (some (Sum.inl (β:=List aB×Unit) (wd,aN .i64 (a.length:Int) 1,o,op,nm,ws,lo,hi,al,()))) (LQ (λq=>∃a b,al=a++b/\q=(wd,(a.length:Int),l++pre++eU [nmT wd] (λa=>jG op (aV a).1 (gZ n (aV a))) false a,op,nm,ws,lo,hi,al,())) (λq=>al.length-q.2.1.toNat) (al.length-(a.length:Int).toNat) (λz=>z=(l++(pre++eU [nmT wd] (λa=>jG op (aV a).1 (gZ n (aV a))) false al),()))):=λo ho=>by
   rw[add_one (x:=x) (by omega),ho,<- hsn]
   refine T.go ⟨a++[x],c,by rw[hab,aQ];rfl,rfl⟩ ?_
   dsimp only;rw[ak,aT];omega
  have par:jG op e.1 (gZ n e)=mkT (bs [40])::(gZ n e++[mkT (bs [41])])->T ((m74 (bs [40])).bind λa7d=>cond (fits (List.length out+List.length ([a7d.1]:List aB)) 40) ((self (e,out++([a7d.1]:List aB),())).bind λa7c=>(m74 (bs [41])).bind λa7b=>cond (fits (List.length a7c.1+List.length ([a7b.1]:List aB)) 40) (some (Sum.inl (wd,aN .i64 (a.length:Int) 1,a7c.1++([a7b.1]:List aB),op,nm,ws,lo,hi,al,()))) none) none) (LQ (λq=>∃a b,al=a++b/\q=(wd,(a.length:Int),l++pre++eU [nmT wd] (λa=>jG op (aV a).1 (gZ n (aV a))) false a,op,nm,ws,lo,hi,al,())) (λq=>al.length-q.2.1.toNat) (al.length-(a.length:Int).toNat) (λz=>z=(l++(pre++eU [nmT wd] (λa=>jG op (aV a).1 (gZ n (aV a))) false al),()))):=λhp=>by
   refine T.aU (show m74 (bs [40])=some (mkT (bs [40]),()) from rfl) (T.grd (iG (by simp;omega)) (T.call (hs (e,out++[mkT (bs [40])],()) ⟨hx,hk,by simp;omega⟩) (λy hy=>?_)))
   rw[show y=_ from hy]
   refine T.aU (show m74 (bs [41])=some (mkT (bs [41]),()) from rfl) (T.grd (iG (by simp;omega)) (nx _ ?_))
   rw[hp];simp
  unfold jG at par nx
  refine T.cnd (λq=>?_) (λq=>T.cnd (λq'=>?_) (λq'=>?_))
  .rw[q]at par;exact par rfl
  .rw[q,q']at par;exact par rfl
  .refine T.call (hs (e,out,()) ⟨hx,hk,by dsimp only;omega⟩) (λy hy=>?_)
   rw[show y=_ from hy]
   refine nx _ ?_
   rw[q,q'];rfl
 .have he:=kQ hab (by omega)
  refine T.out ?_
  rw[<- he,aQ]
theorem GH{e:DS0}(h:jf e=true):okE 16 e=true/\szE 16 e<=300/\okE 10000 e=true/\szE 10000 e<=300/\gZ 10000 e=gZ 16 e:=by
 unfold jf at h
 rw[dR,dV]at h
 have a:=Wo h.1 9984
 have b:=(Fq (Fu h.1) 9984).2.1
 exact⟨h.1,h.2,a.2,by rw[show szE 10000 e=szE 16 e from b];exact h.2,a.1⟩
def tk(e:DS0):List aB:=gZ 16 e
theorem vN{e:DS0}(h:jf e=true):(tk e).length<=12000/\∀t∈tk e,jK t/\¬t.1=3:=by
 obtain⟨a,b,_⟩:=GH h
 have:=zy 16 e a
 exact⟨by unfold tk;omega,Wq 16 e a⟩
theorem Wn{e:DS0}(hx:XX e)(h:jf e=true){l:List aB}(hl:l.length<=970000):OU e l=some (l++tk e,()):=by
 obtain⟨_,_,a,b,c⟩:=GH h
 refine T.eq ?_
 unfold OU tk
 rw[<- c]
 exact b2v (x:=(e,l,())) ⟨hx,a,by dsimp only;omega⟩
theorem a8F{e:DS0}(hx:XX e)(h:jf e=true):MF e=some (tk e,()):=by
 obtain⟨_,_,a,b,c⟩:=GH h
 refine T.eq ?_
 unfold MF a1O tk
 rw[<- c]
 exact b40 (x:=(e,[],())) ⟨hx,a,by dsimp only;rw[fF];omega⟩
def wbT(f:List AV->List aB)(a:AV):List aB:=nmT (bG a).1::mkT (bs [58])::(tk (bG a).2.1++f (bG a).2.2.1)
def bkT:Nat->List AV->List aB
 |0,_=>[]
 |k+1,l=>cond (iEq (l.length:Int) 0) [] ([nmT (bs [117,110,108,101,115,115]),mkT (bs [40])]++(eU [mkT (bs [44])] (wbT (bkT k)) false l++[mkT (bs [41])]))
theorem xD{k:Nat}{l:List AV}(h:okB (k+1) l=true):∀a∈l,eH (bG a).1=true/\jf (bG a).2.1=true/\okB k (bG a).2.2.1=true:=λa ha=>by
 have:=aG.1 h a ha
 simp only[dR]at this
 exact this
theorem Jb:∀k,bkT k []=[]
 |0=>rfl
 |k+1=>rfl
theorem JH{l:List AV}(h:okB 0 l=true):l=[]:=bW.1 (of_decide_eq_true h)
theorem VH:∀{k:Nat} {l:List AV},okB k l=true->∀d,bkT (k+1+d) l=bkT (k+1) l
 |0,l,h,d=>by rw[JH h,Jb,Jb]
 |k+1,l,h,d=>by
  rw[show k+1+1+d=(k+1+d)+1 by omega]
  unfold bkT
  have:∀(m:List AV) (b:Bool),(∀a∈m,a∈l)->eU [mkT (bs [44])] (wbT (bkT (k+1+d))) b m=eU [mkT (bs [44])] (wbT (bkT (k+1))) b m:=λm=>by
   induction m with
   |nil=>intro b _;rfl
   |cons a m ih =>
    intro b hm
    show _++(wbT (bkT (k+1+d)) a++_)=_++(wbT (bkT (k+1)) a++_)
    rw[ih true λx hx=>hm x (by simp[hx])]
    unfold wbT
    rw[VH (xD h a (hm a (by simp))).2.2 d]
  rw[this l false λa h=>h]
theorem BM:∀(k:Nat) (l:List AV),okB k l=true->(bkT (k+1) l).length<=13000*cnB k l
 |0,l,h=>by rw[JH h];exact dG _
 |k+1,l,h=>by
  have hs:=xg (s:=[mkT (bs [44])]) (f:=wbT (bkT (k+1))) (g:=λa=>12003+13000*cnB k (bG a).2.2.1) l false λa ha=>by
   obtain⟨_,a2,a3⟩:=xD h a ha
   have:=(vN a2).1
   have:=BM k _ a3
   unfold wbT
   simp;omega
  have e:∀m:List AV,(m.map λa=>12003+13000*cnB k (bG a).2.2.1).sum=12003*m.length+13000*(m.map λa=>cnB k (bG a).2.2.1).sum:=λm=>by
   induction m with
   |nil=>rfl
   |cons a m ih=>rw[bL,fU,ih,bL,fU,bf];omega
  rw[e]at hs
  unfold bkT cnB
  cases hc:iEq (l.length:Int) 0 with
  |true=>exact dG _
  |false =>
   rw[iT]at hc
   show([nmT _,mkT _]++(eU _ _ _ _++[mkT _])).length<=_
   simp only[ak,bf,fF]
   omega
theorem a4m:∀(k:Nat) (l:List AV),okB k l=true->∀t∈bkT (k+1) l,jK t/\¬t.1=3
 |0,l,h=>by rw[JH h];exact λt ht=>by cases ht
 |k+1,l,h=>λt ht=>by
  unfold bkT at ht
  cases hc:iEq (l.length:Int) 0<;>rw[hc]at ht
  .have ht:t∈[nmT (bs [117,110,108,101,115,115]),mkT (bs [40])]++(eU [mkT (bs [44])] (wbT (bkT (k+1))) false l++[mkT (bs [41])]):=ht
   simp only[aH,bE,bY,or_false]at ht
   rcases ht with(rfl|rfl)|q|rfl
   .exact MG
   .exact qK (by simp[mkL])
   .refine Bo (P:=λt=>jK t/\¬t.1=3) (λu hu=>by rw[aY.1 hu];exact qK (by simp[mkL])) l false (λa ha u hu=>?_) t q
    obtain⟨a1,a2,a3⟩:=xD h a ha
    unfold wbT at hu
    simp only[aH,bE]at hu
    rcases hu with rfl|rfl|q|q
    .exact tL (dR.mp a1).1
    .exact qK (by simp[mkL])
    .exact(vN a2).2 u q
    .exact a4m k _ a3 u q
   .exact qK (by simp[mkL])
  .cases ht
def PBk(n:Nat)(y:List AV×List aB×Unit):Prop:=∃k,n=k+1/\BB y.1/\okB k y.1=true/\y.2.1.length+13000*cnB k y.1<=940000
def QBk(n:Nat)(y:List AV×List aB×Unit)(z:List aB×Unit):Prop:=z=(y.2.1++bkT n y.1,())
theorem QN{k:Nat}{l a b:List AV}{x:AV}(h:okB (k+1) l=true)(hab:l=a++x::b){o:List aB}(ho:o.length+13000*cnB (k+1) l<=940000):(o++eU [mkT (bs [44])] (wbT (bkT (k+1))) false a).length+13000+13000*cnB k (bG x).2.2.1<=940000/\a.length<=1000:=by
 have hs:=xg (s:=[mkT (bs [44])]) (f:=wbT (bkT (k+1))) (g:=λa=>13000+13000*cnB k (bG a).2.2.1) a false λy hy=>by
  obtain⟨_,a2,a3⟩:=xD h y (by rw[hab];simp[hy])
  have:=(vN a2).1
  have:=BM k _ a3
  unfold wbT
  simp;omega
 have e:∀m:List AV,(m.map λa=>13000+13000*cnB k (bG a).2.2.1).sum=13000*m.length+13000*(m.map λa=>cnB k (bG a).2.2.1).sum:=λm=>by
  induction m with
  |nil=>rfl
  |cons a m ih=>rw[bL,fU,ih,bL,fU,bf];omega
 rw[e]at hs
 have hc:cnB (k+1) l=l.length+(l.map λa=>cnB k (bG a).2.2.1).sum:=rfl
 rw[hc,hab,bJ,wK,bL,fU,ak,bf]at ho
 rw[ak]
 omega
theorem a6G{F:Nat}{x:List AV×List aB×Unit}(h:PBk F x):T (eT (λself (x:List AV×List aB×Unit)=>MC self x.1 x.2.1) F x) (QBk F x):=by
 refine T.iter PBk QBk (λn x h self hs=>?_) (λx h=>by obtain⟨k,q,_⟩:=h;cases q) F x h
 obtain⟨l,o,⟨⟩⟩:=x
 obtain⟨k,hk,hb,hok,hl⟩:=h
 obtain rfl:n=k:=by omega
 have hA:=hb.out
 dsimp only at hA hok hl
 have hL:=aX l
 unfold MC
 dsimp only
 refine T.cnd (λhc=>T.ret ?_) (λhc=>?_)
 .rw[lK,hL]at hc
  have:l=[]:=bW.1 (by omega)
  unfold QBk
  dsimp only
  rw[this,Jb,cu]
 have hc':iEq (l.length:Int) 0=false:=hc
 cases n with
 |zero=>rw[JH hok]at hc;cases hc
 |succ k =>
 refine T.aU (show m73 _=some (nmT (bs [117,110,108,101,115,115]),()) from rfl) (T.aU (show m74 (bs [40])=some (mkT (bs [40]),()) from rfl) (T.grd (iG (by simp;omega)) ?_))
 generalize hpre:o++[nmT (bs [117,110,108,101,115,115]),mkT (bs [40])]=pre
 have hpl:pre.length=o.length+2:=by rw[<- hpre];simp
 have hq:QBk (k+1+1) (l,o,())=λz=>z=(pre++(eU [mkT (bs [44])] (wbT (bkT (k+1))) false l++[mkT (bs [41])]),()):=by
  funext z
  unfold QBk bkT
  dsimp only
  rw[hc',<- hpre,aQ];rfl
 rw[hq]
 refine T.loop (λq=>∃a b,l=a++b/\q=(l,(a.length:Int),pre++eU [mkT (bs [44])] (wbT (bkT (k+1))) false a,())) (λq=>l.length-q.2.1.toNat) ⟨[],l,rfl,by rw[<- hpre];simp[eU]⟩ ?_
 rintro _ ⟨a,b,hab,rfl⟩
 dsimp only
 refine T.cnd (λhc=>?_) (λhc=>?_)<;>simp only[bQ,dh]at hc
 .obtain⟨x,c,rfl,hab⟩:=lF hab (by omega)
  have hm:x∈l:=by rw[hab];simp
  obtain⟨g1,g2⟩:=QN hok hab hl
  obtain⟨a1,a2,a3⟩:=xD hok x hm
  obtain⟨_,b2,b3⟩:=hA.2 x hm
  have htk:=(vN a2).1
  have hg:=okg (λa h=>(hA.2 a h).1) (k:=(a.length:Int)) (l:=l) (by omega) (by omega)
  refine T.join (λj=>j=(l,(a.length:Int),pre++eU [mkT (bs [44])] (wbT (bkT (k+1))) false a++cond (iLt 0 (a.length:Int)) [mkT (bs [44])] [],())) (T.cnd (λq=>T.aU (show m74 (bs [44])=some (mkT (bs [44]),()) from rfl) (T.grd (iG (by rw[ak]at g1 ⊢;simp;omega)) (T.jgo (by rw[q];rfl)))) (λq=>T.jgo (by rw[q];simp))) ?_
  rintro _ rfl
  have hsn:pre++eU [mkT (bs [44])] (wbT (bkT (k+1))) false (a++[x])=pre++eU [mkT (bs [44])] (wbT (bkT (k+1))) false a++cond (iLt 0 (a.length:Int)) [mkT (bs [44])] []++wbT (bkT (k+1)) x:=by
   rw[sj];simp only[aQ]
  have hol:(pre++eU [mkT (bs [44])] (wbT (bkT (k+1))) false a++cond (iLt 0 (a.length:Int)) [mkT (bs [44])] []).length+12990+13000*cnB k (bG x).2.2.1<=940000:=by
   have:(cond (iLt 0 (a.length:Int)) [mkT (bs [44])] ([]:List aB)).length<=1:=by cases iLt 0 (a.length:Int)<;>simp
   rw[ak]at g1
   simp only[ak];omega
  generalize pre++eU [mkT (bs [44])] (wbT (bkT (k+1))) false a++cond (iLt 0 (a.length:Int)) [mkT (bs [44])] []=out at hsn hol
  dsimp only
  refine T.grd hg ?_
  rw[mG hab]
  refine T.aU (show m73 _=some (nmT (bG x).1,()) from rfl) (T.aU (show m74 (bs [58])=some (mkT (bs [58]),()) from rfl) (T.grd (iG (by simp;omega)) ?_))
  rw[mG hab]at hg
  refine T.grd hg (T.aU (Wn b2 a2 (by simp;omega)) (T.grd hg (T.call (hs ((bG x).2.2.1,out++[nmT (bG x).1,mkT (bs [58])]++tk (bG x).2.1,()) ⟨k,rfl,b3,a3,by simp;omega⟩) (λy hy=>?_))))
  rw[show y=_ from hy]
  rw[add_one (x:=x) (by omega)]
  refine T.go ⟨a++[x],c,by rw[hab,aQ];rfl,?_⟩ (by dsimp only;rw[ak,aT];omega)
  rw[hsn]
  unfold wbT
  simp
 .have he:=kQ hab (by omega)
  have hz:=BM (k+1) l hok
  unfold bkT at hz
  rw[hc']at hz
  have hz:([nmT (bs [117,110,108,101,115,115]),mkT (bs [40])]++(eU [mkT (bs [44])] (wbT (bkT (k+1))) false l++[mkT (bs [41])])).length<=_:=hz
  rw[ak,ak]at hz
  rw[<- he]
  refine T.iD (T.aU (show m74 (bs [41])=some (mkT (bs [41]),()) from rfl) (T.grd (iG (by simp;omega)) (T.ret ?_)))
  rw[aQ]
def bk(l:List AV):List aB:=bkT 17 l
theorem Ox:∀{k:Nat} {l:List AV},okB k l=true->∀d,okB (k+d) l=true
 |0,l,h,d=>by rw[JH h];cases d<;>rfl
 |k+1,l,h,d=>by
  rw[show k+1+d=(k+d)+1 by omega]
  refine aG.2 λa ha=>?_
  obtain⟨a1,a2,a3⟩:=xD h a ha
  simp only[dR]
  exact⟨a1,a2,Ox a3 d⟩
theorem a6H{l:List AV}(hb:BB l)(h:okB 16 l=true)(hc:cnB 16 l<=40){o:List aB}(ho:o.length<=20000):UG l o=some (o++bk l,()):=by
 refine T.eq ?_
 have e1:bkT 10000 l=bk l:=VH h 9983
 have e2:okB 9999 l=true/\cnB 9999 l=cnB 16 l:=⟨Ox h 9983,MN h 9983⟩
 unfold UG
 rw[<- e1]
 exact a6G (x:=(l,o,())) ⟨9999,rfl,hb,e2.1,by rw[e2.2];dsimp only;omega⟩
def kwS(k:Int):ByteArray:=((m64 k).getD (bs [],())).1
theorem P8{k:Int}(h:1<=k/\k<=10):m64 k=some (kwS k,())/\a1S k=some (kwS k,())/\lX (kwS k)=true:=by
 have:k=1\/k=2\/k=3\/k=4\/k=5\/k=6\/k=7\/k=8\/k=9\/k=10:=by omega
 rcases this with rfl|rfl|rfl|rfl|rfl|rfl|rfl|rfl|rfl|rfl<;>exact⟨rfl,rfl,rfl⟩
theorem Q9{c:DS1}(h:iH c=true):(1<=c.1/\c.1<=10)/\lX c.2.1=true/\jf c.2.2.1=true/\(okB 16 c.2.2.2.1=true/\cnB 16 c.2.2.2.1<=40)/\(0<ig c.1->0<=c.2.2.2.2.1/\c.2.2.2.2.1<=1073741824):=by
 unfold iH at h
 simp only[dR,gG]at h
 obtain⟨h1,h2,h3,h4,h5⟩:=h
 refine⟨h1,(dR.mp h2).1,h3,?_,λq=>?_⟩
 .unfold ND at h4
  rw[lq,dV]at h4
  rcases h4 with q|q
  .rw[bW.1 q];exact⟨rfl,dG _⟩
  .rw[dR,dR,dV]at q;exact q.2
 .unfold Eu at h5
  rw[show iEq (ig c.1) 0=false by rw[iT];omega]at h5
  have h5:(iLe 1 c.2.2.2.2.1&&iLe c.2.2.2.2.1 (ig c.1))=true:=h5
  rw[dR,gG,gG]at h5
  have:=QZ c.1
  omega
def clT(c:DS1):List aB:=[nmT (kwS c.1),nmT c.2.1,mkT (bs [58])]++(cond (iLt 0 (ig c.1)) [nuT c.2.2.2.2.1,nmT (bs [119,104,101,110])] []++(tk c.2.2.1++(bk c.2.2.2.1++[mkT (bs [59])])))
theorem Vv{c:DS1}(h:iH c=true):∀t∈clT c,jK t:=λt ht=>by
 obtain⟨h1,h2,h3,h4,h5⟩:=Q9 h
 unfold clT at ht
 simp only[aH,bE,bY,or_false]at ht
 rcases ht with(rfl|rfl|rfl)|q|q|q|rfl
 .exact(tL (P8 h1).2.2).1
 .exact(tL h2).1
 .exact(qK (by simp[mkL])).1
 .cases hc:iLt 0 (ig c.1)<;>rw[hc]at q
  .cases q
  .rw[bQ]at hc
   have:=h5 hc
   rcases bE.1 q with rfl|q
   .exact(Ud (by omega) (by omega)).1
   .rw[aY.1 q];exact(tL rfl).1
 .exact((vN h3).2 t q).1
 .exact(a4m 16 _ h4.1 t q).1
 .exact(qK (by simp[mkL])).1
theorem Q7{c:DS1}(hx:XCl c)(h:iH c=true):m72 c=some (clT c,()):=by
 obtain⟨h1,h2,h3,h4,h5⟩:=Q9 h
 obtain⟨x1,x2⟩:=hx
 have htk:=(vN h3).1
 have hbl:=BM 16 _ h4.1
 have hbl:(bk c.2.2.2.1).length<=_:=hbl
 refine T.eq ?_
 unfold m72
 refine T.aU (P8 h1).2.1 (T.aU (show m73 _=some (nmT (kwS c.1),()) from rfl) (T.aU (show m73 _=some (nmT c.2.1,()) from rfl) (T.aU (show m74 _=some (mkT (bs [58]),()) from rfl) ?_)))
 refine T.join (λj=>j=(c.1,c.2.1,c.2.2.1.1,c.2.2.1.2.1,c.2.2.1.2.2.1,c.2.2.1.2.2.2.1,c.2.2.1.2.2.2.2.1,c.2.2.1.2.2.2.2.2.1,c.2.2.2.1,c.2.2.2.2.1,[nmT (kwS c.1),nmT c.2.1,mkT (bs [58])]++cond (iLt 0 (ig c.1)) [nuT c.2.2.2.2.1,nmT (bs [119,104,101,110])] [],())) ?_ ?_
 .refine T.aU (Bt c.1) (T.cnd (λq=>T.aU (show OW _=some (nuT c.2.2.2.2.1,()) from rfl) (T.aU (show m73 _=some (nmT (bs [119,104,101,110]),()) from rfl) (T.grd rfl (T.jgo (by rw[show iLt 0 (ig c.1)=true from q];rfl))))) (λq=>T.jgo (by rw[show iLt 0 (ig c.1)=false from q];rfl)))
 .rintro _ rfl
  have hp:([nmT (kwS c.1),nmT c.2.1,mkT (bs [58])]++cond (iLt 0 (ig c.1)) [nuT c.2.2.2.2.1,nmT (bs [119,104,101,110])] []).length<=5:=by cases iLt 0 (ig c.1)<;>simp
  have he:clT c=([nmT (kwS c.1),nmT c.2.1,mkT (bs [58])]++cond (iLt 0 (ig c.1)) [nuT c.2.2.2.2.1,nmT (bs [119,104,101,110])] [])++(tk c.2.2.1++(bk c.2.2.2.1++[mkT (bs [59])])):=by unfold clT;simp only[aQ]
  generalize [nmT (kwS c.1),nmT c.2.1,mkT (bs [58])]++cond (iLt 0 (ig c.1)) [nuT c.2.2.2.2.1,nmT (bs [119,104,101,110])] []=p at hp he
  dsimp only
  refine T.aU (Wn (e:=c.2.2.1) x1 h3 (by omega)) (T.aU (a6H x2 h4.1 h4.2 (by simp;omega)) (T.aU (show m74 _=some (mkT (bs [59]),()) from rfl) (T.grd (iG (by simp;omega)) (T.ret ?_))))
  rw[he];simp only[aQ]
def hrT(n:Int):aB:=(3,bs [],n,0,())
def enL(x:DS3):List (List aB):=[[nmT (bs [101,110,100,111,114,115,101]),hrT x.1.1,nmT (bs [116,111]),hrT x.1.2.1,mkT (bs [58])]]++cond (iLt 0 (aD x.2.1)) [nmT (bs [114,101,109,111,118,101])::(jP x.2.1++[mkT (bs [59])])] []++(List.map clT x.2.2.1++[[nmT (bs [101,110,100]),mkT (bs [59])]])
def uK(w:DS4):List (List aB):=List.map clT w.1++(List.map enL w.2.1).flatten
theorem IW{x:DS3}(h:oD x=true):(0<=x.1.1/\x.1.1<=876599/\0<=x.1.2.1/\x.1.2.1<=876599)/\List.length (α:=ByteArray) x.2.1<=40/\(∀s∈(show List ByteArray from x.2.1),lX s=true)/\List.length (α:=DS1) x.2.2.1<=40/\∀c∈(show List DS1 from x.2.2.1),iH c=true:=by
 unfold oD zN lM at h
 simp only[dR,xU,gG,bQ,dV]at h
 obtain⟨⟨h1,h2⟩,⟨h3,_⟩,h4,h5⟩:=h
 exact⟨by omega,h2,λs hs=>(dR.mp (aG.1 h3 s hs)).1,h4,aG.1 h5⟩
theorem IK{n m:Nat}(h:n+m<=1000000000):fits (n+m) 24=true:=by rw[jh];omega
theorem a6q{x:DS3}(h:oD x=true):(enL x).length<=43:=by
 have:=(IW h).2.2.2.1
 have e:(cond (iLt 0 (aD x.2.1)) [nmT (bs [114,101,109,111,118,101])::(jP x.2.1++[mkT (bs [59])])] ([]:List (List aB))).length<=1:=by cases iLt 0 (aD x.2.1)<;>simp
 unfold enL
 simp only[ak,bN,aT];omega
theorem Kl:∀(a:List DS3),(∀x∈a,oD x=true)->((List.map enL a).flatten).length<=43*a.length
 |[],_=>dG _
 |x::a,h=>by
  have h1:=a6q (h x (by simp))
  have h2:=Kl a λy hy=>h y (by simp[hy])
  rw[bL,List.flatten_cons,ak,bf];omega
theorem a5M{w:DS4}(hx:XW w)(h:kL w=true):m43 w=some (uK w,()):=by
 obtain⟨cls,ens,⟨⟩⟩:=w
 unfold kL lM at h
 simp only[dR,dV]at h
 obtain⟨h1,⟨h2,h3⟩,h4⟩:=h
 have h3:=aG.1 h3
 have h4:=aG.1 h4
 obtain⟨x1,x2⟩:=hx
 dsimp only at h1 h2 h3 h4 x1 x2
 have hc:=aX cls
 have he:=aX ens
 refine T.eq ?_
 unfold m43 uK
 dsimp only
 refine T.loop (λq=>∃a b,cls=a++b/\q=((a.length:Int),cls,ens,List.map clT a,())) (λq=>cls.length-q.1.toNat) ⟨[],cls,rfl,rfl⟩ ?_
 rintro _ ⟨a,b,hab,rfl⟩
 dsimp only
 have hal:a.length<=40:=by have:=dO List.length hab;rw[ak]at this;omega
 refine T.cnd (λhq=>?_) (λhq=>?_)<;>simp only[bQ,dh]at hq
 .obtain⟨c,d,rfl,hab⟩:=lF hab (by omega)
  have hm:c∈cls:=by rw[hab];simp
  refine T.grd (by rw[bV];omega) ?_
  rw[mG hab]
  refine T.aU (Q7 (x1 c hm) (h3 c hm)) (T.grd (IK (by simp;omega)) ?_)
  rw[add_one (x:=c) (by omega)]
  refine T.go ⟨a++[c],d,by rw[hab,aQ];rfl,by rw[bJ];rfl⟩ (by dsimp only;rw[ak,aT];omega)
 obtain rfl:=kQ hab (by omega)
 refine T.iD (T.loop (λq=>∃a b,ens=a++b/\q=((a.length:Int),cls,ens,List.map clT cls++(List.map enL a).flatten,())) (λq=>ens.length-q.1.toNat) ⟨[],ens,rfl,by simp⟩ ?_)
 rintro _ ⟨a,b,hab,rfl⟩
 dsimp only
 have hal:a.length<=12:=by have:=dO List.length hab;rw[ak]at this;omega
 refine T.cnd (λhq=>?_) (λhq=>?_)<;>simp only[bQ,dh]at hq
 .obtain⟨x,d,rfl,hab⟩:=lF hab (by omega)
  have hm:x∈ens:=by rw[hab];simp
  obtain⟨e1,e2,e3,e4,e5⟩:=IW (h4 x hm)
  have hfl:=Kl a λy hy=>h4 y (by rw[hab];simp[hy])
  refine T.grd (by rw[bV];omega) ?_
  rw[mG hab]
  have hxe:=x2 x hm
  have hol:(List.map clT cls++(List.map enL a).flatten).length<=600:=by rw[ak,bN];omega
  have hsn:List.map clT cls++(List.map enL (a++[x])).flatten=List.map clT cls++(List.map enL a).flatten++([[nmT (bs [101,110,100,111,114,115,101]),hrT x.1.1,nmT (bs [116,111]),hrT x.1.2.1,mkT (bs [58])]]++cond (iLt 0 (aD x.2.1)) [nmT (bs [114,101,109,111,118,101])::(jP x.2.1++[mkT (bs [59])])] [])++(List.map clT x.2.2.1++[[nmT (bs [101,110,100]),mkT (bs [59])]]):=by
   rw[bJ,List.flatten_append]
   show _++(_++(enL x++[]))=_
   unfold enL
   simp only[aQ,cu]
  obtain⟨⟨p,q,⟨⟩⟩,rm,xc,⟨⟩⟩:=x
  obtain⟨_,x3⟩:=hxe
  dsimp only at e1 e2 e3 e4 e5 hsn x3 ⊢
  generalize List.map clT cls++(List.map enL a).flatten=out at hol hsn
  refine T.aU (show m73 _=some (nmT (bs [101,110,100,111,114,115,101]),()) from rfl) (T.aU (show m73 _=some (nmT (bs [116,111]),()) from rfl) (T.aU (show m74 _=some (mkT (bs [58]),()) from rfl) (T.grd (IK (by simp;omega)) ?_)))
  refine T.join (λj=>j=((a.length:Int),cls,ens,out++([[nmT (bs [101,110,100,111,114,115,101]),hrT p,nmT (bs [116,111]),hrT q,mkT (bs [58])]]++cond (iLt 0 (aD rm)) [nmT (bs [114,101,109,111,118,101])::(jP rm++[mkT (bs [59])])] []),p,q,rm,xc,())) (T.cnd (λz=>?_) (λz=>T.jgo (by rw[z];rfl))) ?_
  .have hw:=wV rm
   refine T.aU (show m73 _=some (nmT (bs [114,101,109,111,118,101]),()) from rfl) (T.aU (P6 rm _ (by omega) (by simp)) (T.aU (show m74 _=some (mkT (bs [59]),()) from rfl) (T.grd (iG (by simp;omega)) (T.grd (IK (by simp;omega)) (T.jgo (by rw[z];simp;exact⟨rfl,rfl⟩))))))
  .rintro _ rfl
   have hbl:(out++([[nmT (bs [101,110,100,111,114,115,101]),hrT p,nmT (bs [116,111]),hrT q,mkT (bs [58])]]++cond (iLt 0 (aD rm)) [nmT (bs [114,101,109,111,118,101])::(jP rm++[mkT (bs [59])])] [])).length<=602:=by
    have:(cond (iLt 0 (aD rm)) [nmT (bs [114,101,109,111,118,101])::(jP rm++[mkT (bs [59])])] ([]:List (List aB))).length<=1:=by cases iLt 0 (aD rm)<;>simp
    rw[ak,ak,aT];omega
   generalize out++([[nmT (bs [101,110,100,111,114,115,101]),hrT p,nmT (bs [116,111]),hrT q,mkT (bs [58])]]++cond (iLt 0 (aD rm)) [nmT (bs [114,101,109,111,118,101])::(jP rm++[mkT (bs [59])])] [])=base at hsn hbl
   have hxl:=aX xc
   dsimp only
   refine T.loop (λz=>∃c d,xc=c++d/\z=((a.length:Int),(c.length:Int),cls,ens,base++List.map clT c,p,q,rm,xc,())) (λz=>xc.length-z.2.1.toNat) ⟨[],xc,rfl,by simp⟩ ?_
   rintro _ ⟨c,e,hce,rfl⟩
   dsimp only
   have hcl:c.length<=40:=by have:=dO List.length hce;rw[ak]at this;omega
   refine T.cnd (λhq=>?_) (λhq=>?_)<;>simp only[bQ,dh]at hq
   .obtain⟨y,f,rfl,hce⟩:=lF hce (by omega)
    have hy:y∈xc:=by rw[hce];simp
    refine T.grd (by rw[bV];omega) ?_
    rw[mG hce]
    refine T.aU (Q7 (x3 y hy) (e5 y hy)) (T.grd (IK (by simp;omega)) ?_)
    rw[add_one (x:=y) (by omega)]
    refine T.go ⟨c++[y],f,by rw[hce,aQ];rfl,by rw[bJ,aQ];rfl⟩ (by dsimp only;rw[ak,aT];omega)
   .obtain rfl:=kQ hce (by omega)
    refine T.iD (T.aU (show m73 _=some (nmT (bs [101,110,100]),()) from rfl) (T.aU (show m74 _=some (mkT (bs [59]),()) from rfl) (T.grd (IK (by simp;omega)) ?_)))
    rw[add_one (x:=((p,q,()),rm,xc,())) (by omega)]
    refine T.go ⟨a++[((p,q,()),rm,xc,())],d,by rw[hab,aQ];rfl,?_⟩ (by dsimp only;rw[ak,aT];omega)
    rw[hsn,aQ]
 .obtain rfl:=kQ hab (by omega)
  exact T.out rfl
def stp(s:Option (List Int×Nat))(l:List aB):Option (List Int×Nat) :=
 s.bind λp=>if 4000<p.2+l.length\/16384<p.1.length+(Jr none l).length+1 then none else some (p.1++Jr none l++[10],p.2+l.length)
def fold(ls:List (List aB)):Option (List Int×Nat):=ls.foldl stp (some ([],0))
def a1k:Option (List Int×Nat)->ByteArray×Int×Unit
 |none=>(bs [],4,())
 |some p=>(bsI p.1,0,())
theorem NI:∀l:List (List aB),l.foldl stp none=none
 |[]=>rfl
 |_::l=>NI l
theorem Yo(a:List (List aB))(x:List aB):fold (a++[x])=stp (fold a) x:=by unfold fold;rw[iX];rfl
theorem Yp{a b:List (List aB)}(h:fold a=none):fold (a++b)=none:=by unfold fold at *;rw[iX,h];exact NI b
theorem a8z:∀(l:List ByteArray),(∀s∈l,lX s=true)->∀t∈jP l,jK t:=λl h=>Bo (λt ht=>by rw[aY.1 ht];exact(qK (by simp[mkL])).1) l false λs hs t ht=>by rw[aY.1 ht];exact(tL (h s hs)).1
theorem a4d{x:DS3}(h:oD x=true):∀l∈enL x,∀t∈l,jK t:=λl hl t ht=>by
 obtain⟨e1,e2,e3,e4,e5⟩:=IW h
 have hr:∀n:Int,0<=n->n<=876599->jK (hrT n):=λn a b=>.inr (.inr (.inl ⟨rfl,rfl,a,b⟩))
 unfold enL at hl
 rw[aH,aH]at hl
 rcases hl with(hl|hl)|hl
 .rw[aY.1 hl]at ht
  simp only[bE,bY,or_false]at ht
  rcases ht with rfl|rfl|rfl|rfl|rfl
  .exact(tL rfl).1
  .exact hr _ e1.1 e1.2.1
  .exact(tL rfl).1
  .exact hr _ e1.2.2.1 e1.2.2.2
  .exact(qK (by simp[mkL])).1
 .cases hc:iLt 0 (aD x.2.1)<;>rw[hc]at hl
  .cases hl
  .rw[aY.1 hl]at ht
   rcases bE.1 ht with rfl|ht
   .exact(tL rfl).1
   .rcases aH.1 ht with ht|ht
    .exact a8z _ e3 t ht
    .rw[aY.1 ht];exact(qK (by simp[mkL])).1
 .rcases aH.1 hl with hl|hl
  .obtain⟨c,hc,rfl⟩:=bT.1 hl
   exact Vv (e5 c hc) t ht
  .rw[aY.1 hl]at ht
   simp only[bE,bY,or_false]at ht
   rcases ht with rfl|rfl
   .exact(tL rfl).1
   .exact(qK (by simp[mkL])).1
theorem Tf{w:DS4}(h:kL w=true):List.length (α:=DS3) w.2.1<=12/\List.length (α:=DS1) w.1<=40/\(∀c∈(show List DS1 from w.1),iH c=true)/\∀x∈(show List DS3 from w.2.1),oD x=true:=by
 unfold kL lM at h
 simp only[dR,dV]at h
 exact⟨h.1,h.2.1.1,aG.1 h.2.1.2,aG.1 h.2.2⟩
theorem a1W{w:DS4}(h:kL w=true):∀l∈uK w,∀t∈l,jK t:=λl hl=>by
 obtain⟨_,_,h3,h4⟩:=Tf h
 rcases aH.1 hl with hl|hl
 .obtain⟨c,hc,rfl⟩:=bT.1 hl
  exact Vv (h3 c hc)
 .obtain⟨x,hx,hl⟩:=List.mem_flatten.1 hl
  obtain⟨y,hy,rfl⟩:=bT.1 hx
  exact a4d (h4 y hy) l hl
theorem Y4{w:DS4}(h:kL w=true):(uK w).length<=600:=by
 obtain⟨h1,h2,_,h4⟩:=Tf h
 have:_<=43*List.length (α:=DS3) w.2.1:=Kl w.2.1 h4
 unfold uK
 rw[ak,bN];omega
theorem a2n{w:DS4}(hx:XW w):m20 w=some (cond (kL w) (a1k (fold (uK w))) (bs [],5,())):=by
 refine T.eq ?_
 unfold m20
 refine T.aU (KI w hx) ?_
 dsimp only
 cases hv:kL w with
 |false=>exact T.ct rfl (T.ret rfl)
 |true =>
 have hk:=a1W hv
 have hn:=Y4 hv
 refine T.cf rfl (T.aU (a5M hx hv) ?_)
 dsimp only
 generalize uK w=ls at hk hn ⊢
 have hL:=aX ls
 refine T.loop (λq=>∃(a b:List (List aB)) (o:ByteArray) (n:Nat),ls=a++b/\fold a=some (bS o,n)/\n<=4000/\o.size<=16384/\q=(ls,o,(n:Int),(a.length:Int),())) (λq=>ls.length-q.2.2.2.1.toNat) ⟨[],ls,bs [],0,rfl,rfl,by omega,by decide,rfl⟩ ?_
 rintro _ ⟨a,b,o,n,hab,hf,hn4,ho,rfl⟩
 dsimp only
 have hal:a.length<=600:=by have:=dO List.length hab;rw[ak]at this;omega
 refine T.cnd (λhq=>?_) (λhq=>?_)<;>simp only[bQ,dh]at hq
 .obtain⟨l,d,rfl,hab⟩:=lF hab (by omega)
  have hkl:=hk l (by rw[hab];simp)
  have hb:=bV.mpr (show(0:Int)<=(a.length:Int)/\(a.length:Int)<aD ls by omega)
  have hat:atI ls (a.length:Int) []=l:=mG hab
  refine T.grd hb (T.grd hb ?_)
  rw[hat]
  refine T.aU (b05 l hkl) ?_
  have hJ:=(BP l none hkl).2
  have hs:fold (a++[l])=_:=(Yo a l).trans (dO (λs=>stp s l) hf)
  have bad:stp (some (bS o,n)) l=none->T (some (Sum.inr (α:=List (List aB)×ByteArray×Int×Int×Unit) ((bs [],4,()):ByteArray×Int×Unit))) (LQ (λq=>∃(a b:List (List aB)) (o:ByteArray) (n:Nat),ls=a++b/\fold a=some (bS o,n)/\n<=4000/\o.size<=16384/\q=(ls,o,(n:Int),(a.length:Int),())) (λq=>ls.length-q.2.2.2.1.toNat) (ls.length-(a.length:Int).toNat) (λx=>x=cond true (a1k (fold ls)) (bs [],5,()))):=λq=>T.out (by
   have:fold ls=none:=by rw[hab,show a++l::d=(a++[l])++d by simp];exact Yp (hs.trans q)
   rw[this];rfl)
  have hln:=aX l
  have hol:=ni o
  have hbl:=ji o
  unfold wm
  by_cases hj:4000<l.length\/16384<(Jr none l).length
  .rw[if_pos hj]
   exact T.ct rfl (bad (if_pos (by dsimp only;omega)))
  .rw[if_neg hj]
   dsimp only
   have hz:(bsI (Jr none l)).size=(Jr none l).length:=by rw[<- ji,Aa hJ]
   have hzl:=ni (bsI (Jr none l))
   rw[bC (by omega) (by omega),bC (a:=sLen o) (by omega) (by omega),bC (by omega) (by omega)]
   refine T.cnd (λh2=>bad (if_pos ?_)) (λh2=>?_)
   .rw[l5,l5,nG,bQ,bQ]at h2;dsimp only;omega
   .rw[nu,nu,yh,dh,dh]at h2
    have s1:(bs [10]).size=1:=rfl
    have hg:stp (some (bS o,n)) l=some (bS (dx (dx o (bsI (Jr none l))) (bs [10])),n+l.length):=by
     refine(if_neg (by dsimp only;omega)).trans ?_
     rw[uN,uN,Aa hJ];rfl
    refine T.grd (qZ (by omega)) (T.grd (qZ (by rw[pI];omega)) (T.go ⟨a++[l],d,_,n+l.length,by rw[hab];simp,hs.trans hg,by omega,by rw[pI,pI];omega,?_⟩ (by dsimp only;rw[bC (by omega) (by omega)];omega)))
    rw[add_one (x:=l) (by omega),show(n:Int)+aD l=((n+l.length:Nat):Int) by omega]
 .obtain rfl:=kQ hab (by omega)
  exact T.out (by rw[hf];show _=(bsI (bS o),0,());rw[YR])
def un(q:Int×ByteArray×Int):aB:=(q.1,q.2.1,q.2.2,0,())
theorem VP:∀(l:List aB) (p:Option aB),Jr p l=Jr (p.map λt=>un (strip t)) ((l.map strip).map un)
 |[],_=>rfl
 |t::l,p=>by
  have h:sp p t=sp (p.map λt=>un (strip t)) (un (strip t)):=by cases p<;>rfl
  show sp p t++(bS (tT t)++Jr (some t) l)=sp _ (un (strip t))++(bS (tT t)++Jr (some (un (strip t))) ((l.map strip).map un))
  rw[h,VP l (some t)];rfl
theorem b46{l w:List aB}(h:l.map strip=w.map strip):Jr none l=Jr none w:=by rw[VP l,VP w,h]
theorem len_eq{l w:List aB}(h:l.map strip=w.map strip):l.length=w.length:=by have:=dO List.length h;simpa using this
theorem join_eq{l w:List aB}(h:l.map strip=w.map strip):wm l=wm w:=by unfold wm;rw[b46 h,len_eq h]
theorem ok_eq{l w:List aB}(h:l.map strip=w.map strip)(ok:∀t∈w,jK t):∀t∈l,jK t:=λt ht=>by
 have:strip t∈w.map strip:=by rw[<- h];exact List.mem_map_of_mem ht
 obtain⟨u,hu,e⟩:=bT.1 this
 have a:jK (un (strip u)):=ok u hu
 rw[e]at a
 exact a
theorem b45(p:Option aB):∀l:List aB,(Jr none l).length<=(Jr p l).length
 |[]=>dG _
 |t::l=>by
  show(bS (tT t)++Jr (some t) l).length<=(sp p t++(bS (tT t)++Jr (some t) l)).length
  simp only[ak];omega
def bad(w:List aB):Prop:=4000<w.length\/16384<(Jr none w).length
theorem P9{w:List aB}(h:bad w):wm w=(bs [],4,()):=if_pos h
theorem Ll{w:List aB}(h:¬bad w):wm w=(bsI (Jr none w),0,()):=if_neg h
theorem Kw{w:List aB}(r:List aB)(h:bad w):bad (w++r):=by
 unfold bad at *;rw[Jg,ak,ak];omega
theorem YV{r:List aB}(w:List aB)(h:bad r):bad (w++r):=by
 unfold bad at *;rw[Jg,ak,ak]
 have:=b45 (lastT none w) r
 omega
def WL(st:Option (List Int×Nat))(w:List aB)(a b:Int)(c:List Int)(l:List aB):Prop :=
 l.length<=w.length/\((st=none/\b=4)\/∃tx n,st=some (tx,n)/\(a=(n:Int)/\c=tx/\n<=4000/\tx.length<=16384)/\((b=0/\l.map strip=w.map strip)\/(bad w/\(b=4\/(b=0/\4000<l.length)))))
theorem WL.app{st:Option (List Int×Nat)}{w l l' r:List aB}{a b:Int}{c:List Int}(h:WL st w a b c l)(e:l'.map strip=r.map strip):WL st (w++r) a b c (l++l'):=by
 have e2:=len_eq e
 refine⟨by rw[ak,ak];have:=h.1;omega,?_⟩
 rcases h.2 with h|⟨tx,n,h1,h2,⟨h3,h4⟩|⟨h3,h4⟩⟩
 .exact .inl h
 .exact .inr ⟨tx,n,h1,h2,.inl ⟨h3,by rw[bJ,bJ,h4,e]⟩⟩
 .exact .inr ⟨tx,n,h1,h2,.inr ⟨Kw _ h3,h4.imp id λq=>⟨q.1,by rw[ak];omega⟩⟩⟩
theorem a3e(a b:Int)(ws:List ByteArray)(c:List Int)(l:List aB)(h:l.length+ws.length<=1000000):vZ a b ws c l=some (a,b,ws,c,l++ws.map nmT,()):=by
 refine T.eq ?_
 have hL:=aX ws
 unfold vZ
 refine T.loop (λq=>∃x y,ws=x++y/\q=(aD ws,(x.length:Int),a,b,ws,c,l++x.map nmT,())) (λq=>ws.length-q.2.1.toNat) ⟨[],ws,rfl,by simp⟩ ?_
 rintro _ ⟨x,y,hxy,rfl⟩
 dsimp only
 have hxl:ws.length=x.length+y.length:=by rw[hxy,ak]
 refine T.cnd (λhq=>?_) (λhq=>?_)<;>simp only[bQ,dh]at hq
 .obtain⟨s,d,rfl,hab⟩:=lF hxy (by omega)
  have hg:List.getD ws (Int.toNat (x.length:Int)) ByteArray.empty=s:=mG hab
  refine T.grd (by rw[bV];omega) (T.grd (by unfold inB;rw[dV];omega) ?_)
  rw[hg]
  refine T.grd (iG (by simp;omega)) (T.go ⟨x++[s],d,by rw[hab];simp,?_⟩ (by dsimp only;rw[bC (by omega) (by omega)];omega))
  rw[add_one (x:=s) (by omega),bJ,aQ];rfl
 .obtain rfl:=kQ hxy (by omega)
  exact T.out rfl
theorem a3f(a b:Int)(ws:List ByteArray)(c:List Int)(h:ws.length<=1000000):m38 a b ws c=some (a,b,ws,c,ws.map nmT,()):=(show m38 a b ws c=vZ a b ws c [] from rfl).trans (a3e a b ws c [] (by simpa using h))
theorem uI(s:ByteArray)(a b:Int)(c:List Int)(l:List aB)(h:l.length<=1000000):m40 s a b c l=some (a,b,c,l++[mkT s],()):=T.eq (T.grd (iG (by simp;omega)) (T.ret rfl))
theorem Yk(n a b:Int)(c:List Int)(l:List aB)(h:l.length<=1000000):m39 n a b c l=some (a,b,c,l++[hrT n],()):=T.eq (T.grd (iG (by simp;omega)) (T.ret rfl))
theorem a4S{e:DS0}(hx:XX e)(h:jf e=true):UJ e=some (wm (tk e)):=by
 refine T.eq ?_
 unfold UJ
 refine T.aU (PL _ hx) (T.cf ?_ (T.aU (a8F hx h) (T.aU (Y8 _ λt ht=>((vN h).2 t ht).1) (T.ret rfl))))
 show(not (jf e))=false
 rw[h];rfl
theorem Wi{st:Option (List Int×Nat)}{w l:List aB}{a b:Int}{c:List Int}{e:DS0}(hx:XX e)(h:jf e=true)(hw:WL st w a b c l):T (m66 e a b c l) (λs=>WL st (w++tk e) s.1 s.2.1 s.2.2.1 s.2.2.2.1):=by
 obtain⟨hl,hw⟩:=hw
 have hL:=aX l
 have htk:=(vN h).1
 have hl2:l.length<=(w++tk e).length:=by rw[ak];omega
 unfold m66
 refine T.cnd (λhc=>T.ret ⟨hl2,?_⟩) (λhc=>?_)
 .rw[l5,nG,bQ]at hc
  rcases hw with hw|⟨tx,n,h1,h2,⟨h3,h4⟩|⟨h3,h4⟩⟩
  .exact .inl hw
  .have:=len_eq h4
   exact .inr ⟨tx,n,h1,h2,.inr ⟨Kw _ (.inl (by omega)),.inr ⟨h3,by dsimp only;omega⟩⟩⟩
  .exact .inr ⟨tx,n,h1,h2,.inr ⟨Kw _ h3,h4⟩⟩
 .rw[nu,yh,dh]at hc
  rcases hw with hw|⟨tx,n,h1,h2,⟨h3,h4⟩|⟨h3,h4⟩⟩
  .omega
  .refine T.aU (a4S (e:=e) hx h) ?_
   by_cases hj:bad (tk e)
   .rw[P9 hj]
    exact T.ct rfl (T.ret ⟨hl2,.inr ⟨tx,n,h1,h2,.inr ⟨YV _ hj,.inl rfl⟩⟩⟩)
   .rw[Ll hj]
    unfold bad at hj
    refine T.cf rfl (T.call (WX _ (vN h).2 (by omega) (by omega)) (λy hy=>T.cf (by rw[hy.1];rfl) ?_))
    have hy2:=len_eq hy.2
    refine T.grd (iG (by omega)) (T.ret ⟨?_,.inr ⟨tx,n,h1,h2,.inl ⟨h3,?_⟩⟩⟩)
    .dsimp only;rw[ak,ak];omega
    .dsimp only;rw[bJ,bJ,h4,hy.2]
  .omega
theorem MJ{st:Option (List Int×Nat)}{w l:List aB}{a b:Int}{c:List Int}(ok:∀t∈w,jK t)(hl:w.length<=990000)(hw:WL st w a b c l):T (m41 a b c l) (λs=>WL (stp st w) [] s.1 s.2.1 s.2.2.1 []):=by
 obtain⟨hlw,hw⟩:=hw
 have hL:=aX l
 have no:∀{tx:List Int} {n:Nat},bad w->stp (some (tx,n)) w=none:=fun{tx n} q=>if_pos (by unfold bad at q;dsimp only;omega)
 unfold m41
 refine T.cnd (λhc=>T.ret ⟨dG _,.inl ?_⟩) (λhc=>?_)
 .rw[nG]at hc
  rcases hw with⟨rfl,h⟩|⟨tx,n,rfl,h2,⟨h3,h4⟩|⟨h3,h4⟩⟩
  .exact⟨rfl,h⟩
  .omega
  .exact⟨no h3,by dsimp only;omega⟩
 .rw[yh]at hc
  rcases hw with⟨rfl,h⟩|⟨tx,n,rfl,⟨h1,h2,h5,h6⟩,⟨h3,h4⟩|⟨h3,h4⟩⟩
  .omega
  .subst h2 h1 h3
   refine T.aU ((Y8 l (ok_eq h4 ok)).trans (by rw[join_eq h4])) ?_
   have hJ:=BP w none ok
   by_cases hj:bad w
   .rw[P9 hj]
    exact T.ct rfl (T.ret ⟨dG _,.inl ⟨no hj,rfl⟩⟩)
   .rw[Ll hj]
    unfold bad at hj
    have hz:=Aa hJ.2
    have hle:=len_eq h4
    refine T.cf rfl (T.call (P:=λy=>y=(sLen (bsI (Jr none w)),(n:Int),0,c++Jr none w,())) ?_ ?_)
    .unfold Ul EY
     exact T.bind (T.ret (T.grd (by rw[jh];dsimp only;rw[hz];omega) (T.ret (by dsimp only;rw[hz]))))
    rintro _ rfl
    refine T.call (P:=λy=>y=((n:Int),0,c++Jr none w++[10],())) ?_ ?_
    .unfold Uk EY
     exact T.bind (T.ret (T.grd (by rw[jh,aT];dsimp only;rw[ak];omega) (T.ret rfl)))
    rintro _ rfl
    have hT:=aX (c++Jr none w++[10])
    rw[ak,ak,aT]at hT
    refine T.aU (show Uj _ _ _=some (aD (c++Jr none w++[10]),aN .i64 (n:Int) (aD l),0,c++Jr none w++[10],()) from rfl) ?_
    have hsum:aN .i64 (n:Int) (aD l)=((n+w.length:Nat):Int):=by rw[bC (by omega) (by omega)];omega
    dsimp only
    rw[hsum]
    refine T.cnd (λh7=>T.ret ⟨dG _,.inl ⟨if_pos ?_,rfl⟩⟩) (λh7=>T.ret ⟨dG _,.inr ⟨_,_,if_neg ?_,⟨rfl,rfl,?_,?_⟩,.inl ⟨rfl,rfl⟩⟩⟩)
    .rw[l5,bQ,bQ]at h7;dsimp only;omega
    .rw[nu,dh,dh]at h7;dsimp only;omega
    .rw[nu,dh,dh]at h7;dsimp only;omega
    .rw[nu,dh,dh]at h7;dsimp only;rw[ak,ak,aT];omega
  .have hbig:4000<l.length:=by omega
   refine T.aU (show m68 l=some (bs [],4,()) from ?_) (T.ct rfl (T.ret ⟨dG _,.inl ⟨no h3,rfl⟩⟩))
   refine T.eq ?_
   unfold m68
   exact T.ct (by rw[bQ];omega) (T.ret rfl)
theorem T.all{ι α:Type}{o:Option α}{A:ι->Prop}{B:ι->α->Prop}(x:ι)(hx:A x)(h:∀x,A x->T o (B x)):T o (λv=>∀x,A x->B x v):=by
 obtain⟨v,hv,_⟩:=h x hx
 refine⟨v,hv,λy hy=>?_⟩
 obtain⟨u,hu,q⟩:=h y hy
 rw[hv]at hu
 obtain rfl:=aJ hu
 exact q
abbrev GW:=Option (List Int×Nat)×List aB
abbrev YU:=List AV×Int×Int×List Int×List aB×Unit
abbrev ZU:=Int×Int×List Int×List aB×Unit
def PU(n:Nat)(y:YU)(g:GW):Prop:=∃k,n=k+1/\BB y.1/\okB k y.1=true/\g.2.length+13000*cnB k y.1<=940000/\WL g.1 g.2 y.2.1 y.2.2.1 y.2.2.2.1 y.2.2.2.2.1
def QU(n:Nat)(y:YU)(g:GW)(z:ZU):Prop:=WL g.1 (g.2++bkT n y.1) z.1 z.2.1 z.2.2.1 z.2.2.2.1
theorem Jq(a b:Int)(s:ByteArray)(c:List Int)(l:List aB)(h:l.length<=990000):vZ a b [s] c l=some (a,b,[s],c,l++[nmT s],()):=a3e a b [s] c l (by rw[aT];omega)
theorem a0x{F:Nat}{x:YU}(h:∃g,PU F x g):T (eT (λself (x:YU)=>Uh self x.1 x.2.1 x.2.2.1 x.2.2.2.1 x.2.2.2.2.1) F x) (λz=>∀g,PU F x g->QU F x g z):=by
 refine T.iter (λn y=>∃g,PU n y g) (λn y z=>∀g,PU n y g->QU n y g z) (λn x h self hs=>?_) (λx h=>by obtain⟨g,k,q,_⟩:=h;cases q) F x h
 obtain⟨g,hg⟩:=h
 refine T.all g hg λg h=>?_
 clear hg
 obtain⟨l,a,b,c,ln,⟨⟩⟩:=x
 obtain⟨st,w⟩:=g
 obtain⟨k,hk,hb,hok,hl,hw⟩:=h
 obtain rfl:n=k:=by omega
 have hA:=hb.out
 dsimp only at hA hok hl hw
 have hL:=aX l
 unfold Uh
 dsimp only
 refine T.cnd (λhc=>T.ret ?_) (λhc=>?_)
 .rw[lK,hL]at hc
  have:l=[]:=bW.1 (by omega)
  unfold QU
  dsimp only
  rw[this,Jb,cu];exact hw
 have hc':iEq (l.length:Int) 0=false:=hc
 cases n with
 |zero=>rw[JH hok]at hc;cases hc
 |succ k =>
 have hwl:=hw.1
 refine T.aU (Jq _ _ _ _ _ (by omega)) (T.grd rfl (T.aU (uI _ _ _ _ _ (by simp;omega)) ?_))
 have hw1:WL st (w++[nmT (bs [117,110,108,101,115,115]),mkT (bs [40])]) a b c (ln++[nmT (bs [117,110,108,101,115,115])]++[mkT (bs [40])]):=by rw[aQ];exact hw.app rfl
 generalize hpre:w++[nmT (bs [117,110,108,101,115,115]),mkT (bs [40])]=pre at hw1
 have hpl:pre.length=w.length+2:=by rw[<- hpre];simp
 have hq:QU (k+1+1) (l,a,b,c,ln,()) (st,w)=λz=>WL st (pre++(eU [mkT (bs [44])] (wbT (bkT (k+1))) false l++[mkT (bs [41])])) z.1 z.2.1 z.2.2.1 z.2.2.2.1:=by
  funext z
  unfold QU bkT
  dsimp only
  rw[hc',<- hpre,aQ];rfl
 rw[hq]
 refine T.loop (λq=>∃x y a b c ln,l=x++y/\WL st (pre++eU [mkT (bs [44])] (wbT (bkT (k+1))) false x) a b c ln/\q=(l,aD l,(x.length:Int),a,b,c,ln,())) (λq=>l.length-q.2.2.1.toNat) ⟨[],l,a,b,c,_,rfl,by simpa[eU]using hw1,rfl⟩ ?_
 clear hw hw1 hwl
 rintro _ ⟨x,y,a,b,c,ln,hab,hw,rfl⟩
 dsimp only
 refine T.cnd (λhc=>?_) (λhc=>?_)<;>simp only[bQ,dh]at hc
 .obtain⟨u,d,rfl,hab⟩:=lF hab (by omega)
  have hm:u∈l:=by rw[hab];simp
  obtain⟨g1,g2⟩:=QN hok hab hl
  obtain⟨a1,a2,a3⟩:=xD hok u hm
  obtain⟨_,b2,b3⟩:=hA.2 u hm
  have htk:=(vN a2).1
  have hg:=okg (λa h=>(hA.2 a h).1) (k:=(x.length:Int)) (l:=l) (by omega) (by omega)
  rw[ak]at g1
  have hat:atI l (x.length:Int) AV.any=u:=mG hab
  rw[hat]at hg
  have hwl:=hw.1
  rw[ak]at hwl
  refine T.grd ?_ ?_
  .rw[hat];exact hg
  rw[hat]
  refine T.join (λj=>∃a b c ln,WL st (pre++eU [mkT (bs [44])] (wbT (bkT (k+1))) false x++cond (iLt 0 (x.length:Int)) [mkT (bs [44])] []) a b c ln/\j=(l,aD l,(x.length:Int),a,b,c,ln,(bG u).1,(bG u).2.1.1,(bG u).2.1.2.1,(bG u).2.1.2.2.1,(bG u).2.1.2.2.2.1,(bG u).2.1.2.2.2.2.1,(bG u).2.1.2.2.2.2.2.1,(bG u).2.2.1,())) (T.cnd (λq=>T.aU (uI _ _ _ _ _ (by omega)) (T.jgo ⟨a,b,c,_,by rw[q];exact hw.app rfl,rfl⟩)) (λq=>T.jgo ⟨a,b,c,ln,by rw[q];simpa using hw,rfl⟩)) ?_
  clear hw hwl
  rintro _ ⟨a,b,c,ln,hw,rfl⟩
  have hsn:pre++eU [mkT (bs [44])] (wbT (bkT (k+1))) false (x++[u])=pre++eU [mkT (bs [44])] (wbT (bkT (k+1))) false x++cond (iLt 0 (x.length:Int)) [mkT (bs [44])] []++[nmT (bG u).1]++[mkT (bs [58])]++tk (bG u).2.1++bkT (k+1) (bG u).2.2.1:=by
   rw[sj];unfold wbT;simp
  have hol:(pre++eU [mkT (bs [44])] (wbT (bkT (k+1))) false x++cond (iLt 0 (x.length:Int)) [mkT (bs [44])] []).length+12990+13000*cnB k (bG u).2.2.1<=940000:=by
   have:(cond (iLt 0 (x.length:Int)) [mkT (bs [44])] ([]:List aB)).length<=1:=by cases iLt 0 (x.length:Int)<;>simp
   simp only[ak];omega
  generalize pre++eU [mkT (bs [44])] (wbT (bkT (k+1))) false x++cond (iLt 0 (x.length:Int)) [mkT (bs [44])] []=out at hsn hol hw
  have hwl:=hw.1
  dsimp only
  refine T.aU (Jq _ _ _ _ _ (by omega)) (T.grd rfl (T.aU (uI _ _ _ _ _ (by simp;omega)) (T.call (Wi (e:=(bG u).2.1) b2 a2 ((hw.app (l':=[nmT (bG u).1]) (r:=[nmT (bG u).1]) rfl).app (l':=[mkT (bs [58])]) (r:=[mkT (bs [58])]) rfl)) (λs hs1=>?_))))
  have hp:PU (k+1) ((bG u).2.2.1,s.1,s.2.1,s.2.2.1,s.2.2.2.1,()) (st,out++[nmT (bG u).1]++[mkT (bs [58])]++tk (bG u).2.1):=⟨k,rfl,b3,a3,by simp;omega,hs1⟩
  refine T.call (hs _ ⟨_,hp⟩) (λz hz=>?_)
  have hz:=hz _ hp
  rw[add_one (x:=u) (by omega)]
  refine T.go ⟨x++[u],d,z.1,z.2.1,z.2.2.1,z.2.2.2.1,by rw[hab,aQ];rfl,?_,rfl⟩ (by dsimp only;rw[ak,aT];omega)
  rw[hsn];exact hz
 .have he:=kQ hab (by omega)
  have hz:=BM (k+1) l hok
  unfold bkT at hz
  rw[hc']at hz
  have hz:([nmT (bs [117,110,108,101,115,115]),mkT (bs [40])]++(eU [mkT (bs [44])] (wbT (bkT (k+1))) false l++[mkT (bs [41])])).length<=_:=hz
  rw[ak,ak]at hz
  rw[<- he]at hw
  have hwl:=hw.1
  rw[ak]at hwl
  refine T.iD (T.aU (uI _ _ _ _ _ (by omega)) (T.ret ?_))
  rw[<- aQ];exact hw.app rfl
theorem a0y{st:Option (List Int×Nat)}{w ln l}{a b:Int}{c:List Int}(hb:BB l)(h:okB 16 l=true)(hc:cnB 16 l<=40)(ho:w.length<=20000)(hw:WL st w a b c ln):T (m67 l a b c ln) (λz=>WL st (w++bk l) z.1 z.2.1 z.2.2.1 z.2.2.2.1):=by
 have e1:bkT 10000 l=bk l:=VH h 9983
 have hp:PU 10000 (l,a,b,c,ln,()) (st,w):=⟨9999,rfl,hb,Ox h 9983,by rw[show cnB 9999 l=cnB 16 l from MN h 9983];dsimp only;omega,hw⟩
 unfold m67
 refine(a0x ⟨_,hp⟩).mono λz hz=>?_
 have:=hz _ hp
 unfold QU at this
 rw[e1]at this
 exact this
theorem a4h{st:Option (List Int×Nat)}{cls:List DS1}{a b:Int}{c:List Int}(hx:∀c∈cls,XCl c)(h:∀c∈cls,iH c=true)(hn:cls.length<=1000)(hw:WL st [] a b c []):T (m37 cls a b c) (λz=>WL ((cls.map clT).foldl stp st) [] z.1 z.2.1 z.2.2.1 []):=by
 unfold m37
 have hL:=aX cls
 refine T.loop (λq=>∃x y a b c,cls=x++y/\WL ((x.map clT).foldl stp st) [] a b c []/\q=(cls,aD cls,(x.length:Int),a,b,c,())) (λq=>cls.length-q.2.2.1.toNat) ⟨[],cls,a,b,c,rfl,hw,rfl⟩ ?_
 clear hw
 rintro _ ⟨x,y,a,b,c,hab,hw,rfl⟩
 dsimp only
 refine T.cnd (λhc=>?_) (λhc=>?_)<;>simp only[bQ,dh]at hc
 .obtain⟨u,d,rfl,hab⟩:=lF hab (by omega)
  have hm:u∈cls:=by rw[hab];simp
  have hx:=hx u hm
  have h:=h u hm
  have hok:=Vv h
  obtain⟨h1,h2,h3,h4,h5⟩:=Q9 h
  obtain⟨x1,x2⟩:=hx
  have htk:=(vN h3).1
  have hbl:(bk u.2.2.2.1).length<=_:=BM 16 _ h4.1
  have hat:atI cls (x.length:Int) zS1=u:=mG hab
  refine T.grd (by rw[bV];omega) ?_
  rw[hat]
  refine T.aU (P8 h1).1 (T.aU (a3f _ _ _ _ (by simp)) (T.grd rfl (T.aU (uI _ _ _ _ _ (by simp)) ?_)))
  have hw0:WL ((x.map clT).foldl stp st) [nmT (kwS u.1),nmT u.2.1,mkT (bs [58])] a b c [nmT (kwS u.1),nmT u.2.1,mkT (bs [58])]:=hw.app (r:=[nmT (kwS u.1),nmT u.2.1,mkT (bs [58])]) rfl
  refine T.join (λj=>∃a b c ln,WL ((x.map clT).foldl stp st) ([nmT (kwS u.1),nmT u.2.1,mkT (bs [58])]++cond (iLt 0 (ig u.1)) [nuT u.2.2.2.2.1,nmT (bs [119,104,101,110])] []) a b c ln/\j=(cls,aD cls,(x.length:Int),a,b,c,u.1,u.2.1,u.2.2.1.1,u.2.2.1.2.1,u.2.2.1.2.2.1,u.2.2.1.2.2.2.1,u.2.2.1.2.2.2.2.1,u.2.2.1.2.2.2.2.2.1,u.2.2.2.1,u.2.2.2.2.1,ln,())) (T.aU (show m65 u.1=some (ig u.1,()) from Bt u.1) (T.cnd (λq=>T.grd rfl (T.aU (Jq _ _ _ _ _ (by simp)) (T.grd rfl (T.jgo ⟨a,b,c,_,by rw[show iLt 0 (ig u.1)=true from q];exact hw0.app rfl,rfl⟩)))) (λq=>T.jgo ⟨a,b,c,_,by rw[show iLt 0 (ig u.1)=false from q];exact hw0,rfl⟩))) ?_
  clear hw hw0
  rintro _ ⟨a,b,c,ln,hw,rfl⟩
  have he:clT u=[nmT (kwS u.1),nmT u.2.1,mkT (bs [58])]++cond (iLt 0 (ig u.1)) [nuT u.2.2.2.2.1,nmT (bs [119,104,101,110])] []++tk u.2.2.1++bk u.2.2.2.1++[mkT (bs [59])]:=by unfold clT;simp only[aQ]
  have hp:([nmT (kwS u.1),nmT u.2.1,mkT (bs [58])]++cond (iLt 0 (ig u.1)) [nuT u.2.2.2.2.1,nmT (bs [119,104,101,110])] []).length<=5:=by cases iLt 0 (ig u.1)<;>simp
  generalize [nmT (kwS u.1),nmT u.2.1,mkT (bs [58])]++cond (iLt 0 (ig u.1)) [nuT u.2.2.2.2.1,nmT (bs [119,104,101,110])] []=p at hw he hp
  have hpb:(p++tk u.2.2.1++bk u.2.2.2.1).length<=800000:=by simp only[ak];omega
  dsimp only
  refine T.call (Wi (e:=u.2.2.1) x1 h3 hw) (λs hw=>T.call (a0y x2 h4.1 h4.2 (by simp;omega) hw) (λs hw=>?_))
  have hwl:=hw.1
  refine T.aU (uI _ _ _ _ _ (by omega)) (T.call (MJ (w:=clT u) hok (by rw[he,ak,aT];omega) (by rw[he];exact hw.app rfl)) (λs hw=>?_))
  rw[add_one (x:=u) (by omega)]
  refine T.go ⟨x++[u],d,s.1,s.2.1,s.2.2.1,by rw[hab,aQ];rfl,?_,rfl⟩ (by dsimp only;rw[ak,aT];omega)
  rw[bJ,iX];exact hw
 .obtain rfl:=kQ hab (by omega)
  exact T.out hw
theorem Te(a b:Int)(s:ByteArray)(c:List Int):m38 a b [s] c=some (a,b,[s],c,[nmT s],()):=a3f a b [s] c (by simp)
theorem a2o{w:DS4}(hx:XW w):m19 w=some (cond (kL w) (a1k (fold (uK w))) (bs [],5,())):=by
 refine T.eq ?_
 unfold m19
 refine T.aU (Wd w hx) ?_
 dsimp only
 cases hv:kL w with
 |false=>exact T.ct rfl (T.ret rfl)
 |true =>
 obtain⟨h1,h2,h3,h4⟩:=Tf hv
 obtain⟨cls,ens,⟨⟩⟩:=w
 obtain⟨x1,x2⟩:=hx
 dsimp only at h1 h2 h3 h4 x1 x2
 have hE:=aX ens
 have a3U:fold (uK (cls,ens,()))=((ens.map enL).flatten).foldl stp ((cls.map clT).foldl stp (some ([],0))):=by unfold fold uK;rw[iX]
 refine T.cf rfl (T.join (λj=>j=(cls,ens,0,0,[],())) (T.jgo rfl) ?_)
 rintro _ rfl
 refine T.call (a4h (st:=some ([],0)) x1 h3 (show cls.length<=1000 by omega) ⟨dG _,.inr ⟨[],0,rfl,⟨rfl,rfl,by omega,by simp⟩,.inl ⟨rfl,rfl⟩⟩⟩) (λs hw=>?_)
 generalize (cls.map clT).foldl stp (some ([],0))=st at a3U hw
 dsimp only
 refine T.loop (λq=>∃x y a b c,ens=x++y/\WL (((x.map enL).flatten).foldl stp st) [] a b c []/\q=(ens,aD ens,(x.length:Int),a,b,c,())) (λq=>ens.length-q.2.2.1.toNat) ⟨[],ens,s.1,s.2.1,s.2.2.1,rfl,hw,rfl⟩ ?_
 clear hw
 rintro _ ⟨x,y,a,b,c,hab,hw,rfl⟩
 dsimp only
 refine T.cnd (λhc=>?_) (λhc=>?_)<;>simp only[bQ,dh]at hc
 .obtain⟨u,d,rfl,hab⟩:=lF hab (by omega)
  have hm:u∈ens:=by rw[hab];simp
  have hen:=h4 u hm
  have hxe:=x2 u hm
  have hok:=a4d hen
  obtain⟨e1,e2,e3,e4,e5⟩:=IW hen
  have hat:atI ens (x.length:Int) zS3=u:=mG hab
  refine T.grd (by rw[bV];omega) ?_
  rw[hat]
  have hsn:((x++[u]).map enL).flatten=(x.map enL).flatten++(([[nmT (bs [101,110,100,111,114,115,101]),hrT u.1.1,nmT (bs [116,111]),hrT u.1.2.1,mkT (bs [58])]]++cond (iLt 0 (aD u.2.1)) [nmT (bs [114,101,109,111,118,101])::(jP u.2.1++[mkT (bs [59])])] [])++(List.map clT u.2.2.1++[[nmT (bs [101,110,100]),mkT (bs [59])]])):=by
   rw[bJ,List.flatten_append]
   show _++(enL u++[])=_
   unfold enL
   rw[cu]
  obtain⟨⟨p,q,⟨⟩⟩,rm,xc,⟨⟩⟩:=u
  obtain⟨_,x3⟩:=hxe
  dsimp only at e1 e2 e3 e4 e5 hsn x3 ⊢
  generalize hst:((x.map enL).flatten).foldl stp st=st1 at hw
  refine T.aU (Te _ _ _ _) (T.grd rfl (T.aU (Yk _ _ _ _ _ (by simp)) (T.aU (Jq _ _ _ _ _ (by simp)) (T.grd rfl (T.aU (Yk _ _ _ _ _ (by simp)) (T.aU (uI _ _ _ _ _ (by simp)) (T.call (MJ (w:=[nmT (bs [101,110,100,111,114,115,101]),hrT p,nmT (bs [116,111]),hrT q,mkT (bs [58])]) (hok _ (by unfold enL;simp)) (by simp) (hw.app (r:=[nmT (bs [101,110,100,111,114,115,101]),hrT p,nmT (bs [116,111]),hrT q,mkT (bs [58])]) rfl)) (λs hw=>?_))))))))
  refine T.join (λj=>∃a b c,WL (([[nmT (bs [101,110,100,111,114,115,101]),hrT p,nmT (bs [116,111]),hrT q,mkT (bs [58])]]++cond (iLt 0 (aD rm)) [nmT (bs [114,101,109,111,118,101])::(jP rm++[mkT (bs [59])])] []).foldl stp st1) [] a b c []/\j=(ens,aD ens,(x.length:Int),a,b,p,q,rm,xc,c,())) (T.cnd (λz=>?_) (λz=>T.jgo ⟨s.1,s.2.1,s.2.2.1,by rw[z];exact hw,rfl⟩)) ?_
  .have hrl:=aX rm
   refine T.aU (Te _ _ _ _) (T.grd rfl ?_)
   have hw:WL (stp st1 [nmT (bs [101,110,100,111,114,115,101]),hrT p,nmT (bs [116,111]),hrT q,mkT (bs [58])]) [nmT (bs [114,101,109,111,118,101])] s.1 s.2.1 s.2.2.1 [nmT (bs [114,101,109,111,118,101])]:=hw.app (r:=[nmT (bs [114,101,109,111,118,101])]) rfl
   refine T.loop (λz=>∃f g a b c ln,rm=f++g/\WL (stp st1 [nmT (bs [101,110,100,111,114,115,101]),hrT p,nmT (bs [116,111]),hrT q,mkT (bs [58])]) (nmT (bs [114,101,109,111,118,101])::jP f) a b c ln/\z=(ens,aD ens,(x.length:Int),rm,aD rm,(f.length:Int),a,b,p,q,rm,xc,c,ln,())) (λz=>rm.length-z.2.2.2.2.2.1.toNat) ⟨[],rm,s.1,s.2.1,s.2.2.1,_,rfl,hw,rfl⟩ ?_
   clear hw
   rintro _ ⟨f,g,a,b,c,ln,hfg,hw,rfl⟩
   dsimp only
   have hfl:f.length<=40:=by have:=dO List.length hfg;rw[ak]at this;omega
   have hwf:=wV f
   have hwl:=hw.1
   rw[bf]at hwl
   refine T.cnd (λhq=>?_) (λhq=>?_)<;>simp only[bQ,dh]at hq
   .obtain⟨t,g,rfl,hfg⟩:=lF hfg (by omega)
    have hrt:atI rm (f.length:Int) ByteArray.empty=t:=mG hfg
    refine T.grd (by rw[bV];omega) ?_
    rw[hrt]
    have hs2:nmT (bs [114,101,109,111,118,101])::jP (f++[t])=nmT (bs [114,101,109,111,118,101])::jP f++(cond (iLt 0 (f.length:Int)) [mkT (bs [44])] []++[nmT t]):=by unfold jP;rw[sj];rfl
    refine T.cnd (λh7=>T.aU (uI _ _ _ _ _ (by omega)) (T.aU (Jq _ _ _ _ _ (by simp;omega)) (T.grd rfl (T.go ⟨f++[t],g,a,b,c,_,by rw[hfg];simp,?_,by rw[add_one (x:=t) (by omega)]⟩ (by dsimp only;rw[bC (by omega) (by omega)];omega))))) (λh7=>T.aU (Jq _ _ _ _ _ (by omega)) (T.grd rfl (T.go ⟨f++[t],g,a,b,c,_,by rw[hfg];simp,?_,by rw[add_one (x:=t) (by omega)]⟩ (by dsimp only;rw[bC (by omega) (by omega)];omega))))
    .rw[hs2,h7];have:=(hw.app (l':=[mkT (bs [44])]) (r:=[mkT (bs [44])]) rfl).app (l':=[nmT t]) (r:=[nmT t]) rfl;rw[aQ]at this;exact this
    .rw[hs2,h7];exact hw.app (l':=[nmT t]) (r:=[nmT t]) rfl
   .have he:=kQ hfg (by omega)
    rw[<- he]at hw hwl hwf
    refine T.iD (T.aU (uI _ _ _ _ _ (by omega)) (T.call (MJ (w:=nmT (bs [114,101,109,111,118,101])::(jP rm++[mkT (bs [59])])) (hok _ (by unfold enL;rw[z];simp)) (by simp;omega) (hw.app (l':=[mkT (bs [59])]) (r:=[mkT (bs [59])]) rfl)) (λs hw=>T.jgo ⟨s.1,s.2.1,s.2.2.1,by rw[z];exact hw,rfl⟩)))
  clear hw
  rintro _ ⟨a,b,c,hw,rfl⟩
  dsimp only
  generalize ([[nmT (bs [101,110,100,111,114,115,101]),hrT p,nmT (bs [116,111]),hrT q,mkT (bs [58])]]++cond (iLt 0 (aD rm)) [nmT (bs [114,101,109,111,118,101])::(jP rm++[mkT (bs [59])])] [])=L1 at hw hsn
  refine T.call (a4h x3 e5 (show xc.length<=1000 by omega) hw) (λs hw=>T.aU (Te _ _ _ _) (T.grd rfl (T.aU (uI _ _ _ _ _ (by simp)) (T.call (MJ (w:=[nmT (bs [101,110,100]),mkT (bs [59])]) (hok _ (by unfold enL;simp)) (by simp) (hw.app (r:=[nmT (bs [101,110,100]),mkT (bs [59])]) rfl)) (λs hw=>?_)))))
  rw[add_one (x:=((p,q,()),rm,xc,())) (by omega)]
  refine T.go ⟨x++[((p,q,()),rm,xc,())],d,s.1,s.2.1,s.2.2.1,by rw[hab,aQ];rfl,?_,rfl⟩ (by dsimp only;rw[ak,aT];omega)
  rw[hsn,iX,iX,iX,hst];exact hw
 .have he:=kQ hab (by omega)
  rw[<- he,<- a3U]at hw
  refine T.iD ?_
  rcases hw.2 with⟨h5,h6⟩|⟨tx,n,h5,⟨h6,h7,_⟩,⟨h8,_⟩|⟨h8,_⟩⟩
  .rw[h5];exact T.ct (by rw[nG];omega) (T.ret (by rw[h6];rfl))
  .rw[h5];exact T.cf (by rw[yh];exact h8) (T.aU (show Y1 _ _ _=some (bsI c,a,b,c,()) from rfl) (T.ret (by rw[h7];rfl)))
  .have:(4000<0\/16384<0):=h8
   omega
theorem UK(w:DS4)(c:DS1)(L M:List Int)(hw:XW w)(hc:XCl c)(h1:L.length<=9223372036854775807)(h2:M.length<=9223372036854775807):m5 w c L M=some (true,()):=by
 refine T.eq ?_
 have aw:∀{Q:Bool×Unit->Prop},Q (true,())->T (m7.bind λy=>some (y.1,())) Q:=λq=>T.aU (show m7=some (true,()) from rfl) (T.ret q)
 unfold m5
 refine T.aU (show m12 w=some _ from rfl) (T.cnd (λ_=>aw rfl) (λ_=>?_))
 refine T.loop (λq=>∃(k:Nat) (v:DS4),k<=3/\XW v/\q=(L,M,(k:Int),v.1,v.2.1,c.1,c.2.1,c.2.2.1.1,c.2.2.1.2.1,c.2.2.1.2.2.1,c.2.2.1.2.2.2.1,c.2.2.1.2.2.2.2.1,c.2.2.1.2.2.2.2.2.1,c.2.2.2.1,c.2.2.2.2.1,())) (λq=>3-q.2.2.1.toNat) ⟨0,w,by omega,hw,rfl⟩ ?_
 rintro _ ⟨k,v,hk,hv,rfl⟩
 dsimp only
 refine T.cnd (λhq=>?_) (λhq=>T.iD (aw rfl))
 rw[bQ]at hq
 have hs:∀o:ByteArray×Int×Unit,cond (not (sEq o.1 o.1)) true (iNe o.2.1 o.2.1)=false:=λo=>by rw[Ch,nu,yh];exact⟨rfl,rfl⟩
 have nx:aN .i64 (k:Int) 1=((k+1:Nat):Int):=by rw[bC (by omega) (by omega)];omega
 refine T.aU (a2o (w:=v) hv) (T.aU (a2n (w:=v) hv) (T.cf (hs _) (T.call (b0M L h1) (λa ⟨a1,a2,_⟩=>T.cnd (λ_=>?_) (λ_=>?_)))))
 .refine T.aU (show m14 M=some (M,0,()) from rfl) (T.call (a0H a.1 c M a1 a2 hc ⟨h2,mK _⟩) (λb hb=>?_))
  exact T.go ⟨k+1,b.1,by omega,hb,by rw[nx]⟩ (by dsimp only;rw[nx];omega)
 .exact T.go ⟨k+1,a.1,by omega,a1.x,by rw[nx]⟩ (by dsimp only;rw[nx];omega)
section
open Go.RowKit
def Im:Nat->List (Nat×List Value)->Option (List Value)
 |_,[]=>some []
 | o,(p,vs) :: r=>if p=o then match Im (o + vs.length) r with
   |some ws=>some (vs++ws)
   |none=>none
  else none
theorem Cm(cs:List Value):∀(l:List (Nat×List Value)) (o:Nat) (vs:List Value),Im o l=some vs->(∀q∈l,(cs.drop q.1).take q.2.length=q.2)->(cs.drop o).take vs.length=vs
 |[],o,vs,h,_=>by cases h;simp
 |(p,ws)::r,o,vs,h,hq=>by
  simp only[Im]at h
  split at h
  .rename_i hp
   subst hp
   split at h
   .rename_i us hu
    cases h
    have h1:=hq (p,ws) (by simp)
    have h2:=Cm cs r (p+ws.length) us hu λq hq'=>hq q (gu _ hq')
    simp only at h1
    rw[ak,List.take_add,h1,tZ,h2]
   .cases h
  .cases h
def cellsD(P:Program):Nat->TypeId->DataW Unit->Option (List Value)
 |0,_,_=>none
 |n+1,t,D=>match P.underlying t with
  |some .bool=>match D with
   |.lit (.bool b)=>some [.bool b]
   |_=>none
  |some (.int k)=>match D with
   |.lit (.int k' z)=>if k'=k then some [.int k z] else none
   |_=>none
  |some .string=>match D with
   |.lit (.string bs)=>some [.string ⟨⟨bs⟩⟩]
   |_=>none
  |some (.struct fs)=>match D with
   | .agg ds=>if fs.toList.length=ds.length then match (fs.toList.zip ds).mapM (fun q=>match cellsD P n q.1.type q.2 with | some vs=>if vs.length=P.cellsOf q.1.type then some (q.1.offset,vs) else none | none=>none) with
     |some l=>match Im 0 l with
      |some vs=>if vs.length=P.cellsOf t then some vs else none
      |none=>none
     |none=>none
    else none
   |_=>none
  |some (.array m e)=>match D with
   | .agg ds=>if m=ds.length then match ((List.range m).zip ds).mapM (fun q=>match cellsD P n e q.2 with | some vs=>if vs.length=P.cellsOf e then some (q.1 * P.cellsOf e,vs) else none | none=>none) with
     |some l=>match Im 0 l with
      |some vs=>if vs.length=P.cellsOf t then some vs else none
      |none=>none
     |none=>none
    else none
   |_=>none
  |_=>none
theorem mapM_mem{α β:Type}{f:α->Option β}:∀{l:List α} {r:List β},l.mapM f=some r->∀b∈r,∃(i:Nat) (a:α),l[i]?=some a/\f a=some b
 |[],r,h,b,hb=>by simp at h;subst h;simp at hb
 |x::l,r,h,b,hb=>by
  simp only[tY,Option.bind_eq_bind,Option.bind_eq_some_iff,Option.pure_def,dM]at h
  obtain⟨c,hc,r',hr',rfl⟩:=h
  rcases bE.1 hb with rfl|hb
  .exact⟨0,x,rfl,hc⟩
  .obtain⟨i,a,h1,h2⟩:=mapM_mem hr' b hb
   exact⟨i+1,a,by simpa using h1,h2⟩
theorem LM {P:Program} {w:World} {base:Nat} {sp:Nat->Bool} {held:Bool} {enc:TypeId × Value->Unit}:∀ (n:Nat) (t:TypeId) (D:DataW Unit) (vs:List Value) (fuel:Nat) (cs:List Value) (p:List MemPlace),
  cellsD P n t D=some vs->DataW.trod enc P w base sp held fuel t cs=some (D,p)->cs=vs
 |0,t,D,vs,fuel,cs,p,h,_=>by cases h
 |n+1,t,D,vs,0,cs,p,h,ht=>by cases ht
 |n+1,t,D,vs,fuel+1,cs,p,h,ht=>by
  have ih:=LM (P:=P) (w:=w) (base:=base) (sp:=sp) (held:=held) (enc:=enc) n
  simp only[cellsD]at h
  split at h
  .rename_i hu
   split at h
   .rename_i b
    cases h
    simp only[DataW.trod,hu]at ht
    split at ht<;>first
     |(simp only[dM,mZ,DataW.lit.injEq,Lit.bool.injEq]at ht;obtain⟨rfl,_⟩:=ht;rfl)
     |simp_all
   .cases h
  .rename_i k hu
   split at h
   .rename_i k' z
    split at h
    .rename_i hk
     subst hk
     cases h
     obtain⟨z',hc,he,_⟩:=DataW.trod_int hu ht
     have e:=(aM he).1
     simp only[DataW.lit.injEq,Lit.int.injEq,true_and]at e
     rw[hc,e]
    .cases h
   .cases h
  .rename_i hu
   split at h
   .rename_i bs
    cases h
    simp only[DataW.trod,hu]at ht
    split at ht<;>first
     | (split at ht <;> first
       |(simp only[dM,mZ,DataW.lit.injEq,Lit.string.injEq]at ht;obtain⟨rfl,_⟩:=ht;rfl)
       |cases ht)
     |simp_all
   .cases h
  .rename_i fs hu
   split at h
   .rename_i ds
    split at h
    .rename_i hlen
     split at h
     .rename_i l hl
      split at h
      .rename_i us hus
       split at h
       .rename_i hsz
        cases h
        simp only[DataW.trod,hu]at ht
        split at ht
        .rename_i hcl
         obtain⟨xs,hm,hx⟩:=dK.1 ht
         simp only[mZ,DataW.agg.injEq]at hx
         have hxs:=hx.1
         have:=Cm cs l 0 vs hus λq hq=>by
          obtain⟨i,a,h1,h2⟩:=mapM_mem hl q hq
          obtain⟨f,d⟩:=a
          obtain⟨g1,g2⟩:=List.getElem?_zip_eq_some.1 h1
          simp only at h2
          split at h2
          .rename_i ws hws
           split at h2
           .rename_i hwl
            cases h2
            obtain⟨b,hb,hf⟩:=Lib.mapM_at hm i f g1
            have hbd:b.1=d:=by
             have:(xs.map (·.1))[i]?=some b.1:=by simp[hb]
             rw[hxs,g2]at this
             exact(aJ this).symm
            obtain⟨b1,b2⟩:=b
            simp only at hbd
            subst hbd
            have:=ih f.type b1 ws fuel _ _ hws hf
            simp only
            rw[hwl];exact this
           .cases h2
          .cases h2
         rw[kC,gq (by omega)]at this
         exact this
        .cases ht
       .cases h
      .cases h
     .cases h
    .cases h
   .cases h
  .rename_i m e hu
   split at h
   .rename_i ds
    split at h
    .rename_i hlen
     split at h
     .rename_i l hl
      split at h
      .rename_i us hus
       split at h
       .rename_i hsz
        cases h
        simp only[DataW.trod,hu]at ht
        split at ht
        .rename_i hcl
         obtain⟨xs,hm,hx⟩:=dK.1 ht
         simp only[mZ,DataW.agg.injEq]at hx
         have hxs:=hx.1
         have:=Cm cs l 0 vs hus λq hq=>by
          obtain⟨i,a,h1,h2⟩:=mapM_mem hl q hq
          obtain⟨f,d⟩:=a
          obtain⟨g1,g2⟩:=List.getElem?_zip_eq_some.1 h1
          simp only at h2
          split at h2
          .rename_i ws hws
           split at h2
           .rename_i hwl
            cases h2
            obtain⟨b,hb,hf⟩:=Lib.mapM_at hm i f g1
            have hbd:b.1=d:=by
             have:(xs.map (·.1))[i]?=some b.1:=by simp[hb]
             rw[hxs,g2]at this
             exact(aJ this).symm
            obtain⟨b1,b2⟩:=b
            simp only at hbd
            subst hbd
            have:=ih e b1 ws fuel _ _ hws hf
            simp only
            rw[hwl];exact this
           .cases h2
          .cases h2
         rw[kC,gq (by omega)]at this
         exact this
        .cases ht
       .cases h
      .cases h
     .cases h
    .cases h
   .cases h
  .cases h
theorem AL{P:Program}{W:World}{name:String}{D:DataW Unit}{rest:List (String×DataW Unit)}{g n:Nat}{t:TypeId}{vs:List Value}(hg:P.globalNamed name=some g)(hty:(P.globals[g]?).map (·.type)=some t)(hc:cellsD P n t D=some vs)(h:laidMet P ((name,D)::rest) W):W.var? P name=some vs.toArray:=by
 obtain⟨ps,⟨g',t',cs,fuel,p,q,hg',ht',hvar,hd,_,_⟩,_⟩:=h
 obtain rfl:=aJ (hg.symm.trans hg')
 obtain rfl:=aJ (hty.symm.trans ht')
 rw[hvar,<- LM n t D vs fuel cs.toList p hc hd]
theorem Bb{P:Program}{W:World}{name:String}{g:Nat}{vs:List Value}(hg:P.globalNamed name=some g)(hv:W.var? P name=some vs.toArray)(h1:vs.all (·.oneCell')=true):RP (snap W) (.pointer (some ⟨g,0,none⟩)) (.fZ (vs.map .v)):=by
 have cell:∀i (x:Value),vs[i]?=some x->snap W ⟨g,i,none⟩=some x:=λi x hx=>by
  have:=World.var?_cell hg hv i
  show W.cell? ⟨g,i,none⟩=some x
  rw[this];simpa using hx
 refine RP.fZ _ _ (λj=>vs.getD j undef) (λj a hj=>?_) (λj a hj=>?_)
 .rw[aK]at hj
  rcases q:vs[j]? with _|z
  .rw[q]at hj;cases hj
  .have e:vs.getD j undef=z:=by rw[bn,q];rfl
   refine⟨?_,?_⟩
   .have:(Addr.add ⟨g,0,none⟩ j:Addr)=⟨g,j,none⟩:=by simp[Addr.add];intro h;exact h.symm
    rw[this,e];exact cell j z q
   .rw[e];exact aG.1 h1 z (bO q)
 .rw[aK]at hj
  rcases q:vs[j]? with _|z
  .rw[q]at hj;cases hj
  .rw[q]at hj
   simp only[aW,dM]at hj
   subst hj
   have e:vs.getD j undef=z:=by rw[bn,q];rfl
   rw[e];exact .v _
theorem Cz{P:Program}{W:World}{name:String}{g:Nat}{vs:List Value}(hg:P.globalNamed name=some g)(hv:W.var? P name=some vs.toArray)(h0:0<vs.length):g<W.heap.size/\∃us ty fr,W.heap[g]?=some (.cells us ty fr)/\us.size=vs.length:=by
 have c:=World.var?_cell hg hv 0
 have hlt:g<W.heap.size:=by
  have:vs.toArray[0]?=some vs[0]:=by simp[h0]
  rw[this]at c
  exact World.block_lt_of_cell? W _ c
 refine⟨hlt,?_⟩
 unfold World.var? at hv
 rw[hg]at hv
 simp only[iO]at hv
 split at hv
 .rename_i us ty fr hb
  obtain rfl:=aJ hv
  exact⟨_,ty,fr,hb,by simp⟩
 .cases hv
end
end
end Abs
end Go.Proofs.YtnhgeocdffhkjaaGreatDoor
