/- Merged and trimmed by a program: X2 X3 X4 X5 X6 X7 X8 X9 XA XB XD XE XF XG. -/
import Derived.Test.YtnhgeocdffhkjaaGreatDoorZHB
set_option linter.unusedVariables false
set_option linter.unusedSimpArgs false
set_option linter.defProp false
namespace Go.Proofs.YtnhgeocdffhkjaaGreatDoor
namespace Abs
noncomputable section
section
open Go.RowKit
def xw{S R:Type}(step:S->Option (S⊕R)):Nat->S->Option R
 |0,_=>none
 |n+1,s=>match step s with
  |some (.inl s')=>xw step n s'
  |some (.inr r)=>some r
  |none=>none
open Classical in
def bK{S R:Type}(step:S->Option (S⊕R))(s:S):Option R :=
 if h:∃n r,xw step n s=some r then xw step h.choose s else none
def Fq:(ps:List Ty)->Ty.bO ps->List XV
 |[],_=>[]
 |T::ps,x=>.d T x.1::Fq ps x.2
def zk(h:List XO):(ps:List Ty)->List XV->Option (Ty.bO ps)
 |[],[]=>some ()
 |T::ps,v::vs=>match toD h T v,zk h ps vs with
  |some x,some y=>some (x,y)
  |_,_=>none
 |_,_=>none
def Gi(rs:List Ty)(y:Ty.bO rs):XV:=match Fq rs y with
 |[v]=>v
 |vs=>.tup vs
mutual
def Qc:Ty->Bool
 |.iP _=>true
 |.tup fs=>uV fs
 |_=>false
def uV:List Ty->Bool
 |[]=>false
 |t::ts=>Qc t||uV ts
end
mutual
def EU:Ty->Bool
 |.list _=>false
 |.iP _=>false
 |.rl _ _=>false
 |.tup fs=>xX fs
 |_=>true
def xX:List Ty->Bool
 |[]=>true
 |t::ts=>EU t&&xX ts
end
structure PI where
 f:Nat
 ps:List Ty
 rs:List Ty
 run:Ty.bO ps->Option (Ty.bO rs)
inductive SC where
 |d (T:Ty)
 |row (j:Nat)
 |ptr (j i off:Nat)
 |me (j:Nat)
 |nil
 |any
 |raw
inductive SR where
 |row (j:Nat)
 |sub (j off len:Nat)
 |ptr (j i off:Nat)
 |nil
 |agg (cs:List SC)
inductive SO where
 |row (ty:Nat) (T:Ty) (fz:Bool)
 |box (ty:Nat) (cs:List SC)
structure Sh where
 n:Nat
 vars:List (Nat×Ty)
 refs:List (Nat×SR)
 objs:List SO
def SC.tys:List SC->List Ty->List Ty
 |[],r=>r
 |.d T::cs,r=>T::SC.tys cs r
 |.row _::cs,r=>SC.tys cs r
 |.ptr _ _ _::cs,r=>SC.tys cs r
 |.me _::cs,r=>SC.tys cs r
 |.nil::cs,r=>SC.tys cs r
 |.any::cs,r=>SC.tys cs r
 |.raw::cs,r=>.rl 0 0::SC.tys cs r
def SO.tys:List SO->List Ty
 |[]=>[]
 |.row _ T _::os=>.list T::SO.tys os
 |.box _ cs::os=>SC.tys cs (SO.tys os)
def zD:List (Nat×Ty)->List Ty->List Ty
 |[],r=>r
 |(_,T)::vs,r=>T::zD vs r
def iE:List (Nat×SR)->List Ty->List Ty
 |[],r=>r
 |(_,.row _)::l,r=>iE l r
 |(_,.sub _ _ _)::l,r=>iE l r
 |(_,.ptr _ _ _)::l,r=>iE l r
 |(_,.nil)::l,r=>iE l r
 |(_,.agg cs)::l,r=>SC.tys cs (iE l r)
def Sh.tys(sh:Sh):List Ty:=zD sh.vars (iE sh.refs (SO.tys sh.objs))
def xO:(vs:List (Nat×Ty))->(r:List Ty)->Ty.bO (zD vs r)->List XV->List XV×Ty.bO r
 |[],r,x,t=>(t,x)
 |(i,T)::vs,r,x,t=>xO vs r x.2 (t.set i (.d T x.1))
def jg:(cs:List SC)->(r:List Ty)->Ty.bO (SC.tys cs r)->List XV×Ty.bO r
 |[],r,x=>([],x)
 |.d T::cs,r,x=>(.d T x.1::(jg cs r x.2).1,(jg cs r x.2).2)
 |.row j::cs,r,x=>(.row j::(jg cs r x).1,(jg cs r x).2)
 |.ptr j i o::cs,r,x=>(.ptr j i o::(jg cs r x).1,(jg cs r x).2)
 |.me j::cs,r,x=>(.me j::(jg cs r x).1,(jg cs r x).2)
 |.nil::cs,r,x=>(.k (.slice none 0 0)::(jg cs r x).1,(jg cs r x).2)
 |.any::cs,r,x=>(.any::(jg cs r x).1,(jg cs r x).2)
 |.raw::cs,r,x=>(.raw x.1::(jg cs r x.2).1,(jg cs r x.2).2)
def qB:(os:List SO)->Ty.bO (SO.tys os)->List XO
 |[],_=>[]
 |.row ty T fz::os,x=>.row ty T fz x.1::qB os x.2
 |.box ty cs::os,x=>.box ty (jg cs (SO.tys os) x).1::qB os (jg cs (SO.tys os) x).2
def nK:(refs:List (Nat×SR))->(r:List Ty)->Ty.bO (iE refs r)->List XV->List XV×Ty.bO r
 |[],r,x,t=>(t,x)
 |(s,.row j)::l,r,x,t=>nK l r x (t.set s (.row j))
 |(s,.sub j o n)::l,r,x,t=>nK l r x (t.set s (.sub j o n))
 |(s,.ptr j i o)::l,r,x,t=>nK l r x (t.set s (.ptr j i o))
 |(s,.nil)::l,r,x,t=>nK l r x (t.set s (.k (.slice none 0 0)))
 |(s,.agg cs)::l,r,x,t=>nK l r (jg cs (iE l r) x).2 (t.set s (.agg (jg cs (iE l r) x).1))
def zY(sh:Sh)(x:Ty.bO sh.tys):List XV×Ty.bO (SO.tys sh.objs) :=
 nK sh.refs (SO.tys sh.objs) (xO sh.vars (iE sh.refs (SO.tys sh.objs)) x (List.replicate sh.n .any)).2 (xO sh.vars (iE sh.refs (SO.tys sh.objs)) x (List.replicate sh.n .any)).1
def emb(sh:Sh)(x:Ty.bO sh.tys):XS:=⟨(zY sh x).1,qB sh.objs (zY sh x).2⟩
def asg(foc:List (Option Nat))(j id:Nat):Option (List (Option Nat)):=match foc[j]? with
 |some none=>some (foc.set j (some id))
 |some (some id')=>if Nat.beq id id'=true then some foc else none
 |none=>none
def BG:XV->Bool
 |.k (.slice none 0 0)=>true
 |_=>false
def a1U:Value->Bool
 |.pointer none=>true
 |_=>false
def Ba:XV->Option (Option Nat)
 |.me id=>some (some id)
 |.ptr id i o=>if(Nat.beq i 0&&Nat.beq o 0)=true then some (some id) else none
 |.k v=>if a1U v=true then some none else none
 |_=>none
def extC:(cs:List SC)->(r:List Ty)->List XV->List (Option Nat)->Option (List (Option Nat)×(Ty.bO r->Ty.bO (SC.tys cs r)))
 |[],r,vs,foc=>match vs with
  |[]=>some (foc,λx=>x)
  |_::_=>none
 |.d T::cs,r,vs,foc=>match vs with
  |[]=>none
  |v::vs=>match toD [] T v,extC cs r vs foc with
   |some x,some (foc,g)=>some (foc,λy=>(x,g y))
   |_,_=>none
 |.row j::cs,r,vs,foc=>match vs with
  |.row id::vs=>match asg foc j id with
   |some foc=>extC cs r vs foc
   |none=>none
  |_=>none
 |.ptr j i o::cs,r,vs,foc=>match vs with
  |.ptr id i' o'::vs=>if(Nat.beq i i'&&Nat.beq o o')=true then match asg foc j id with
   |some foc=>extC cs r vs foc
   |none=>none
   else none
  |_=>none
 |.me j::cs,r,vs,foc=>match vs with
  |[]=>none
  |v::vs=>match Ba v with
   |some (some id)=>match asg foc j id with
    |some foc=>extC cs r vs foc
    |none=>none
   |some none=>extC cs r vs foc
   |none=>none
 |.nil::cs,r,vs,foc=>match vs with
  |[]=>none
  |v::vs=>if BG v=true then extC cs r vs foc else none
 |.any::cs,r,vs,foc=>match vs with
  |[]=>none
  |_::vs=>extC cs r vs foc
 |.raw::cs,r,vs,foc=>match vs with
  |.raw l::vs=>match extC cs r vs foc with
   |some (foc,g)=>some (foc,λy=>(l,g y))
   |none=>none
  |_=>none
def uL(t:List XV):(refs:List (Nat×SR))->(r:List Ty)->List (Option Nat)->Option (List (Option Nat)×(Ty.bO r->Ty.bO (iE refs r)))
 |[],r,foc=>some (foc,λy=>y)
 |(s,.row j)::l,r,foc=>match t.getD s .any with
  |.row id=>match asg foc j id with
   |some foc=>uL t l r foc
   |none=>none
  |_=>none
 |(s,.sub j o n)::l,r,foc=>match t.getD s .any with
  |.sub id o' n'=>if(Nat.beq o o'&&Nat.beq n n')=true then match asg foc j id with
   |some foc=>uL t l r foc
   |none=>none
   else none
  |_=>none
 |(s,.ptr j i o)::l,r,foc=>match t.getD s .any with
  |.ptr id i' o'=>if(Nat.beq i i'&&Nat.beq o o')=true then match asg foc j id with
   |some foc=>uL t l r foc
   |none=>none
   else none
  |_=>none
 |(s,.nil)::l,r,foc=>if BG (t.getD s .any)=true then uL t l r foc else none
 |(s,.agg cs)::l,r,foc=>match t.getD s .any with
  |.agg vs=>match extC cs (iE l r) vs foc with
   |some (foc,g)=>match uL t l r foc with
    |some (foc,g')=>some (foc,λy=>g (g' y))
    |none=>none
   |none=>none
  |_=>none
def GK(h:List XO):(os:List SO)->Nat->List (Option Nat)->Option (List (Option Nat)×Ty.bO (SO.tys os))
 |[],_,foc=>some (foc,())
 |.row ty T fz::os,j,foc=>match foc[j]? with
  |some (some id)=>match h[id]? with
   |some (.row ty' T' fz' es)=>if(Nat.beq ty ty'&&(fz==fz'))=true then match gB (a:=.list T') (b:=.list T) es,GK h os (j+1) foc with
    |some es,some (foc,y)=>some (foc,(es,y))
    |_,_=>none
    else none
   |_=>none
  |_=>none
 |.box ty cs::os,j,foc=>match foc[j]? with
  |some (some id)=>match h[id]? with
   |some (.box ty' vs)=>if Nat.beq ty ty'=true then match extC cs (SO.tys os) vs foc with
    |some (foc,g)=>match GK h os (j+1) foc with
     |some (foc,y)=>some (foc,g y)
     |none=>none
    |none=>none
    else none
   |_=>none
  |_=>none
def Qf(t:List XV):(vs:List (Nat×Ty))->(r:List Ty)->Ty.bO r->Option (Ty.bO (zD vs r))
 |[],r,y=>some y
 |(s,T)::vs,r,y=>match toD [] T (t.getD s .any),Qf t vs r y with
  |some x,some z=>some (x,z)
  |_,_=>none
def BR:List (Option Nat)->Option (List Nat)
 |[]=>some []
 |some a::l=>match BR l with
  |some m=>some (a::m)
  |none=>none
 |none::_=>none
def nodupB:List Nat->Bool
 |[]=>true
 |a::l=>!(l.any (Nat.beq a))&&nodupB l
def vK:Nat->Nat->List Nat->Bool
 |0,_,_=>true
 |n+1,j,a::l=>Nat.beq a j&&vK n (j+1) l
 |_+1,_,[]=>false
def MO(nf:Nat):Nat->Nat->List (Option Nat)
 |_,0=>[]
 |j,n+1=>(if Nat.blt j nf=true then some j else none)::MO nf (j+1) n
def ext(nf:Nat)(sh:Sh)(X:XS):Option (List Nat×Ty.bO sh.tys):=match uL X.t sh.refs (SO.tys sh.objs) (MO nf 0 sh.objs.length) with
 |some (foc,g)=>match GK X.h sh.objs 0 foc with
  |some (foc,y)=>match BR foc,Qf X.t sh.vars (iE sh.refs (SO.tys sh.objs)) (g y) with
   |some foc,some x=>if nodupB foc=true then some (foc,x) else none
   |_,_=>none
  |none=>none
 |none=>none
inductive Pre where
 |gh (s ty:Nat) (T:Ty)
 |fz (s:Nat) (T:Ty)
 |ghc (s o ty:Nat) (T:Ty)
 |gha (s o ty:Nat) (T:Ty)
 |fzc (s o:Nat) (T:Ty)
def Ct(nf:Nat)(X:XS):Pre->XS
 |.gh s ty T=>match X.t.getD s .any with
  |.k (.slice none 0 0)=>if Nat.blt 0 T.size=true then⟨X.t.set s (.row X.h.length),X.h++[.row ty T false []]⟩ else X
  |_=>X
 |.fz s T=>match toD X.h T (X.t.getD s .any) with
  |some x=>⟨X.t.set s (.d T x),ko X.h (fE (X.t.getD s .any))⟩
  |none=>X
 |.ghc s o ty T=>match X.t.getD s .any with
  |.ptr id i off=>match X.h[id]? with
   |some (.box ty' cs)=>match cs[o]? with
    |some (.k (.slice none 0 0))=>if Nat.blt 0 T.size=true then⟨X.t,(X.h++[XO.row ty T false []]).set id (.box ty' (cs.set o (.row X.h.length)))⟩ else X
    |_=>X
   |_=>X
  |_=>X
 |.gha s o ty T=>match X.t.getD s .any with
  |.agg cs=>match cs[o]? with
   |some (.k (.slice none 0 0))=>if Nat.blt 0 T.size=true then⟨X.t.set s (.agg (cs.set o (.row X.h.length))),X.h++[XO.row ty T false []]⟩ else X
   |_=>X
  |_=>X
 |.fzc s o T=>match X.t.getD s .any with
  |.ptr id i off=>match X.h[id]? with
   |some (.box ty' cs)=>match cs[o]? with
    |some c=>match toD X.h T c with
     |some x=>if T.oq=true then X else⟨X.t,(ko X.h (fE c)).set id (.box ty' (cs.set o (.d T x)))⟩
     |none=>X
    |none=>X
   |_=>X
  |_=>X
def xB(nf:Nat)(l:List Pre)(X:XS):XS:=l.foldl (Ct nf) X
structure HI where
 f:Nat
 ish:Sh
 osh:Sh
 run:Ty.bO ish.tys->Option (Ty.bO osh.tys)
 kp:List Nat
structure Cfg where
 tt:Nat->Option Ty
 GX:GXT
 pis:List PI
 his:List HI
def Ol(foc:List Nat)(base:Nat):XV->XV
 |.row j=>.row (if Nat.blt j foc.length=true then foc.getD j 0 else base+(j-foc.length))
 |.ptr j i o=>.ptr (if Nat.blt j foc.length=true then foc.getD j 0 else base+(j-foc.length)) i o
 |.sub _ _ _=>.any
 |.me j=>.me (if Nat.blt j foc.length=true then foc.getD j 0 else base+(j-foc.length))
 |x=>x
def Oj(foc:List Nat)(base:Nat):XV->XV
 |.agg cs=>.agg (cs.map (Ol foc base))
 |x=>Ol foc base x
def AX(foc:List Nat)(base:Nat):XO->XO
 |.box ty cs=>.box ty (cs.map (Ol foc base))
 |o=>o
def mW(foc:List Nat)(base:Nat):List Nat->List XO->List XO->List XO
 |[],h,os=>h++os.map (AX foc base)
 |id::l,h,o::os=>mW foc base l (h.set id (AX foc base o)) os
 |_::_,h,[]=>h
def nX(kp:List Nat):Nat->List Nat->List SO->List Nat
 |j,id::l,.row ..::os=>if kp.any (Nat.beq j)=true then nX kp (j+1) l os else id::nX kp (j+1) l os
 |j,_::l,_::os=>nX kp (j+1) l os
 |_,_,_=>[]
def xI(kp:List Nat)(hi ho:List XO):Bool:=match kp with
 |[]=>true
 |j::l=>match hi[j]?,ho[j]? with
  |some (.row ty T _ es),some (.row ty' T' _ es')=>(if(Nat.beq ty ty'&&Ty.same T T')=true then Nat.beq (List.length es) (List.length es') else false)&&xI l hi ho
  |_,_=>false
def kinds:List SO->List SO->Bool
 |[],_=>true
 |.row _ _ _::os,.row _ _ _::os'=>kinds os os'
 |.box _ _::os,.box _ _::os'=>kinds os os'
 |_,_=>false
def a1C(foc:List Nat)(base:Nat)(t:List XV):XV:=match t with
 |[v]=>Oj foc base v
 |vs=>.tup (vs.map (Oj foc base))
def VG:Nat->Bool:=λ_=>true
def OC:XV->Bool
 |.agg cs=>cs.all Ij
 |x=>Ij x
def leaves(ok:Nat->Bool)(rd:Opd->XV):I->Bool
 |.store _ x y=>match rd x with
  |.ptr id _ _=>ok id&&(fE (rd y)).all ok
  |_=>false
 |.app _ _ _ s _=>match rd s with
  |.row id=>ok id
  |.k _=>true
  |_=>false
 |.apps _ _ s _=>match rd s with
  |.row id=>ok id
  |.k _=>true
  |_=>false
 |.lI _ _ xs=>((xs.map rd).flatMap fE).all ok
 |.call _ args=>((args.map rd).flatMap fE).all ok
 |_=>true
def ru(kl:List Nat)(h:List XO):List XO:=kl.foldl (λh id=>h.map (UW id)) h
section
variable{β:Type}
def Du(f:Nat)(ok:Nat->Bool)(h:List XO)(vs:List XV)(K:XV->List Nat->List XO->Option β):List HI->Option β
 |[]=>none
 | p :: ps=>if (Nat.beq p.f f && Nat.beq p.ish.n vs.length && kinds p.ish.objs p.osh.objs)=true then match ext 0 p.ish ⟨vs,h⟩ with
   |some (foc,x)=>if foc.all ok=true then(p.run x).bind λy=>cond (xI p.kp (emb p.ish x).h (emb p.osh y).h) (K (a1C foc h.length (emb p.osh y).t) (nX p.kp 0 foc p.ish.objs) (mW foc h.length foc (ru (nX p.kp 0 foc p.ish.objs) h) (emb p.osh y).h)) none else none
   |none=>Du f ok h vs K ps
  else Du f ok h vs K ps
def Dt(f:Nat)(d:Bool)(h:List XO)(vs:List XV)(K:XV->List Nat->List XO->Option β)(o:Option β):List PI->Option β
 |[]=>o
 | p :: ps=>if Nat.beq p.f f=true then match zk h p.ps vs with
   |some x=>if xX p.rs=true then(p.run x).bind λy=>K (Gi p.rs y) [] h
    else if((!d&&!(uV p.rs))||(vs.flatMap fE).all (Gx h))=true then(p.run x).bind λy=>K (Gi p.rs y) [] (ko h (vs.flatMap fE)) else none
   |none=>Dt f d h vs K o ps
  else Dt f d h vs K o ps
def Mf(c:Cfg)(d:Bool)(ok:Nat->Bool)(h:List XO)(rd:Opd->XV)(K:XV->List Nat->List XO->Option β):I->Option β
 |.call fo args=>match rd fo with
  |.d (.fnc f) _=>Dt f d h (args.map rd) K (if d=true then none else Du f ok h (args.map rd) K c.his) c.pis
  |_=>none
 |i=>match ig c.tt h rd i with
  |some (p,v,kl,h')=>cond p (K v kl.toList (ru kl.toList h')) none
  |none=>none
abbrev Sp:=List (Nat×Nat×Bool×XV)
def rdC(GX:GXT)(sp:Sp)(ctx:List (Nat×Bool))(t:List XV):Opd->XV
 |.t i=>match sp.find? (λq=>Nat.beq q.1 i&&ctx.any λg=>Nat.beq g.1 q.2.1&&(g.2==q.2.2.1)) with
  |some q=>q.2.2.2
  |none=>t.getD i .any
 |o=>rdG GX t o
def kU:XV:=.k (.tuple #[])
def sV(s:Nat)(v:Bool)(sp:Sp)(t:List XV):List XV:=sp.foldl (λt q=>if Nat.beq q.2.1 s=true then t.set q.1 (if(q.2.2.1==v)=true then q.2.2.2 else kU) else t) (t.set s (.d .bool v))
def wo(s:Nat)(sp:Sp):Sp:=sp.filter λq=>!(Nat.beq q.2.1 s)
def Fz(kl:List Nat)(t:List XV):List XV:=kl.foldl (λt id=>t.map (Fv id)) t
def Fy(kl:List Nat)(sp:Sp):Sp:=kl.foldl (λsp id=>sp.map λq=>(q.1,q.2.1,q.2.2.1,Fv id q.2.2.2)) sp
def uI(t:List XV)(dst:Option Nat)(v:XV):List XV:=match dst with
 |some i=>t.set i v
 |none=>t
def jM(dst:Option Nat)(sp:Sp):Sp:=match dst with
 |some i=>sp.filter λq=>!(Nat.beq q.1 i)&&!(Nat.beq q.2.1 i)
 |none=>sp
def I8:I->Bool
 |.call ..|.store ..|.app ..|.apps ..|.lI ..|.bsc ..|.box ..|.alloc ..|.mk ..=>false
 |_=>true
def mrg:Bool->XV->XV->Option XV
 |t,.d T x,.d T' y=>match gB (b:=T) y with
  |some y=>some (.d T (cond t x y))
  |none=>none
 |_,_,_=>none
def a3E(X:XS)(sp:Sp)(dst:Option Nat)(s:Nat)(c a b:XV)(K:XS->Sp->Option β):Option β:=match c with
 |.d .bool t=>match mrg t a b with
  |some v=>K ⟨uI X.t dst v,X.h⟩ (jM dst sp)
  |none=>cond t (K ⟨uI (sV s true sp X.t) dst a,X.h⟩ (jM dst (wo s sp))) (K ⟨uI (sV s false sp X.t) dst b,X.h⟩ (jM dst (wo s sp)))
 |_=>none
def xun(c:Cfg)(d:Bool)(ok:Nat->Bool)(X:XS)(sp:Sp)(dst:Option Nat)(K:XS->Sp->Option β):I->Option β
 |.pick (.t s) a b=>a3E X sp dst s (rdG c.GX X.t (.t s)) (rdC c.GX sp [(s,true)] X.t a) (rdC c.GX sp [(s,false)] X.t b) K
 |i=>Mf c d ok X.h (rdG c.GX X.t) (λx kl h'=>K ⟨uI (Fz kl X.t) dst x,h'⟩ (jM dst (Fy kl sp))) i
def Bp(c:Cfg)(d:Bool)(ok:Nat->Bool)(X:XS)(sp:Sp)(dst:Option Nat)(s:Nat)(want:Bool)(i:I)(K:XS->Sp->Option β)(v:Bool):Option β :=
 if(v==want)=true then xun c d ok ⟨sV s v sp X.t,X.h⟩ (wo s sp) dst K i
 else K ⟨uI (sV s v sp X.t) dst kU,X.h⟩ (jM dst (wo s sp))
def HV(GX:GXT)(tt:Nat->Option Ty)(h:List XO)(t:List XV)(sp:Sp)(s:Nat)(want:Bool):I->Option (Bool×XV)
 |.pick (.t s') a b=>match rdC GX sp [(s,want)] t (.t s') with
  |.d .bool t'=>match mrg t' (rdC GX sp [(s',true),(s,want)] t a) (rdC GX sp [(s',false),(s,want)] t b) with
   |some v=>some (true,v)
   |none=>none
  |_=>none
 |i=>match ig tt h (rdC GX sp [(s,want)] t) i with
  |some (p,v,_,_)=>some (p,v)
  |none=>none
def yH(c:Cfg)(d:Bool)(ok:Nat->Bool):Nat->XS->Sp->(XS->Sp->Option β)->Ins->Option β
 |0,_,_,_,_=>none
 |n+1,X,sp,K,ins=>match ins.gd with
  |none=>xun c d ok X sp ins.dst K ins.i
  |some (s,want)=>match X.t.getD s .any with
   |.d .bool b=>match I8 ins.i,ins.dst,HV c.GX c.tt X.h X.t sp s want ins.i with
    |true,some u,some (p,v)=>if(Nat.blt u X.t.length&&!(Nat.beq u s))=true then cond (p||not (bEq b want)) (K ⟨X.t.set u .any,X.h⟩ ((u,s,want,v)::jM (some u) sp)) none else none
    |_,_,_=>cond b (Bp c d ok X sp ins.dst s want ins.i K true) (Bp c d ok X sp ins.dst s want ins.i K false)
   |.k (.tuple _)=>K ⟨uI X.t ins.dst kU,X.h⟩ (jM ins.dst sp)
   |.any=>match sp.find? (λq=>Nat.beq q.1 s) with
    |some q=>match X.t.getD q.2.1 .any with
     |.d .bool b=>cond b (yH c d ok n ⟨sV q.2.1 true sp X.t,X.h⟩ (wo q.2.1 sp) K ins) (yH c d ok n ⟨sV q.2.1 false sp X.t,X.h⟩ (wo q.2.1 sp) K ins)
     |_=>none
    |none=>none
   |_=>none
def a0U(c:Cfg)(d:Bool)(K:XS->Option β):List Ins->XS->Sp->Option β
 |[],X,_=>K X
 |i::r,X,sp=>yH c d VG 8 X sp (λX' sp'=>a0U c d K r X' sp') i
def Q7(ok:Nat->Bool)(rd:Opd->XV):I->Bool
 |.load _ _ x=>match rd x with
  |.ptr id _ _=>ok id
  |.lp _ _ _=>true
  |_=>false
 |.mQ _ _ _ x _=>match rd x with
  |.ptr id _ _=>ok id
  |.lp _ _ _=>true
  |_=>false
 |.b2s x=>match rd x with
  |.row id=>ok id
  |.sub id _ _=>ok id
  |.d _ _=>true
  |.k _=>true
  |_=>false
 |.call _ args=>(args.map rd).all OC&&((args.map rd).flatMap fE).all ok
 |_=>true
def xrd(c:Cfg)(ok:Nat->Bool)(X:XS)(sp:Sp)(K:XS->Sp->Option β)(ins:Ins):Option β:=match ins.gd with
 |none=>if Q7 ok (rdG c.GX X.t) ins.i=true then xun c true VG X sp ins.dst K ins.i else none
 |some (s,want)=>match X.t.getD s .any with
  |.d .bool b=>match I8 ins.i,ins.dst,HV c.GX c.tt X.h X.t sp s want ins.i with
   |true,some u,some (p,v)=>if(Nat.blt u X.t.length&&!(Nat.beq u s)&&Q7 ok (rdC c.GX sp [(s,want)] X.t) ins.i)=true then cond (p||not (bEq b want)) (K ⟨X.t.set u .any,X.h⟩ ((u,s,want,v)::jM (some u) sp)) none else none
   |_,_,_=>none
  |_=>none
def xwr(c:Cfg)(ok:Nat->Bool)(X:XS)(sp:Sp)(dst:Option Nat)(s:Nat)(want:Bool)(i:I)(K:XS->Sp->Option β)(v:Bool):Option β :=
 if(v==want)=true then(if leaves ok (rdG c.GX (sV s v sp X.t)) i=true then xun c false ok ⟨sV s v sp X.t,X.h⟩ (wo s sp) dst K i else none)
 else K ⟨uI (sV s v sp X.t) dst kU,X.h⟩ (jM dst (wo s sp))
def qU(c:Cfg)(m:Nat)(U:List Nat)(K:XS->Option β):List (Nat×Ins)->XS->Sp->Option β
 |[],X,_=>K X
 |(0,i)::r,X,sp=>yH c true VG 8 X sp (λX' sp'=>qU c m U K r X' sp') i
 |(1,i)::r,X,sp=>if Nat.ble i.i.cls 1=true then xrd c (λid=>Nat.blt id m&&!(U.any (Nat.beq id))) X sp (λX' sp'=>qU c m U K r X' sp') i else none
 |(_,i)::r,X,sp=>match i.gd with
  |none=>if leaves (λid=>Nat.ble m id||U.any (Nat.beq id)) (rdG c.GX X.t) i.i=true then yH c false (λid=>Nat.ble m id||U.any (Nat.beq id)) 8 X sp (λX' sp'=>qU c m U K r X' sp') i else none
  |some (s,want)=>match X.t.getD s .any with
   |.d .bool b=>cond b (xwr c (λid=>Nat.ble m id||U.any (Nat.beq id)) X sp i.dst s want i.i (λX' sp'=>qU c m U K r X' sp') true) (xwr c (λid=>Nat.ble m id||U.any (Nat.beq id)) X sp i.dst s want i.i (λX' sp'=>qU c m U K r X' sp') false)
   |_=>none
end
inductive XC where
 |skip
 |ops (draw:Bool) (l:List Ins)
 |pO (U:List Nat) (l:List (Nat×Ins))
 |seq (a b:XC)
 |TU (pre:List Pre) (sh:Sh) (a b:XC)
 |cond (c:Opd) (a b:XC)
 |block (id:Nat) (b:XC)
 |loop (pre:List Pre) (sh:Sh) (b:XC)
 |exit (id:Nat)
 |ret
def XC.er:XC->C
 |.skip=>.skip
 |.ops d l=>.ops d l
 |.pO _ l=>.pO l
 |.seq a b=>.seq a.er b.er
 |.TU _ _ a b=>.seq a.er b.er
 |.cond c a b=>.cond c a.er b.er
 |.block id b=>.block id b.er
 |.loop _ _ b=>.loop b.er
 |.exit id=>.exit id
 |.ret=>.ret
def K3(o:Opd)(v:Bool)(X:XS):XS:=match o with
 |.t i=>⟨X.t.set i (.d .bool v),X.h⟩
 |_=>X
def zX(nf:Nat)(pre:List Pre)(sh:Sh)(X:XS):Option (Ty.bO sh.tys):=match ext nf sh (xB nf pre X) with
 |some (foc,x)=>if(vK nf 0 foc&&Nat.beq X.t.length sh.n)=true then some x else none
 |none=>none
def lV{S R:Type}(o:Option (S⊕R))(f:S->Option R):Option R:=match o with
 |some (.inl s)=>f s
 |some (.inr r)=>some r
 |none=>none
def xwp(c:Cfg)(nf:Nat):XC->(β:Type)->(Exit->XS->Option β)->XS->Option β
  |.skip,β,K,X=>K .normal X
  |.ops d l,β,K,X=>a0U c d (K .normal) l X []
  |.pO U l,β,K,X=>qU c X.h.length U (K .normal) l X []
  |.seq a b,β,K,X=>xwp c nf a β (λe Y=>match e with|.normal=>xwp c nf b β K Y|e=>K e Y) X
  | .TU pre sh a b, β, K, X => lV (xwp c nf a (Ty.bO sh.tys ⊕ β) (fun e Y => match e with
        | .normal=>match zX nf pre sh Y with
          |some s'=>some (.inl s')
          |none=>none
        |e=>Option.map Sum.inr (K e Y)) X) (λs=>xwp c nf b β K (emb sh s))
  | .cond o a b,β,K,X=>match rdG c.GX X.t o with
    |.d .bool t=>cond t (xwp c nf a β K (K3 o true X)) (xwp c nf b β K (K3 o false X))
    |_=>none
  |.block id b,β,K,X=>xwp c nf b β (λe Y=>match e with|.exit i=>if Nat.beq i id=true then K .normal Y else K (.exit i) Y|e=>K e Y) X
  | .loop pre sh b,β,K,X=>match zX nf pre sh X with
    | some s => bK (fun s => xwp c nf b (Ty.bO sh.tys ⊕ β) (fun e Y => match e with
        | .normal=>match zX nf pre sh Y with
          |some s'=>some (.inl s')
          |none=>none
        |e=>Option.map Sum.inr (K e Y)) (emb sh s)) s
    |none=>none
  |.exit id,β,K,X=>K (.exit id) X
  |.ret,β,K,X=>K .ret X
def xU(c:Cfg)(X:XS):List RV->Option (List XV)
 |[]=>some []
 |.t i::r=>match xU c X r with
  |some l=>some (X.t.getD i .any::l)
  |none=>none
 |.c i sz ag::r=>match ig c.tt X.h (rdG c.GX X.t) (.load sz ag (.t i)),xU c X r with
  |some (true,v,_,_),some l=>some (v::l)
  |_,_=>none
def TB(c:Cfg)(rv:List RV)(rs:List Ty)(e:Exit)(X:XS):Option (Ty.bO rs):=match e with
 |.normal=>match xU c X rv with
  |some vs=>zk X.h rs vs
  |none=>none
 |.ret=>match xU c X rv with
  |some vs=>zk X.h rs vs
  |none=>none
 |_=>none
def a8N(c:Cfg)(xc:XC)(n:Nat)(rv:List RV)(ps rs:List Ty)(x:Ty.bO ps):Option (Ty.bO rs) :=
 xwp c 0 xc (Ty.bO rs) (TB c rv rs) ⟨Fq ps x++List.replicate (n-ps.length) .any,[]⟩
def a3F(c:Cfg)(xc:XC)(n:Nat)(rv:List RV)(pre:List Pre)(ish osh:Sh)(x:Ty.bO ish.tys):Option (Ty.bO osh.tys) :=
 xwp c ish.objs.length xc (Ty.bO osh.tys) (λe X=>match(match e with|.normal=>true|.ret=>true|_=>false),xU c (xB ish.objs.length pre X) rv with
  |true,some vs=>zX ish.objs.length [] osh ⟨vs,(xB ish.objs.length pre X).h⟩
  |_,_=>none) ⟨(emb ish x).t++List.replicate (n-ish.n) .any,(emb ish x).h⟩
def VX(c:Cfg)(xc:XC)(n:Nat)(rv:List RV)(pre:List Pre)(T:Ty)(ish osh:Sh)(x:Ty.bO ish.tys):Option (Ty.bO osh.tys) :=
 xwp c ish.objs.length xc (Ty.bO osh.tys) (λe X=>match(match e with|.normal=>true|.ret=>true|_=>false),xU c (xB ish.objs.length pre X) rv with
  |true,some [v]=>match toD (xB ish.objs.length pre X).h T v with
   |some z=>zX ish.objs.length [] osh ⟨[.d T z],ko (xB ish.objs.length pre X).h (fE v)⟩
   |none=>none
  |_,_=>none) ⟨(emb ish x).t++List.replicate (n-ish.n) .any,(emb ish x).h⟩
theorem wG{a b:Nat}(h:Nat.blt a b=true):a<b:=iZ h
theorem Vy{a b:Nat}(h:¬Nat.blt a b=true):b<=a:=Nat.le_of_lt_succ (Nat.lt_of_not_le (Nat.not_le_of_not_ble_eq_true h))
def gx(GX:GXT):Nat->Option (List AV):=λg=>if Nat.blt g 1000000=true then match GX g with
  |some ⟨T,x⟩=>some (Ty.enc T x).cells
  |none=>match GX (g+1000000) with
   |some ⟨.list (.int .i64),[te,b,o]⟩=>some [.v (.iface te.toNat (.pointer (some ⟨b.toNat,o.toNat,none⟩)))]
   |_=>none
 else none
def V1(ρ:List Nat)(h:List XO):XV->AV->Prop
 |.any,_=>True
 |.d T x,a=>Wp a (Ty.enc T x)
 |.k v,a=>a=.v v
 |.row id,a=>∃ty T fz es,h[id]?=some (.row ty T fz es)/\a=.row (ρ.getD id 0) es.length T.size 0 es.length
 |.sub id off len,a=>∃ty T fz es,h[id]?=some (.row ty T fz es)/\a=.row (ρ.getD id 0) es.length T.size off len
 |.me id,a=>a=.v (.pointer none)\/∃o,h[id]?=some o/\a=.ptr (ρ.getD id 0) o.len 0 0
 |.ptr id i off,a=>∃o,h[id]?=some o/\a=.ptr (ρ.getD id 0) o.len i off
 |.lp T x off,a=>∃cs,a=.iF cs/\bn Wp cs ((Ty.enc T x).cells.drop off)
 |.raw l,a=>a=l.headD .any
 |.agg _,_=>False
 |.tup _,_=>False
def VA(ρ:List Nat)(h:List XO):XV->AV->Prop
 |.agg cs,a=>∃as,a=.agg as/\bn (V1 ρ h) cs as
 |x,a=>V1 ρ h x a
def VT(ρ:List Nat)(h:List XO):XV->AV->Prop
 |.tup vs,a=>∃as,a=.tup as/\bn (VA ρ h) vs as
 |x,a=>VA ρ h x a
def wM(ρ:List Nat)(h:List XO):XO->aH->Prop
 |.row ty T fz es,O=>O.ty=ty/\O.sz=T.size/\O.pr=true/\O.fz=(if fz=true then es.length else 0)/\bn Wp O.es (es.map (Ty.enc T))
 |.box ty cs,O=>O.ty=ty/\O.sz=cs.length/\O.pr=false/\O.fz=0/\∃e,O.es=[e]/\bn (V1 ρ h) cs e.cells
structure HS (ρ:List Nat) (h:List XO) (H:List aH):Prop where
 rl:ρ.length=h.length
 nd:ρ.Nodup
 hr:∀(i:Nat) (o:XO),h[i]?=some o->∃O,H[ρ.getD i 0]?=some O/\wM ρ h o O
structure Sim (ρ:List Nat) (X:XS) (σ:St):Prop where
 t:bn (VT ρ X.h) X.t σ.t
 h:HS ρ X.h σ.h
def Pl1(a:AV):Prop:=(∃y,a=.v y/\y.oneCell'=true)\/∃sz xs,a=.list sz xs
theorem Pl1.keep{a:AV}(h:Pl1 a)(H:List aH):jY H a=some a:=by
 rcases h with⟨y,rfl,hy⟩|⟨sz,xs,rfl⟩
 .simp[jY,hy]
 .rfl
theorem Pl1.rows{a:AV}(h:Pl1 a):bZ a=[]:=by
 rcases h with⟨y,rfl,hy⟩|⟨sz,xs,rfl⟩<;>rfl
theorem Pl1.st{a:AV}(h:Pl1 a)(pr:Bool):st1 pr a=true:=by
 rcases h with⟨y,rfl,hy⟩|⟨sz,xs,rfl⟩
 .simpa[st1]using hy
 .rfl
theorem Pl1.of_wp{a b:AV}(h:Pl1 b)(hw:Wp a b):Pl1 a:=by
 rcases h with⟨y,rfl,hy⟩|⟨sz,xs,rfl⟩
 .rw[hw.dK];exact .inl ⟨y,rfl,hy⟩
 .rcases hw.jG with⟨rfl,_⟩|⟨ys,rfl,_⟩
  .exact .inl ⟨_,rfl,rfl⟩
  .exact .inr ⟨_,_,rfl⟩
theorem Pl1.cells{a:AV}(h:Pl1 a):a.cells=[a]:=by
 rcases h with⟨y,rfl,hy⟩|⟨sz,xs,rfl⟩<;>rfl
theorem CY(T:Ty):∀x:T.den,bn (λf c=>∃(T':Ty) (x':T'.den),f=XV.d T' x'/\c=Ty.enc T' x'/\T'.oq=false/\Pl1 c) (flat T x) (Ty.enc T x).cells:=by
 refine Ty.rec (motive_1:=λT=>∀x:T.den,bn (λf c=>∃(T':Ty) (x':T'.den),f=XV.d T' x'/\c=Ty.enc T' x'/\T'.oq=false/\Pl1 c) (flat T x) (Ty.enc T x).cells)
  (motive_2:=λfs=>∀x:Ty.bO fs,bn (λf c=>∃(T':Ty) (x':T'.den),f=XV.d T' x'/\c=Ty.enc T' x'/\T'.oq=false/\Pl1 c) (MP fs x) (Ty.iW fs x)) ?_ ?_ ?_ ?_ ?_ ?_ ?_ ?_ ?_ ?_ T
 .intro k x;exact .cons ⟨.int k,x,rfl,rfl,rfl,.inl ⟨_,rfl,rfl⟩⟩ .nil
 .intro x;exact .cons ⟨.bool,x,rfl,rfl,rfl,.inl ⟨_,rfl,rfl⟩⟩ .nil
 .intro x;exact .cons ⟨.str,x,rfl,rfl,rfl,.inl ⟨_,rfl,rfl⟩⟩ .nil
 .intro e _ x;exact .cons ⟨.list e,x,rfl,rfl,rfl,.inr ⟨_,_,rfl⟩⟩ .nil
 .intro fs ih x;exact ih x
 .intro f x;exact .cons ⟨.fnc f,x,rfl,rfl,rfl,.inl ⟨_,rfl,rfl⟩⟩ .nil
 .intro e _ x
  cases x with
  |none=>exact .cons ⟨.iP e,none,rfl,rfl,rfl,.inl ⟨_,rfl,rfl⟩⟩ .nil
  |some xs=>exact .cons ⟨.iP e,some xs,rfl,rfl,rfl,.inr ⟨_,_,rfl⟩⟩ .nil
 .intro ty sz x;exact .cons ⟨.rl ty sz,x,rfl,rfl,rfl,.inr ⟨_,_,rfl⟩⟩ .nil
 .intro x;exact .nil
 .intro t ts h1 h2 x;exact(h1 x.1).append (h2 x.2)
theorem a1A{T:Ty}{x:T.den}{c:AV}(h:c∈(Ty.enc T x).cells):Pl1 c:=by
 obtain⟨i,hi⟩:=dP.1 h
 obtain⟨f,_,_,_,_,_,_,hp⟩:=(CY T x).mZ hi
 exact hp
theorem a3I{T:Ty}{x:T.den}{a:AV}(hw:Wp a (Ty.enc T x)){c:AV}(h:c∈a.cells):Pl1 c:=by
 obtain⟨i,hi⟩:=dP.1 h
 obtain⟨b,hb,hwb⟩:=hw.cells.lq hi
 exact(a1A (bP hb)).of_wp hwb
theorem Z4{ρ:List Nat}{h:List XO}{T:Ty}{x:T.den}{a:AV}(hw:Wp a (Ty.enc T x)):bn (V1 ρ h) (flat T x) a.cells:=by
 have hf:=CY T x
 have hc:=hw.cells
 refine⟨by rw[hf.1,hc.1],λi f c p q=>?_⟩
 obtain⟨b,hb,T',x',rfl,rfl,_,_⟩:=hf.lq p
 exact hc.2 i c _ q hb
theorem qA{T:Ty}{x:T.den}:(T.oq=true/\∃cs,Ty.enc T x=.agg cs)\/(T.oq=false/\Pl1 (Ty.enc T x)):=by
 cases T with
 |tup fs=>exact .inl ⟨rfl,_,rfl⟩
 |int k=>exact .inr ⟨rfl,.inl ⟨_,rfl,rfl⟩⟩
 |bool=>exact .inr ⟨rfl,.inl ⟨_,rfl,rfl⟩⟩
 |str=>exact .inr ⟨rfl,.inl ⟨_,rfl,rfl⟩⟩
 |list e=>exact .inr ⟨rfl,.inr ⟨_,_,rfl⟩⟩
 |fnc f=>exact .inr ⟨rfl,.inl ⟨_,rfl,rfl⟩⟩
 |rl ty sz=>exact .inr ⟨rfl,.inr ⟨_,_,rfl⟩⟩
 |iP e =>
  cases x with
  |none=>exact .inr ⟨rfl,.inl ⟨_,rfl,rfl⟩⟩
  |some xs=>exact .inr ⟨rfl,.inr ⟨_,_,rfl⟩⟩
theorem EN{T:Ty}{x:T.den}{a:AV}(hw:Wp a (Ty.enc T x))(H:List aH):gW H a=some a/\dU a=[]:=by
 have kl:∀l:List AV,(∀c∈l,Pl1 c)->jK H l=some l/\l.flatMap bZ=[]:=by
  intro l
  induction l with
  |nil=>intro _;exact⟨rfl,rfl⟩
  |cons c l ih =>
   intro h
   obtain⟨i1,i2⟩:=ih λc hc=>h c (by simp[hc])
   have hp:=h c (by simp)
   exact⟨by simp only[jK,hp.keep H,i1],by simp[hp.rows,i2]⟩
 rcases qA (x:=x) with⟨_,cs,he⟩|⟨_,hp⟩
 .rw[he]at hw
  obtain⟨as,rfl,_⟩:=hw.iX
  rw[<- he]at hw
  obtain⟨k1,k2⟩:=kl as λc hc=>a3I hw hc
  exact⟨by simp[gW,k1],k2⟩
 .have hp':=hp.of_wp hw
  rcases hp' with⟨y,rfl,hy⟩|⟨sz,xs,rfl⟩
  .exact⟨by simp[gW,jY,hy],rfl⟩
  .exact⟨rfl,rfl⟩
theorem HY{T:Ty}{x:T.den}{a:AV}(hw:Wp a (Ty.enc T x))(pr:Bool):dB pr a=some a.cells:=by
 rcases qA (x:=x) with⟨_,cs,he⟩|⟨_,hp⟩
 .rw[he]at hw
  obtain⟨as,rfl,_⟩:=hw.iX
  rw[<- he]at hw
  have:as.all (st1 pr)=true:=aD.2 λc hc=>(a3I hw hc).st pr
  simp[dB,this,AV.cells]
 .have hp':=hp.of_wp hw
  have:=hp'.st pr
  rcases hp' with⟨y,rfl,hy⟩|⟨sz,xs,rfl⟩<;>simp[dB,AV.cells]<;>exact this
theorem a2K(fs:List Ty)(x:Ty.bO fs):(Ty.iW fs x).length=Ty.om fs:=ji (.tup fs) x
theorem Sz(T:Ty):∀(x:T.den) (o sz:Nat) (ag:Bool) (v:XV),atT T x o sz ag=some v->∃(T':Ty) (x':T'.den),v=.d T' x'/\(if ag=true then o+sz<=(Ty.enc T x).cells.length/\Ty.enc T' x'=.agg (((Ty.enc T x).cells.drop o).take sz) else(Ty.enc T x).cells[o]?=some (Ty.enc T' x')):=by
 have one:∀(T:Ty) (x:T.den) (o:Nat) (ag:Bool) (v:XV),(Ty.enc T x).cells=[Ty.enc T x]->(if(Nat.beq o 0&&!ag)=true then some (XV.d T x) else none)=some v->∃(T':Ty) (x':T'.den),v=.d T' x'/\∀sz,(if ag=true then o+sz<=(Ty.enc T x).cells.length/\Ty.enc T' x'=.agg (((Ty.enc T x).cells.drop o).take sz) else(Ty.enc T x).cells[o]?=some (Ty.enc T' x')):=by
  intro T x o ag v hc h
  split at h
  .rename_i hb
   simp only[aB,iT]at hb
   cases h
   have ho:=fV hb.1
   subst ho
   refine⟨T,x,rfl,λsz=>?_⟩
   rw[hb.2,hc];rfl
  .cases h
 refine Ty.rec (motive_1:=λT=>∀(x:T.den) (o sz:Nat) (ag:Bool) (v:XV),atT T x o sz ag=some v->∃(T':Ty) (x':T'.den),v=.d T' x'/\(if ag=true then o+sz<=(Ty.enc T x).cells.length/\Ty.enc T' x'=.agg (((Ty.enc T x).cells.drop o).take sz) else(Ty.enc T x).cells[o]?=some (Ty.enc T' x')))
  (motive_2:=λfs=>∀(x:Ty.bO fs) (o sz:Nat) (ag:Bool) (v:XV),atL fs x o sz ag=some v->∃(T':Ty) (x':T'.den),v=.d T' x'/\(if ag=true then o+sz<=(Ty.iW fs x).length/\Ty.enc T' x'=.agg (((Ty.iW fs x).drop o).take sz) else(Ty.iW fs x)[o]?=some (Ty.enc T' x'))) ?_ ?_ ?_ ?_ ?_ ?_ ?_ ?_ ?_ ?_ T
 .intro k x o sz ag v h;obtain⟨T',x',a,b⟩:=one (.int k) x o ag v rfl h;exact⟨T',x',a,b sz⟩
 .intro x o sz ag v h;obtain⟨T',x',a,b⟩:=one .bool x o ag v rfl h;exact⟨T',x',a,b sz⟩
 .intro x o sz ag v h;obtain⟨T',x',a,b⟩:=one .str x o ag v rfl h;exact⟨T',x',a,b sz⟩
 .intro e _ x o sz ag v h;obtain⟨T',x',a,b⟩:=one (.list e) x o ag v rfl h;exact⟨T',x',a,b sz⟩
 .intro fs ih x o sz ag v h
  simp only[atT]at h
  split at h
  .rename_i hb
   simp only[aB]at hb
   cases h
   have ho:=fV hb.1.1
   have hs:=fV hb.2
   subst ho hs
   refine⟨.tup fs,x,rfl,?_⟩
   rw[hb.1.2]
   have hlen:(Ty.iW fs x).length=Ty.om fs:=a2K fs x
   show(if true=true then 0+Ty.om fs<=(Ty.iW fs x).length/\AV.agg (Ty.iW fs x)=.agg (((Ty.iW fs x).drop 0).take (Ty.om fs)) else _)
   rw[if_pos rfl]
   exact⟨by omega,by rw[ku,eF (by omega)]⟩
  .exact ih x o sz ag v h
 .intro f x o sz ag v h;obtain⟨T',x',a,b⟩:=one (.fnc f) x o ag v rfl h;exact⟨T',x',a,b sz⟩
 .intro e _ x o sz ag v h;obtain⟨T',x',a,b⟩:=one (.iP e) x o ag v (by cases x<;>rfl) h;exact⟨T',x',a,b sz⟩
 .intro ty' sz' x o sz ag v h;obtain⟨T',x',a,b⟩:=one (.rl ty' sz') x o ag v rfl h;exact⟨T',x',a,b sz⟩
 .intro x o sz ag v h;simp[atL]at h
 .intro t ts h1 h2 x o sz ag v h
  simp only[atL]at h
  have hl:(Ty.enc t x.1).cells.length=t.size:=ji t x.1
  split at h
  .rename_i ho
   have ho:o<t.size:=wG ho
   obtain⟨T',x',rfl,hq⟩:=h1 x.1 o sz ag v h
   refine⟨T',x',rfl,?_⟩
   simp only[Ty.iW]
   cases ag with
   |true =>
    simp only[if_true]at hq ⊢
    refine⟨by rw[ak];omega,?_⟩
    rw[hq.2,wN (by omega),q9 (by rw[rJ];omega)]
   |false =>
    simp only[dH,if_false]at hq ⊢
    rw[au (by rw[hl];exact ho)];exact hq
  .rename_i ho
   have ho:t.size<=o:=Vy ho
   obtain⟨T',x',rfl,hq⟩:=h2 x.2 (o-t.size) sz ag v h
   refine⟨T',x',rfl,?_⟩
   simp only[Ty.iW]
   cases ag with
   |true =>
    simp only[if_true]at hq ⊢
    refine⟨by rw[ak];omega,?_⟩
    have e1:(Ty.enc t x.1).cells.drop o=[]:=iN (by omega)
    rw[hq.2,Ae,e1,fF,hl]
   |false =>
    simp only[dH,if_false]at hq ⊢
    rw[aO (by omega),hl];exact hq
theorem J9{A B:Ty}{x:A.den}{y:B.den}(h:gB x=some y):Ty.enc B y=Ty.enc A x/\A=B:=by
 obtain⟨rfl,rfl⟩:=lD h;exact⟨rfl,rfl⟩
theorem a1l{U:Ty}(y:U.den)(T:Ty):∀(x:T.den) (o:Nat) (z:T.den),DF y T x o=some z->o+U.size<=T.size/\(Ty.enc T z).cells=(Ty.enc T x).cells.take o++(Ty.enc U y).cells++(Ty.enc T x).cells.drop (o+U.size)/\(T.oq=false->o=0/\U.size=1):=by
 have whole:∀(T:Ty) (x z:T.den),gB y=some z->0+U.size<=T.size/\(Ty.enc T z).cells=(Ty.enc T x).cells.take 0++(Ty.enc U y).cells++(Ty.enc T x).cells.drop (0+U.size):=by
  intro T x z h
  obtain⟨e1,e2⟩:=J9 h
  subst e2
  refine⟨by omega,?_⟩
  rw[e1,qK,fF,iN (by rw[ji];omega),cu]
 have one:∀(T:Ty) (x z:T.den) (o:Nat),T.size=1->(if Nat.beq o 0=true then gB y else none)=some z->o+U.size<=T.size/\(Ty.enc T z).cells=(Ty.enc T x).cells.take o++(Ty.enc U y).cells++(Ty.enc T x).cells.drop (o+U.size)/\(T.oq=false->o=0/\U.size=1):=by
  intro T x z o hs h
  split at h
  .rename_i ho
   have ho:=fV ho
   subst ho
   obtain⟨a,b⟩:=whole T x z h
   refine⟨a,b,λ_=>⟨rfl,?_⟩⟩
   rw[(J9 h).2];exact hs
  .cases h
 refine Ty.rec (motive_1:=λT=>∀(x:T.den) (o:Nat) (z:T.den),DF y T x o=some z->o+U.size<=T.size/\(Ty.enc T z).cells=(Ty.enc T x).cells.take o++(Ty.enc U y).cells++(Ty.enc T x).cells.drop (o+U.size)/\(T.oq=false->o=0/\U.size=1))
  (motive_2:=λfs=>∀(x:Ty.bO fs) (o:Nat) (z:Ty.bO fs),DI y fs x o=some z->o+U.size<=Ty.om fs/\Ty.iW fs z=(Ty.iW fs x).take o++(Ty.enc U y).cells++(Ty.iW fs x).drop (o+U.size)) ?_ ?_ ?_ ?_ ?_ ?_ ?_ ?_ ?_ ?_ T
 .intro k x o z h;exact one (.int k) x z o rfl h
 .intro x o z h;exact one .bool x z o rfl h
 .intro x o z h;exact one .str x z o rfl h
 .intro e _ x o z h;exact one (.list e) x z o rfl h
 .intro fs ih x o z h
  have h':(if(Nat.beq o 0&&Ty.same U (.tup fs))=true then gB (b:=.tup fs) y else(show Option (Ty.den (.tup fs)) from DI y fs x o))=some z:=h
  by_cases hb:(Nat.beq o 0&&Ty.same U (.tup fs))=true
  .rw[if_pos hb]at h'
   simp only[aB]at hb
   have ho:=fV hb.1
   subst ho
   obtain⟨a,b⟩:=whole (.tup fs) x z h'
   exact⟨a,b,λq=>by cases q⟩
  .rw[if_neg hb]at h'
   obtain⟨a,b⟩:=ih x o z h'
   exact⟨a,b,λq=>by cases q⟩
 .intro f x o z h;exact one (.fnc f) x z o rfl h
 .intro e _ x o z h;exact one (.iP e) x z o rfl h
 .intro ty' sz' x o z h;exact one (.rl ty' sz') x z o rfl h
 .intro x o z h;simp[DI]at h
 .intro t ts h1 h2 x o z h
  have hl:(Ty.enc t x.1).cells.length=t.size:=ji t x.1
  simp only[DI]at h
  split at h
  .rename_i ho
   have ho:o<t.size:=wG ho
   obtain⟨u,hu,rfl⟩:∃u,DF y t x.1 o=some u/\z=(u,x.2):=by
    cases hu:DF y t x.1 o with
    |none=>rw[hu]at h;cases h
    |some u=>rw[hu]at h;cases h;exact⟨u,rfl,rfl⟩
   obtain⟨a,b,_⟩:=h1 x.1 o u hu
   refine⟨by simp only[Ty.om];omega,?_⟩
   simp only[Ty.iW]
   rw[b,q9 (by omega),wN (by omega)]
   simp only[aZ]
  .rename_i ho
   have ho:t.size<=o:=Vy ho
   obtain⟨u,hu,rfl⟩:∃u,DI y ts x.2 (o-t.size)=some u/\z=(x.1,u):=by
    cases hu:DI y ts x.2 (o-t.size) with
    |none=>rw[hu]at h;cases h
    |some u=>rw[hu]at h;cases h;exact⟨u,rfl,rfl⟩
   obtain⟨a,b⟩:=h2 x.2 (o-t.size) u hu
   refine⟨by simp only[Ty.om];omega,?_⟩
   simp only[Ty.iW]
   have e1:(Ty.enc t x.1).cells.take o=(Ty.enc t x.1).cells:=eF (by omega)
   have e2:(Ty.enc t x.1).cells.drop (o+U.size)=[]:=iN (by omega)
   rw[b,List.take_append,e1,hl,Ae,e2,fF,hl]
   simp only[aZ]
   rw[show o+U.size-t.size=o-t.size+U.size by omega]
def tX:XO->XO->Prop
 |.row ty T _ es,.row ty' T' _ es'=>ty=ty'/\T=T'/\es.length=es'.length
 |.box _ _,.box _ _=>True
 |.box _ _,.row _ _ _ es=>es.length=1
 |_,_=>False
theorem tX.refl(o:XO):tX o o:=by cases o<;>simp[tX]
theorem tX.len{o o':XO}(h:tX o o'):o'.len=o.len:=by
 cases o<;>cases o'<;>simp[tX]at h
 .simp only[XO.len];exact h.2.2.symm
 .simp only[XO.len];exact h
 .rfl
def hit(kl:List Nat):XV->Bool
 |.row j=>kl.contains j
 |.sub j _ _=>kl.contains j
 |.me j=>kl.contains j
 |.ptr j _ _=>kl.contains j
 |_=>false
def p8(kl:List Nat)(x:XV):XV:=kl.foldl (λx id=>wC id x) x
def yw(kl:List Nat)(x:XV):XV:=kl.foldl (λx id=>yY id x) x
def yu(kl:List Nat)(x:XV):XV:=kl.foldl (λx id=>Fv id x) x
theorem UZ(kl:List Nat):p8 kl .any=.any:=by
 induction kl with
 |nil=>rfl
 |cons k kl ih=>exact ih
theorem Gt(id:Nat)(x:XV):wC id x=if hit [id] x=true then .any else x:=by
 have key:∀j,(Nat.beq j id=true)↔([id].contains j=true):=λj=>by simp
 cases x<;>simp only[wC,hit,key]<;>rfl
theorem YH(kl:List Nat):∀x,p8 kl x=if hit kl x=true then .any else x:=by
 induction kl with
 |nil=>intro x;cases x<;>rfl
 |cons k kl ih =>
  intro x
  show p8 kl (wC k x)=_
  rw[Gt]
  have hc:hit (k::kl) x=(hit [k] x||hit kl x):=by
   cases x<;>simp[hit,List.contains_cons]
  rw[hc]
  by_cases h1:hit [k] x=true
  .rw[if_pos h1,UZ,h1];rfl
  .rw[if_neg h1,ih]
   simp only[vI]at h1
   rw[h1];rfl
theorem UY(kl:List Nat):∀cs,yw kl (.agg cs)=.agg (cs.map (p8 kl)):=by
 induction kl with
 |nil=>intro cs;show XV.agg cs=.agg (cs.map λx=>x);simp
 |cons k kl ih =>
  intro cs
  show yw kl (.agg (cs.map (wC k)))=_
  rw[ih,fH];rfl
theorem QZ(kl:List Nat):∀x,(∀cs,x≠.agg cs)->yw kl x=p8 kl x:=by
 induction kl with
 |nil=>intro x _;rfl
 |cons k kl ih =>
  intro x hx
  have e:yY k x=wC k x:=by cases x<;>first|rfl|exact absurd rfl (hx _)
  show yw kl (yY k x)=p8 kl (wC k x)
  rw[e]
  refine ih _ λcs q=>?_
  rw[Gt]at q
  split at q
  .cases q
  .exact hx cs q
theorem UU(kl:List Nat):∀vs,yu kl (.tup vs)=.tup (vs.map (yw kl)):=by
 induction kl with
 |nil=>intro cs;show XV.tup cs=.tup (cs.map λx=>x);simp
 |cons k kl ih =>
  intro cs
  show yu kl (.tup (cs.map (yY k)))=_
  rw[ih,fH];rfl
theorem QY(kl:List Nat):∀x,(∀vs,x≠.tup vs)->yu kl x=yw kl x:=by
 induction kl with
 |nil=>intro x _;rfl
 |cons k kl ih =>
  intro x hx
  have e:Fv k x=yY k x:=by cases x<;>first|rfl|exact absurd rfl (hx _)
  show yu kl (Fv k x)=yw kl (yY k x)
  rw[e]
  refine ih _ λvs q=>?_
  by_cases ha:∃cs,x=.agg cs
  .obtain⟨cs,rfl⟩:=ha;cases q
  .have e2:yY k x=wC k x:=by cases x<;>first|rfl|exact absurd ⟨_,rfl⟩ ha
   rw[e2,Gt]at q
   split at q
   .cases q
   .exact hx vs q
theorem YG(kl:List Nat):∀t,Fz kl t=t.map (yu kl):=by
 induction kl with
 |nil=>intro t;show t=t.map λx=>x;simp
 |cons k kl ih =>
  intro t
  show Fz kl (t.map (Fv k))=_
  rw[ih,fH];rfl
section
variable{ρ ρ' ρ'':List Nat}{h h' h'':List XO}{H H' H'':List aH}
theorem VA.of1{x:XV}{a:AV}(hv:V1 ρ h x a):VA ρ h x a:=by
 cases x<;>first|exact hv|exact hv.elim
theorem VT.ofA{x:XV}{a:AV}(hv:VA ρ h x a):VT ρ h x a:=by
 cases x<;>first|exact hv|exact hv.elim
theorem VT.of1{x:XV}{a:AV}(hv:V1 ρ h x a):VT ρ h x a:=VT.ofA (VA.of1 hv)
def Trn(ρ:List Nat)(h:List XO)(ρ':List Nat)(h':List XO)(kl:List Nat):Prop:=∀x a,V1 ρ h x a->V1 ρ' h' (p8 kl x) a
theorem Trn.A{kl:List Nat}(ht:Trn ρ h ρ' h' kl){x:XV}{a:AV}(hv:VA ρ h x a):VA ρ' h' (yw kl x) a:=by
 by_cases ha:∃cs,x=.agg cs
 .obtain⟨cs,rfl⟩:=ha
  obtain⟨as,rfl,hc⟩:=hv
  rw[UY]
  refine⟨as,rfl,by simp[hc.1],λi y b p q=>?_⟩
  rw[aT]at p
  cases hy:cs[i]? with
  |none=>rw[hy]at p;cases p
  |some z=>rw[hy]at p;cases p;exact ht z b (hc.2 i z b hy q)
 .rw[QZ kl x λcs q=>ha ⟨cs,q⟩]
  exact VA.of1 (ht x a (by cases x<;>first|exact hv|exact absurd ⟨_,rfl⟩ ha))
theorem Trn.T{kl:List Nat}(ht:Trn ρ h ρ' h' kl){x:XV}{a:AV}(hv:VT ρ h x a):VT ρ' h' (yu kl x) a:=by
 by_cases ha:∃cs,x=.tup cs
 .obtain⟨cs,rfl⟩:=ha
  obtain⟨as,rfl,hc⟩:=hv
  rw[UU]
  refine⟨as,rfl,by simp[hc.1],λi y b p q=>?_⟩
  rw[aT]at p
  cases hy:cs[i]? with
  |none=>rw[hy]at p;cases p
  |some z=>rw[hy]at p;cases p;exact ht.A (hc.2 i z b hy q)
 .rw[QY kl x λcs q=>ha ⟨cs,q⟩]
  exact VT.ofA (ht.A (by cases x<;>first|exact hv|exact absurd ⟨_,rfl⟩ ha))
theorem Trn.trans{kl kl':List Nat}(h1:Trn ρ h ρ' h' kl)(h2:Trn ρ' h' ρ'' h'' kl'):Trn ρ h ρ'' h'' (kl++kl'):=λx a hv=>by
 have:p8 (kl++kl') x=p8 kl' (p8 kl x):=by simp[p8,iR]
 rw[this];exact h2 _ _ (h1 x a hv)
theorem Trn.mk{kl:List Nat}(hh:∀id o,h[id]?=some o->id∉kl->∃o',h'[id]?=some o'/\tX o o')(hr:∀id,id<h.length->ρ'.getD id 0=ρ.getD id 0):Trn ρ h ρ' h' kl:=λx a hv=>by
 rw[YH]
 split
 .trivial
 .rename_i hh1
  have lt:∀{id:Nat} {o:XO},h[id]?=some o->id<h.length:=λq=>(aj.1 q).1
  cases x with
  |row id =>
   obtain⟨ty,T,fz,es,e1,rfl⟩:=hv
   obtain⟨o',e2,hs⟩:=hh id _ e1 (by simpa[hit]using hh1)
   cases o' with
   |box ty' cs=>exact hs.elim
   |row ty' T' fz' es' =>
    obtain⟨rfl,rfl,hl⟩:=hs
    exact⟨_,_,_,es',e2,by rw[hr id (lt e1),hl]⟩
  |sub id off len =>
   obtain⟨ty,T,fz,es,e1,rfl⟩:=hv
   obtain⟨o',e2,hs⟩:=hh id _ e1 (by simpa[hit]using hh1)
   cases o' with
   |box ty' cs=>exact hs.elim
   |row ty' T' fz' es' =>
    obtain⟨rfl,rfl,hl⟩:=hs
    exact⟨_,_,_,es',e2,by rw[hr id (lt e1),hl]⟩
  |me id =>
   rcases hv with hv|⟨o,e1,rfl⟩
   .exact .inl hv
   .obtain⟨o',e2,hs⟩:=hh id _ e1 (by simpa[hit]using hh1)
    exact .inr ⟨o',e2,by rw[hr id (lt e1),hs.len]⟩
  |ptr id i off =>
   obtain⟨o,e1,rfl⟩:=hv
   obtain⟨o',e2,hs⟩:=hh id _ e1 (by simpa[hit]using hh1)
   exact⟨o',e2,by rw[hr id (lt e1),hs.len]⟩
  |_=>exact hv
theorem wu(cs:List XV):cs.map (p8 [])=cs:=by show cs.map (λx=>x)=cs;simp
theorem Trn.cells{kl:List Nat}(ht:Trn ρ h ρ' h' kl){cs:List XV}{as:List AV}(hc:bn (V1 ρ h) cs as):bn (V1 ρ' h') (cs.map (p8 kl)) as :=
 ⟨by simp[hc.1],λi y b p q=>by
  rw[aT]at p
  cases hy:cs[i]? with
  |none=>rw[hy]at p;cases p
  |some z=>rw[hy]at p;cases p;exact ht z b (hc.2 i z b hy q)⟩
def rR(kl:List Nat):XO->XO
 |.box ty cs=>.box ty (cs.map (p8 kl))
 |o=>o
theorem Trn.obj{kl:List Nat}(ht:Trn ρ h ρ' h' kl){o:XO}{O:aH}(ho:wM ρ h o O):wM ρ' h' (rR kl o) O:=by
 cases o with
 |row ty T fz es=>exact ho
 |box ty cs =>
  obtain⟨a,b,c,d,e,he,hc⟩:=ho
  exact⟨a,by simpa using b,c,d,e,he,ht.cells hc⟩
theorem wB(o:XO):rR [] o=o:=by
 cases o with
 |row=>rfl
 |box ty cs=>simp only[rR,wu]
theorem vN(kl:List Nat):∀h,ru kl h=h.map (rR kl):=by
 induction kl with
 |nil=>intro h;show h=h.map (rR []);rw[show rR []=λo=>o from funext wB];simp
 |cons k kl ih =>
  intro h
  show ru kl (h.map (UW k))=_
  rw[ih,fH]
  congr 1
  funext o
  cases o with
  |row=>rfl
  |box ty cs=>simp only[Function.comp,UW,rR,fH];rfl
theorem HS.lt(hs:HS ρ h H){i:Nat}(hi:i<h.length):ρ.getD i 0<H.length:=by
 obtain⟨O,hO,_⟩:=hs.hr i h[i] (ah hi)
 exact(aj.1 hO).1
theorem HS.Yu(hs:HS ρ h H){x:Nat}(hx:x∈ρ):x<H.length:=by
 obtain⟨i,hi⟩:=dP.1 hx
 have hl:i<ρ.length:=(aj.1 hi).1
 have:=hs.lt (i:=i) (by rw[<- hs.rl];exact hl)
 simpa[List.getD,hi]using this
theorem HS.inj(hs:HS ρ h H){i j:Nat}(hi:i<h.length)(hj:j<h.length)(he:ρ.getD i 0=ρ.getD j 0):i=j:=by
 have hi':i<ρ.length:=by rw[hs.rl];exact hi
 have hj':j<ρ.length:=by rw[hs.rl];exact hj
 simp only[List.getD,ah hi',ah hj',gF]at he
 have hp:=List.pairwise_iff_getElem.1 hs.nd
 rcases uM i j with q|q|q
 .exact absurd he (hp i j hi' hj' q)
 .exact q
 .exact absurd he.symm (hp j i hj' hi' q)
structure Upd (ρ:List Nat) (h:List XO) (H:List aH) (ρ':List Nat) (h':List XO) (H':List aH) (kl tch:List Nat):Prop where
 hs:HS ρ' h' H'
 tr:Trn ρ h ρ' h' kl
 ge:H.length<=H'.length
 fr:∀j,j<H.length->(∀id∈tch,id<h.length->ρ.getD id 0≠j)->H'[j]?=H[j]?
 ap:∃news,ρ'=ρ++news/\∀x∈news,H.length<=x
 hl:h.length<=h'.length
theorem Upd.same(hs:HS ρ h H):Upd ρ h H ρ h H [] []:=⟨hs,λx a hv=>hv,aS _,λ_ _ _=>rfl,⟨[],by simp,by simp⟩,aS _⟩
theorem lG{l l':List Nat}{i:Nat}(hi:i<l.length):(l++l').getD i 0=l.getD i 0:=by simp[List.getD,au hi]
theorem Upd.new(hs:HS ρ h H){o:XO}{O:aH}(ho:wM ρ h o O):Upd ρ h H (ρ++[H.length]) (h++[o]) (H++[O]) [] []:=by
 have ht:Trn ρ h (ρ++[H.length]) (h++[o]) []:=Trn.mk (λid o' e _=>⟨o',by rw[au (aj.1 e).1];exact e,tX.refl _⟩) (λid hid=>lG (by rw[hs.rl];exact hid))
 refine⟨⟨by simp[hs.rl],?_,λi o' e=>?_⟩,ht,by simp,λj hj _=>au hj,⟨[H.length],rfl,by simp⟩,by simp⟩
 .rw[dN]
  refine⟨hs.nd,by simp,λa ha b hb=>?_⟩
  simp at hb
  have:=hs.Yu ha
  omega
 .rcases bI i h.length with hi|hi
  .rw[au hi]at e
   obtain⟨O',hO',hR⟩:=hs.hr i o' e
   refine⟨O',by rw[lG (by rw[hs.rl];exact hi),au (hs.lt hi)];exact hO',?_⟩
   have:=ht.obj hR
   rw[wB]at this;exact this
  .have hi':i=h.length:=by have:=(aj.1 e).1;simp at this;omega
   subst hi'
   rw[aO (aS _)]at e
   simp at e
   subst e
   refine⟨O,by rw[<- hs.rl];simp[List.getD],?_⟩
   have:=ht.obj ho
   rw[wB]at this;exact this
theorem Upd.set(hs:HS ρ h H){id:Nat}{o o':XO}{O':aH}(he:h[id]?=some o)(hs2:tX o o')(ho:wM ρ h o' O'):Upd ρ h H ρ (h.set id o') (H.set (ρ.getD id 0) O') [] [id]:=by
 have hid:id<h.length:=(aj.1 he).1
 have ht:Trn ρ h ρ (h.set id o') []:=Trn.mk (λj oj e _=>by
  by_cases hj:id=j
  .subst hj;rw[he]at e;cases e;exact⟨o',by rw[aK hid],hs2⟩
  .exact⟨oj,by rw[aC hj];exact e,tX.refl _⟩) (λ_ _=>rfl)
 refine⟨⟨by simp[hs.rl],hs.nd,λi oi e=>?_⟩,ht,by simp,λj hj hn=>?_,⟨[],by simp,by simp⟩,by simp⟩
 .by_cases hi:id=i
  .subst hi
   rw[aK hid]at e
   cases e
   refine⟨O',by rw[aK (hs.lt hid)],?_⟩
   have:=ht.obj ho
   rw[wB]at this;exact this
  .rw[aC hi]at e
   have hil:=(aj.1 e).1
   obtain⟨O1,hO1,hR⟩:=hs.hr i oi e
   refine⟨O1,by rw[aC (λq=>hi (hs.inj hid hil q))];exact hO1,?_⟩
   have:=ht.obj hR
   rw[wB]at this;exact this
 .rw[aC (hn id (by simp) hid)]
theorem Upd.app(hs:HS ρ h H){id ty:Nat}{T:Ty}{fz fz':Bool}{es es':List T.den}{O':aH}(he:h[id]?=some (.row ty T fz es))(ho:wM ρ h (.row ty T fz' es') O'):Upd ρ h H ρ (ru [id] (h.set id (.row ty T fz' es'))) (H.set (ρ.getD id 0) O') [id] [id]:=by
 have hid:id<h.length:=(aj.1 he).1
 rw[vN]
 have ht:Trn ρ h ρ ((h.set id (.row ty T fz' es')).map (rR [id])) [id]:=Trn.mk (λj oj e hj=>by
  refine⟨rR [id] oj,by rw[aT,aC (by simpa using λq=>hj (by simp[q])),e];rfl,?_⟩
  cases oj<;>simp[tX,rR]) (λ_ _=>rfl)
 refine⟨⟨by simp[hs.rl],hs.nd,λi oi e=>?_⟩,ht,by simp,λj hj hn=>?_,⟨[],by simp,by simp⟩,by simp⟩
 .rw[aT]at e
  by_cases hi:id=i
  .subst hi
   rw[aK hid]at e
   cases e
   exact⟨O',by rw[aK (hs.lt hid)],ho⟩
  .rw[aC hi]at e
   cases hx:h[i]? with
   |none=>rw[hx]at e;cases e
   |some ox =>
    rw[hx]at e;cases e
    have hil:=(aj.1 hx).1
    obtain⟨O1,hO1,hR⟩:=hs.hr i ox hx
    exact⟨O1,by rw[aC (λq=>hi (hs.inj hid hil q))];exact hO1,ht.obj hR⟩
 .rw[aC (hn id (by simp) hid)]
theorem Upd.trans{kl kl' tch a9j:List Nat}(h1:Upd ρ h H ρ' h' H' kl tch)(h2:Upd ρ' h' H' ρ'' h'' H'' kl' a9j)(hρ:ρ.length=h.length):Upd ρ h H ρ'' h'' H'' (kl++kl') (tch++a9j):=by
 obtain⟨n1,e1,q1⟩:=h1.ap
 obtain⟨n2,e2,q2⟩:=h2.ap
 refine⟨h2.hs,h1.tr.trans h2.tr,bF h1.ge h2.ge,λj hj hn=>?_,⟨n1++n2,by rw[e2,e1,aZ],λx hx=>?_⟩,bF h1.hl h2.hl⟩
 .rw[h2.fr j (ni hj h1.ge) (λid hid hlt=>?_),h1.fr j hj (λid hid=>hn id (by simp[hid]))]
  rcases bI id h.length with hl|hl
  .rw[e1,lG (by rw[hρ];exact hl)];exact hn id (by simp[hid]) hl
  .intro hq
   have hl':id<ρ'.length:=by rw[h1.hs.rl];exact hlt
   have:ρ'.getD id 0∈n1:=by
    rw[e1]at hl' ⊢
    simp only[ak]at hl'
    have:(ρ++n1).getD id 0=n1[id-ρ.length]'(by omega):=by
     simp only[List.getD]
     rw[aO (by omega),ah (by omega)];rfl
    rw[this];exact jA _
   have:=q1 _ this
   omega
 .rcases aG.1 hx with hx|hx
  .exact q1 x hx
  .exact bF h1.ge (q2 x hx)
def isRow(h:List XO)(id:Nat):Prop:=∃ty T fz es,h[id]?=some (.row ty T fz es)
theorem Upd.frz:∀(ids:List Nat) {h:List XO} {H:List aH},HS ρ h H->(∀id∈ids,isRow h id)->Upd ρ h H ρ (ko h ids) (freeze H (ids.map λid=>ρ.getD id 0)) [] ids:=by
 intro ids
 induction ids with
 |nil=>intro h H hs _;exact Upd.same hs
 |cons id ids ih =>
  intro h H hs hr
  obtain⟨ty,T,fz,es,e⟩:=hr id (by simp)
  obtain⟨O,hO,o1,o2,o3,o4,o5⟩:=hs.hr id _ e
  have hlen:O.es.length=es.length:=by have:=o5.1;simpa using this
  have u1:Upd ρ h H ρ (h.set id (.row ty T true es)) (H.set (ρ.getD id 0) { O with fz:=O.es.length }) [] [id] :=
   Upd.set hs e ⟨rfl,rfl,rfl⟩ ⟨o1,o2,o3,by simp[hlen],o5⟩
  have u2:=ih u1.hs (λj hj=>by
   obtain⟨ty',T',fz',es',e'⟩:=hr j (by simp[hj])
   by_cases hij:id=j
   .subst hij;exact⟨ty,T,true,es,by rw[aK (aj.1 e).1]⟩
   .exact⟨ty',T',fz',es',by rw[aC hij];exact e'⟩)
  have e1:ko h (id::ids)=ko (h.set id (.row ty T true es)) ids:=by simp only[ko,eX,e];rfl
  have e2:freeze H ((id::ids).map λid=>ρ.getD id 0)=freeze (H.set (ρ.getD id 0) { O with fz:=O.es.length }) (ids.map λid=>ρ.getD id 0):=by simp only[freeze,bg,eX,hO]
  rw[e1,e2]
  exact u1.trans u2 hs.rl
end
section
variable{ρ:List Nat}{h:List XO}{H:List aH}
def yE(ρ:List Nat)(h:List XO)(H:List aH)(x:XV)(a e:AV):Prop :=
 ∃b,gW H a=some b/\Wp b e/\dU a=(fE x).map (λid=>ρ.getD id 0)/\∀id∈fE x,isRow h id
theorem b1T{x:XV}{a:AV}(hv:V1 ρ h x a):V1 ρ h (lst x) a:=by
 unfold lst
 split
 .rename_i e o
  cases o with
  |none=>have:=Wp.dK hv;subst this;exact Wp.nil _
  |some xs=>exact hv
 .exact hv
theorem Pv{x:XV}{a:AV}(hv:VA ρ h x a):VA ρ h (lst x) a:=by
 by_cases ha:∃cs,x=.agg cs
 .obtain⟨cs,rfl⟩:=ha;exact hv
 .exact VA.of1 (b1T (by cases x<;>first|exact hv|exact absurd ⟨_,rfl⟩ ha))
theorem IU{x:XV}{a:AV}(hv:VT ρ h x a):VT ρ h (lst x) a:=by
 by_cases ha:∃cs,x=.tup cs
 .obtain⟨cs,rfl⟩:=ha;exact hv
 .exact VT.ofA (Pv (by cases x<;>first|exact hv|exact absurd ⟨_,rfl⟩ ha))
theorem a2c(x:XV):fE (lst x)=fE x:=by
 unfold lst
 split<;>rfl
def DLs(ρ:List Nat)(h:List XO)(H:List aH)(fs:List Ty):Prop :=
 ∀(cs:List XV) (as:List AV) (z:Ty.bO fs) (r:List XV),bn (V1 ρ h) cs as->vV h fs cs=some (z,r)->
  ∃cs1 as1 as2 bs,cs=cs1++r/\as=as1++as2/\bn (V1 ρ h) r as2/\jK H as1=some bs/\bn Wp bs (Ty.iW fs z)/\as1.flatMap bZ=(cs1.flatMap kC).map (λid=>ρ.getD id 0)/\∀id∈cs1.flatMap kC,isRow h id
theorem V5:∀{l m l' m':List AV},jK H l=some l'->jK H m=some m'->jK H (l++m)=some (l'++m'):=by
 intro l
 induction l with
 |nil=>intro m l' m' h1 h2;cases h1;exact h2
 |cons a l ih =>
  intro m l' m' h1 h2
  simp only[jK]at h1
  split at h1
  .rename_i b n hb hn
   cases h1
   simp only[Af,jK,hb,ih hn h2]
  .cases h1
theorem BF{T T':Ty}{y:T'.den}{z:T.den}{a:AV}(hc:gB y=some z)(hv:VA ρ h (.d T' y) a):yE ρ h H (.d T' y) a (Ty.enc T z):=by
 obtain⟨rfl,rfl⟩:=lD hc
 obtain⟨k1,k2⟩:=EN (x:=z) hv H
 exact⟨a,k1,hv,k2,by simp[fE,kC]⟩
theorem KH{t:Ty}(ht:¬∃gs,t=.tup gs)(ts:List Ty)(cs:List XV):vV h (t::ts) cs=match cs with
  |[]=>none
  |c::r=>match toD h t c with
   |some x=>match vV h ts r with
    |some (y,r')=>some ((x,y),r')
    |none=>none
   |none=>none:=by
 cases t<;>first|exact absurd ⟨_,rfl⟩ ht|(cases cs<;>rfl)
theorem xJ(hs:HS ρ h H){id off len ty:Nat}{T:Ty}{fz:Bool}{es:List T.den}(he:h[id]?=some (.row ty T fz es)):jY H (.row (ρ.getD id 0) es.length T.size off len)=some (.list T.size ((((H[ρ.getD id 0]?).map (·.es)).getD []).drop off |>.take len))/\Wp (.list T.size ((((H[ρ.getD id 0]?).map (·.es)).getD []).drop off |>.take len)) (Ty.enc (.list T) ((es.drop off).take len)):=by
 obtain⟨O,hO,o1,o2,o3,o4,o5⟩:=hs.hr id _ he
 have hlen:O.es.length=es.length:=by have:=o5.1;simpa using this
 refine⟨by simp only[jY,hO,hlen,o2,o3,true_and,and_self,if_true,bq,gF],?_⟩
 simp only[hO,bq,gF]
 have:=(o5.drop off).take len
 show Wp _ (.list T.size (((es.drop off).take len).map (Ty.enc T)))
 rw[yR,yS]
 exact .list _ _ _ this.1 this.2
theorem Wy{e:Ty}{v:Value}{z:Ty.den (.iP e)}(hx:toD h (.iP e) (.k v)=some z):v=.slice none 0 0/\z=none:=by
 cases v with
 |slice ad n c =>
  cases ad with
  |some _=>cases hx
  |none =>
   cases n with
   |succ n=>cases hx
   |zero =>
    cases c with
    |succ c=>cases hx
    |zero=>exact⟨rfl,(aI hx).symm⟩
 |_=>cases hx
theorem Wx{ty sz:Nat}{v:Value}{z:Ty.den (.rl ty sz)}(hx:toD h (.rl ty sz) (.k v)=some z):v=.slice none 0 0/\z=[]:=by
 cases v with
 |slice ad n c =>
  cases ad with
  |some _=>cases hx
  |none =>
   cases n with
   |succ n=>cases hx
   |zero =>
    cases c with
    |succ c=>cases hx
    |zero=>exact⟨rfl,(aI hx).symm⟩
 |_=>cases hx
theorem Ww(hs:HS ρ h H)(T:Ty):(∀(x:XV) (z:T.den) (a:AV),toD h T x=some z->VA ρ h x a->yE ρ h H x a (Ty.enc T z))/\∀gs,T=.tup gs->DLs ρ h H gs:=by
 have Cj:∀(T:Ty),(∀x,toD h T x=match(generalizing:=false) x with|.d T' x=>gB x|_=>none)->∀(x:XV) (z:T.den) (a:AV),toD h T x=some z->VA ρ h x a->yE ρ h H x a (Ty.enc T z):=by
  intro T hT x z a hz hv
  rw[hT]at hz
  cases x with
  |d T' y=>exact BF hz hv
  |_=>cases hz
 refine Ty.rec (motive_1:=λT=>(∀(x:XV) (z:T.den) (a:AV),toD h T x=some z->VA ρ h x a->yE ρ h H x a (Ty.enc T z))/\∀gs,T=.tup gs->DLs ρ h H gs)
  (motive_2:=λfs=>DLs ρ h H fs) ?_ ?_ ?_ ?_ ?_ ?_ ?_ ?_ ?_ ?_ T
 .intro k;exact⟨Cj (.int k) (λx=>by cases x<;>simp only[toD]),λgs q=>by cases q⟩
 .exact⟨Cj .bool (λx=>by cases x<;>simp only[toD]),λgs q=>by cases q⟩
 .exact⟨Cj .str (λx=>by cases x<;>simp only[toD]),λgs q=>by cases q⟩
 .intro e _
  refine⟨λx z a hz hv=>?_,λgs q=>by cases q⟩
  simp only[toD]at hz
  have hv:=Pv hv
  unfold yE
  rw[<- a2c x]
  show yE ρ h H (lst x) a _
  generalize lst x=x at hz hv
  cases x with
  |d T' y=>exact BF hz hv
  |k v =>
   split at hz
   all_goals first|(cases ‹_=_›;done)|skip
   all_goals try (rename_i q;cases q)
   all_goals first
    |(cases hz;done)
    |(cases hz;have hv:a=.v (.slice none 0 0):=hv;subst hv;exact⟨_,rfl,Wp.nil _,rfl,by simp[fE,kC]⟩)
  |row id =>
   obtain⟨ty,T,fz,es,he,rfl⟩:=hv
   simp only[he]at hz
   obtain⟨q,rfl⟩:=lD hz
   cases q
   obtain⟨k1,k2⟩:=xJ hs (off:=0) (len:=es.length) he
   refine⟨_,k1,?_,rfl,?_⟩
   .simpa using k2
   .simp[fE,kC];exact⟨_,_,_,_,he⟩
  |sub id off len =>
   obtain⟨ty,T,fz,es,he,rfl⟩:=hv
   simp only[he]at hz
   obtain⟨q,rfl⟩:=lD hz
   cases q
   obtain⟨k1,k2⟩:=xJ hs (off:=off) (len:=len) he
   refine⟨_,k1,k2,rfl,?_⟩
   simp[fE,kC];exact⟨_,_,_,_,he⟩
  |_=>simp at hz
 .intro fs ih
  refine⟨λx z a hz hv=>?_,λgs q=>by cases q;exact ih⟩
  cases x with
  |d T' y=>simp only[toD]at hz;exact BF hz hv
  |agg cs =>
   simp only[toD]at hz
   split at hz
   .rename_i z' hz'
    have hzz:z'=z:=aI hz
    subst hzz
    obtain⟨as,rfl,hc⟩:=hv
    obtain⟨cs1,as1,as2,bs,rfl,rfl,h2,hk,hw,hrows,hval⟩:=ih cs as z' [] hc hz'
    have:=h2.gT
    subst this
    simp only[cu]
    refine⟨.agg bs,by simp[gW,hk],.agg _ _ hw.1 hw.2,hrows,hval⟩
   .cases hz
  |_=>simp[toD]at hz
 .intro f;exact⟨Cj (.fnc f) (λx=>by cases x<;>simp only[toD]),λgs q=>by cases q⟩
 .intro e _
  refine⟨λx z a hz hv=>?_,λgs q=>by cases q⟩
  cases x with
  |d T' y =>
   simp only[toD]at hz
   split at hz
   .rename_i o ho;cases hz;exact BF ho hv
   .split at hz
    .rename_i xs hxs
     cases hz
     exact(show yE ρ h H (.d T' y) a (Ty.enc (.list e) xs) from BF hxs hv)
    .cases hz
  |k v =>
   obtain⟨rfl,rfl⟩:=Wy hz
   have hv:a=.v (.slice none 0 0):=hv
   subst hv
   exact⟨_,rfl,Wp.refl _,rfl,by simp[fE,kC]⟩
  |row id =>
   obtain⟨ty,T,fz,es,he,rfl⟩:=hv
   simp only[toD,he]at hz
   split at hz
   .rename_i xs hxs
    cases hz
    obtain⟨q,rfl⟩:=lD hxs
    cases q
    obtain⟨k1,k2⟩:=xJ hs (off:=0) (len:=es.length) he
    refine⟨_,k1,?_,rfl,?_⟩
    .show Wp _ (Ty.enc (.list e) es)
     simpa using k2
    .simp[fE,kC];exact⟨_,_,_,_,he⟩
   .cases hz
  |sub id off len =>
   obtain⟨ty,T,fz,es,he,rfl⟩:=hv
   simp only[toD,he]at hz
   split at hz
   .rename_i xs hxs
    cases hz
    obtain⟨q,rfl⟩:=lD hxs
    cases q
    obtain⟨k1,k2⟩:=xJ hs (off:=off) (len:=len) he
    refine⟨_,k1,k2,rfl,?_⟩
    simp[fE,kC];exact⟨_,_,_,_,he⟩
   .cases hz
  |_=>simp[toD]at hz
 .intro ty sz
  refine⟨λx z a hz hv=>?_,λgs q=>by cases q⟩
  cases x with
  |d T' y=>simp only[toD]at hz;exact BF hz hv
  |k v =>
   obtain⟨rfl,rfl⟩:=Wx hz
   have hv:a=.v (.slice none 0 0):=hv
   subst hv
   exact⟨_,rfl,Wp.nil _,rfl,by simp[fE,kC]⟩
  |row id =>
   obtain⟨ty',T,fz,es,he,rfl⟩:=hv
   simp only[toD,he]at hz
   split at hz
   .rename_i hq
    simp only[aB]at hq
    have h2:=fV hq.2
    subst h2
    cases hz
    obtain⟨k1,k2⟩:=xJ hs (off:=0) (len:=es.length) he
    refine⟨_,k1,?_,rfl,?_⟩
    .have k2':Wp _ (.list T.size (List.map (Ty.enc T) ((es.drop 0).take es.length))):=k2
     have e0:(es.drop 0).take es.length=es:=by rw[ku,mI]
     rw[e0]at k2'
     exact k2'
    .simp[fE,kC];exact⟨_,_,_,_,he⟩
   .cases hz
  |sub id off len =>
   obtain⟨ty',T,fz,es,he,rfl⟩:=hv
   simp only[toD,he]at hz
   split at hz
   .rename_i hq
    simp only[aB]at hq
    have h2:=fV hq.2
    subst h2
    cases hz
    obtain⟨k1,k2⟩:=xJ hs (off:=off) (len:=len) he
    refine⟨_,k1,k2,rfl,?_⟩
    simp[fE,kC];exact⟨_,_,_,_,he⟩
   .cases hz
  |_=>simp[toD]at hz
 .intro cs as z r hc hz
  simp only[vV]at hz
  cases hz
  exact⟨[],[],as,[],rfl,rfl,hc,rfl,.nil,rfl,by simp⟩
 .intro t ts h1 h2 cs as z r hc hz
  by_cases ht:∃gs,t=.tup gs
  .obtain⟨gs,rfl⟩:=ht
   simp only[vV]at hz
   split at hz
   .rename_i x r1 hx
    split at hz
    .rename_i y r2 hy
     cases hz
     obtain⟨cs1,as1,as2,bs,rfl,rfl,q2,hk,hw,hrows,hval⟩:=h1.2 gs rfl cs as x r1 hc hx
     obtain⟨cs3,as3,as4,bs',rfl,rfl,q2',hk',hw',Q9,hval'⟩:=h2 _ _ y r q2 hy
     refine⟨cs1++cs3,as1++as3,as4,bs++bs',by simp,by simp,q2',V5 hk hk',?_,by simp[hrows,Q9],λid hid=>?_⟩
     .simp only[Ty.iW];exact hw.append hw'
     .simp only[List.flatMap_append,aG]at hid
      rcases hid with q|q
      .exact hval id q
      .exact hval' id q
    .cases hz
   .cases hz
  .rw[KH ht]at hz
   cases cs with
   |nil=>cases hz
   |cons c cr =>
    simp only at hz
    split at hz
    .rename_i x hx
     split at hz
     .rename_i y r2 hy
      cases hz
      obtain⟨a,as',rfl,hv,hc'⟩:=hc.cZ
      obtain⟨b,kb,wb,rb,vb⟩:=h1.1 c x a hx (VA.of1 hv)
      obtain⟨cs3,as3,as4,bs',rfl,rfl,q2',hk',hw',Q9,hval'⟩:=h2 _ _ y r hc' hy
      have Ve:t.oq=false:=by cases t<;>first|rfl|exact absurd ⟨_,rfl⟩ ht
      have hpb:Pl1 b:=by
       rcases qA (T:=t) (x:=x) with⟨q,_⟩|⟨_,q⟩
       .rw[Ve]at q;cases q
       .exact q.of_wp wb
      have hna:∀us,a≠.agg us:=λus q=>by
       subst q
       simp only[gW,fB]at kb
       obtain⟨_,_,q⟩:=kb
       subst q
       rcases hpb with⟨_,q,_⟩|⟨_,_,q⟩<;>cases q
      have kb1:jY H a=some b:=by cases a<;>first|exact kb|exact absurd rfl (hna _)
      have rb1:bZ a=dU a:=by cases a<;>first|rfl|exact absurd rfl (hna _)
      have rx1:kC c=fE c:=by cases c<;>first|rfl|exact hv.elim
      refine⟨c::cs3,a::as3,as4,b::bs',by simp,by simp,q2',by simp only[jK,kb1,hk'],?_,by simp[Q9,rb1,rb,rx1],λid hid=>?_⟩
      ·have a2t:(Ty.enc t x).cells=[Ty.enc t x]:=by
        rcases qA (T:=t) (x:=x) with⟨q,_⟩|⟨_,q⟩
        .rw[Ve]at q;cases q
        .exact q.cells
       show bn Wp (b::bs') ((Ty.enc t x).cells++Ty.iW ts y)
       rw[a2t]
       exact .cons wb hw'
      .simp only[dw,aG]at hid
       rcases hid with q|q
       .exact vb id (rx1▸q)
       .exact hval' id q
     .cases hz
    .cases hz
theorem wW(hs:HS ρ h H){T:Ty}{x:XV}{z:T.den}{a:AV}(hz:toD h T x=some z)(hv:VA ρ h x a):yE ρ h H x a (Ty.enc T z):=(Ww hs T).1 x z a hz hv
theorem Wv(T:Ty):(∀(x:XV) (z:T.den) (a:AV),toD [] T x=some z->VA ρ h x a->Wp a (Ty.enc T z))/\∀gs,T=.tup gs->∀(cs:List XV) (as:List AV) (z:Ty.bO gs) (r:List XV),bn (V1 ρ h) cs as->vV [] gs cs=some (z,r)->∃as1 as2,as=as1++as2/\bn (V1 ρ h) r as2/\bn Wp as1 (Ty.iW gs z):=by
 have dd:∀(T T':Ty) (y:T'.den) (z:T.den) (a:AV),gB y=some z->VA ρ h (.d T' y) a->Wp a (Ty.enc T z):=by
  intro T T' y z a hc hv
  obtain⟨rfl,rfl⟩:=lD hc
  exact hv
 have Cj:∀(T:Ty),(∀x,toD [] T x=match(generalizing:=false) x with|.d T' x=>gB x|_=>none)->∀(x:XV) (z:T.den) (a:AV),toD [] T x=some z->VA ρ h x a->Wp a (Ty.enc T z):=by
  intro T hT x z a hz hv
  rw[hT]at hz
  cases x with
  |d T' y=>exact dd _ _ _ _ _ hz hv
  |_=>cases hz
 refine Ty.rec (motive_1:=λT=>(∀(x:XV) (z:T.den) (a:AV),toD [] T x=some z->VA ρ h x a->Wp a (Ty.enc T z))/\∀gs,T=.tup gs->∀(cs:List XV) (as:List AV) (z:Ty.bO gs) (r:List XV),bn (V1 ρ h) cs as->vV [] gs cs=some (z,r)->∃as1 as2,as=as1++as2/\bn (V1 ρ h) r as2/\bn Wp as1 (Ty.iW gs z))
  (motive_2:=λgs=>∀(cs:List XV) (as:List AV) (z:Ty.bO gs) (r:List XV),bn (V1 ρ h) cs as->vV [] gs cs=some (z,r)->∃as1 as2,as=as1++as2/\bn (V1 ρ h) r as2/\bn Wp as1 (Ty.iW gs z)) ?_ ?_ ?_ ?_ ?_ ?_ ?_ ?_ ?_ ?_ T
 .intro k;exact⟨Cj (.int k) (λx=>by cases x<;>simp only[toD]),λgs q=>by cases q⟩
 .exact⟨Cj .bool (λx=>by cases x<;>simp only[toD]),λgs q=>by cases q⟩
 .exact⟨Cj .str (λx=>by cases x<;>simp only[toD]),λgs q=>by cases q⟩
 .intro e _
  refine⟨λx z a hz hv=>?_,λgs q=>by cases q⟩
  simp only[toD]at hz
  have hv:=Pv hv
  generalize lst x=x at hz hv
  cases x with
  |d T' y=>exact dd _ _ _ _ _ hz hv
  |k v =>
   split at hz
   all_goals first|(cases ‹_=_›;done)|skip
   all_goals try (rename_i q;cases q)
   all_goals first
    |(cases hz;done)
    |(cases hz;have hv:a=.v (.slice none 0 0):=hv;subst hv;exact Wp.nil _)
  |_=>simp at hz
 .intro fs ih
  refine⟨λx z a hz hv=>?_,λgs q=>by cases q;exact ih⟩
  cases x with
  |d T' y=>simp only[toD]at hz;exact dd _ _ _ _ _ hz hv
  |agg cs =>
   simp only[toD]at hz
   split at hz
   .rename_i z' hz'
    have hzz:z'=z:=aI hz
    subst hzz
    obtain⟨as,rfl,hc⟩:=hv
    obtain⟨as1,as2,rfl,h2,hw⟩:=ih cs as z' [] hc hz'
    have:=h2.gT
    subst this
    rw[cu]
    exact .agg _ _ hw.1 hw.2
   .cases hz
  |_=>simp[toD]at hz
 .intro f;exact⟨Cj (.fnc f) (λx=>by cases x<;>simp only[toD]),λgs q=>by cases q⟩
 .intro e _
  refine⟨λx z a hz hv=>?_,λgs q=>by cases q⟩
  cases x with
  |d T' y =>
   simp only[toD]at hz
   split at hz
   .rename_i o ho;cases hz;exact dd _ _ _ _ _ ho hv
   .split at hz
    .rename_i xs hxs
     cases hz
     exact(show Wp a (Ty.enc (.list e) xs) from dd _ _ _ _ _ hxs hv)
    .cases hz
  |k v =>
   obtain⟨rfl,rfl⟩:=Wy hz
   have hv:a=.v (.slice none 0 0):=hv
   subst hv
   exact Wp.refl _
  |_=>simp[toD]at hz
 .intro ty sz
  refine⟨λx z a hz hv=>?_,λgs q=>by cases q⟩
  cases x with
  |d T' y=>simp only[toD]at hz;exact dd _ _ _ _ _ hz hv
  |k v =>
   obtain⟨rfl,rfl⟩:=Wx hz
   have hv:a=.v (.slice none 0 0):=hv
   subst hv
   exact Wp.nil _
  |_=>simp[toD]at hz
 .intro cs as z r hc hz
  simp only[vV]at hz
  cases hz
  exact⟨[],as,rfl,hc,.nil⟩
 .intro t ts h1 h2 cs as z r hc hz
  by_cases ht:∃gs,t=.tup gs
  .obtain⟨gs,rfl⟩:=ht
   simp only[vV]at hz
   split at hz
   .rename_i x r1 hx
    split at hz
    .rename_i y r2 hy
     cases hz
     obtain⟨as1,as2,rfl,q2,hw⟩:=h1.2 gs rfl cs as x r1 hc hx
     obtain⟨as3,as4,rfl,q2',hw'⟩:=h2 _ _ y r q2 hy
     refine⟨as1++as3,as4,by simp,q2',?_⟩
     simp only[Ty.iW];exact hw.append hw'
    .cases hz
   .cases hz
  .rw[KH ht]at hz
   cases cs with
   |nil=>cases hz
   |cons c cr =>
    simp only at hz
    split at hz
    .rename_i x hx
     split at hz
     .rename_i y r2 hy
      cases hz
      obtain⟨a,as',rfl,hv,hc'⟩:=hc.cZ
      have wb:=h1.1 c x a hx (VA.of1 hv)
      obtain⟨as3,as4,rfl,q2',hw'⟩:=h2 _ _ y r hc' hy
      have Ve:t.oq=false:=by cases t<;>first|rfl|exact absurd ⟨_,rfl⟩ ht
      refine⟨a::as3,as4,by simp,q2',?_⟩
      have a2t:(Ty.enc t x).cells=[Ty.enc t x]:=by
       rcases qA (T:=t) (x:=x) with⟨q,_⟩|⟨_,q⟩
       .rw[Ve]at q;cases q
       .exact q.cells
      show bn Wp (a::as3) ((Ty.enc t x).cells++Ty.iW ts y)
      rw[a2t]
      exact .cons wb hw'
     .cases hz
    .cases hz
theorem wV{T:Ty}{x:XV}{z:T.den}{a:AV}(hz:toD [] T x=some z)(hv:VA ρ h x a):Wp a (Ty.enc T z):=(Wv T).1 x z a hz hv
end
section
variable{ρ:List Nat}{h:List XO}{H:List aH}{σ:St}{Gl:Nat->Option (List AV)}{rd:Opd->XV}{tt:Nat->Option Ty}
theorem mV{k:IntKind}{n:Int}{a:AV}(hv:VT ρ h (.d (.int k) n) a):a=.v (.int k n):=Wp.dK hv
theorem tO{b:Bool}{a:AV}(hv:VT ρ h (.d .bool b) a):a=.v (.bool b):=Wp.dK hv
theorem Br{s:ByteArray}{a:AV}(hv:VT ρ h (.d .str s) a):a=.v (.string s):=Wp.dK hv
theorem a8Y{f:FuncId}{u:Unit}{a:AV}(hv:VT ρ h (.d (.fnc f) u) a):a=.v (.func (.func f) #[] #[]):=Wp.dK hv
theorem Ga{v:Value}{a:AV}(hv:VT ρ h (.k v) a):a=.v v:=hv
theorem VT.wm{x:XV}{a:AV}(hv:VT ρ h x a)(hx:∀vs,x≠.tup vs):VA ρ h x a:=by
 cases x<;>first|exact hv|exact absurd rfl (hx _)
theorem Dx{T:Ty}{x:T.den}{a:AV}(hw:Wp a (Ty.enc T x)):VT ρ h (.d T x) a:=hw
theorem YR{a b:Int}(h:iLe a b=true):a<=b:=of_decide_eq_true h
theorem a0X{k:IntKind}{a b:Int}{op:BinOp}{p:Bool}{v:XV}(hx:TF k a b op=some (p,v))(hp:p=true):∃q r,bV op (.int k a) (.int k b)=some (q,r)/\q/\VT ρ h v (.v r):=by
  subst hp
  cases op<;>simp only[TF,dW,nH,reduceCtorEq]at hx
  all_goals first
    |(exact hx.elim;done)
    | (obtain ⟨hp,rfl⟩:=hx
       refine⟨_,_,by simp only[bV,if_true];rfl,?_,Wp.refl _⟩
       first|trivial|(simp[iNe]at hp;exact hp))
theorem a0W{a b:ByteArray}{op:BinOp}{p:Bool}{v:XV}(hx:TD a b op=some (p,v))(hp:p=true):∃q r,bV op (.string a) (.string b)=some (q,r)/\q/\VT ρ h v (.v r):=by
  subst hp
  cases op<;>simp only[TD,dW,nH,reduceCtorEq]at hx
  all_goals first
    |(exact hx.elim;done)
    | (obtain ⟨hp,rfl⟩:=hx
       refine⟨_,_,by simp only[bV];rfl,?_,Wp.refl _⟩
       first|trivial|(exact of_decide_eq_true hp))
theorem a4Q{op:BinOp}{x y v:XV}{p:Bool}{a b:AV}(hx:a0Y op x y=some (p,v))(hp:p=true)(ha:VT ρ h x a)(hb:VT ρ h y b):∃va vb q r,a=.v va/\b=.v vb/\bV op va vb=some (q,r)/\q/\VT ρ h v (.v r):=by
 unfold a0Y at hx
 split at hx
 .rename_i k m k' n
  have ea:=mV ha
  have eb:=mV hb
  split at hx
  .cases hx;exact⟨_,_,_,_,ea,eb,rfl,YR hp,Wp.refl _⟩
  .cases hx;exact⟨_,_,_,_,ea,eb,rfl,YR hp,Wp.refl _⟩
  .split at hx
   .rename_i hk
    subst hk
    obtain⟨q,r,h1,h2,h3⟩:=a0X (ρ:=ρ) (h:=h) hx hp
    exact⟨_,_,q,r,ea,eb,h1,h2,h3⟩
   .cases hx
 .have ea:=Br ha
  have eb:=Br hb
  obtain⟨q,r,h1,h2,h3⟩:=a0W (ρ:=ρ) (h:=h) hx hp
  exact⟨_,_,q,r,ea,eb,h1,h2,h3⟩
 .cases hx
theorem EM{x:XV}{n:Int}{a:AV}(hx:Js x=some n)(ha:VT ρ h x a):asN a=some n:=by
 unfold Js at hx
 split at hx
 .cases hx;rw[mV ha];rfl
 .cases hx
theorem Et{l u:Int}{n:Nat}(h:nL l u n=true):0<=l/\l<=u/\u<=n:=by
 simp only[nL,aB,eT]at h
 exact⟨h.1.1,h.1.2,h.2⟩
theorem wS{n:Nat}{lo hi:Option Opd}{p:Bool}{l u:Int}(hrd:∀o,VT ρ h (rd o) (σ.val Gl o))(hx:wT n (lo.map rd) (hi.map rd)=some (p,l,u))(hp:p=true):qD n (lo.map (σ.val Gl)) (hi.map (σ.val Gl))=some (0<=l/\l<=u/\u<=n,l,u)/\(0<=l/\l<=u/\u<=n):=by
 cases lo with
 |none =>
  cases hi with
  |none=>cases hx;exact⟨rfl,by omega⟩
  |some b =>
   simp only[wT,wL,bq]at hx
   split at hx
   .rename_i m hm
    cases hx
    exact⟨by simp only[qD,wL,bq,EM hm (hrd b)],Et hp⟩
   .cases hx
 |some a =>
  cases hi with
  |none =>
   simp only[wT,wL,bq]at hx
   split at hx
   .rename_i m hm
    cases hx
    exact⟨by simp only[qD,wL,bq,EM hm (hrd a)],Et hp⟩
   .cases hx
  |some b =>
   simp only[wT,bq]at hx
   split at hx
   .rename_i m m' hm hm'
    cases hx
    exact⟨by simp only[qD,bq,EM hm (hrd a),EM hm' (hrd b)],Et hp⟩
   .cases hx
theorem TH(v:Value):V1 ρ h (vx1 v) (.v v):=by
 cases v with
 |int k n=>exact Wp.refl _
 |bool b=>exact Wp.refl _
 |string s=>exact Wp.refl _
 |func fn a b =>
  cases fn with
  |func f =>
   simp only[vx1]
   split
   .rename_i h1 h2
    have e1:a=#[]:=by simpa using h1
    have e2:b=#[]:=by simpa using h2
    subst e1 e2
    exact Wp.refl _
   .rfl
  |_=>rfl
 |_=>rfl
theorem a3O{x:XV}{a:AV}(hv:V1 ρ h x a)(hx:okX x=true):st1 false a=true/\a.cells=[a]:=by
 cases x with
 |d T y =>
  rcases qA (x:=y) with⟨q,_⟩|⟨_,q⟩
  .simp[okX,q]at hx
  .exact⟨(q.of_wp hv).st false,(q.of_wp hv).cells⟩
 |k v=>have hv:a=.v v:=hv;subst hv;exact⟨hx,rfl⟩
 |row id=>obtain⟨_,_,_,_,_,rfl⟩:=hv;exact⟨rfl,rfl⟩
 |sub id o l=>obtain⟨_,_,_,_,_,rfl⟩:=hv;exact⟨rfl,rfl⟩
 |ptr id i o=>obtain⟨_,_,rfl⟩:=hv;exact⟨rfl,rfl⟩
 |_=>cases hx
theorem cells_ok{x:XV}{cs:List XV}{a:AV}(hx:A9 x=some cs)(hv:VT ρ h x a):bn (V1 ρ h) cs a.cells/\dB false a=some a.cells:=by
 have one:∀x,okX x=true->V1 ρ h x a->cs=[x]->bn (V1 ρ h) cs a.cells/\dB false a=some a.cells:=by
  intro x ho hv hc
  obtain⟨s1,s2⟩:=a3O hv ho
  subst hc
  rw[s2]
  refine⟨.cons hv .nil,?_⟩
  cases a<;>first|(cases s1;done)|(simp only[dB,s1,if_true];done)
 cases x with
 |d T y =>
  cases hx
  exact⟨Z4 hv,HY hv false⟩
 |agg cs' =>
  simp only[A9]at hx
  split at hx
  .rename_i hall
   cases hx
   obtain⟨as,rfl,hc⟩:=hv
   refine⟨hc,?_⟩
   have:as.all (st1 false)=true:=aD.2 λa ha=>by
    obtain⟨i,hi⟩:=dP.1 ha
    obtain⟨x,hx,hv⟩:=hc.mZ hi
    exact(a3O hv (aD.1 hall x (bP hx))).1
   simp only[dB,this,if_true,AV.cells]
  .cases hx
 |k v =>
  simp only[A9]at hx
  split at hx
  .rename_i ho;cases hx;exact one (.k v) ho hv rfl
  .cases hx
 |row id=>cases hx;exact one (.row id) rfl hv rfl
 |sub id o l=>cases hx;exact one (.sub id o l) rfl hv rfl
 |ptr id i o=>cases hx;exact one (.ptr id i o) rfl hv rfl
 |_=>cases hx
end
def dJ(Gl:Nat->Option (List AV))(ρ:List Nat)(h:List XO)(σ:St)(rd:Opd->XV)(i:I)(v:XV)(kl:List Nat)(h':List XO):Prop :=
 ∃q a H' ρ' tch,step Gl σ i=some (q,a,H')/\q/\Upd ρ h σ.h ρ' (ru kl h') H' kl tch/\VT ρ' (ru kl h') v a/\∀ok:Nat->Bool,leaves ok rd i=true->∀id∈tch,ok id=true
section
variable{ρ:List Nat}{h:List XO}{H:List aH}{σ:St}{Gl:Nat->Option (List AV)}{rd:Opd->XV}{tt:Nat->Option Ty}
theorem dJ.pure(hs:HS ρ h σ.h){i:I}{v:XV}{q:Prop}{a:AV}(h1:step Gl σ i=some (q,a,σ.h))(h2:q)(h3:VT ρ h v a):dJ Gl ρ h σ rd i v [] h :=
 ⟨q,a,σ.h,ρ,[],h1,h2,Upd.same hs,h3,λ_ _ _ q=>by simp at q⟩
theorem vP{n m:Int}(h:bnd n m=true):0<=n/\n<m:=by
 simpa[bnd]using h
theorem LD{T:Ty}{x:T.den}{o sz:Nat}{ag:Bool}{v:XV}{cs:List AV}(hx:atT T x o sz ag=some v)(hc:bn Wp cs (Ty.enc T x).cells):if ag=true then o+sz<=cs.length/\VT ρ h v (.agg ((cs.drop o).take sz)) else ∃c,cs[o]?=some c/\VT ρ h v c:=by
 obtain⟨T',x',rfl,hq⟩:=Sz _ _ _ _ _ _ hx
 cases ag with
 |true =>
  simp only[if_true]at hq ⊢
  refine⟨by rw[hc.1];exact hq.1,?_⟩
  have:=(hc.drop o).take sz
  show Wp _ _
  rw[hq.2]
  exact .agg _ _ this.1 this.2
 |false =>
  simp only[dH,if_false]at hq ⊢
  obtain⟨c,h1,h2⟩:=hc.mZ hq
  exact⟨c,h1,h2⟩
theorem wE{T:Ty}(es:List T.den){i:Nat}(hi:i<es.length)(u:AV):(es.map (Ty.enc T)).getD i u=Ty.enc T (es.getD i T.dflt):=by
 simp[List.getD,ah hi]
theorem E8(hs:HS ρ h σ.h){sz id ty off:Nat}{T:Ty}{fz:Bool}{es:List T.den}{x i:Opd}{k:IntKind}{n:Int}{len:Nat}(he:h[id]?=some (.row ty T fz es))(hz:T.size=sz)
  (hx:σ.val Gl x=.row (ρ.getD id 0) es.length T.size off len) (hi:σ.val Gl i=.v (.int k n)) (hb:0<=n/\n<len):dJ Gl ρ h σ rd (.rA sz x i) (.ptr id (off+n.toNat) 0) [] h:=by
 refine dJ.pure hs (q:=0<=n/\n<len) (a:=.ptr (ρ.getD id 0) es.length (off+n.toNat) 0) ?_ hb ⟨_,he,rfl⟩
 simp only[step,hx,hi,hz,if_true]
theorem WU{T:Ty}{es:List T.den}{O:List AV}{i o:Nat}{z:T.den}{U:Ty}{y:U.den}{a:AV}(hO:bn Wp O (es.map (Ty.enc T)))(hi:i<es.length)(hw:Wp a (Ty.enc U y))(hz:DF y T (es.getD i T.dflt) o=some z):o+U.size<=T.size/\bn Wp (O.set i (setCells (O.getD i .any) o a.cells)) ((es.set i z).map (Ty.enc T)):=by
 obtain⟨s1,s2,s3⟩:=a1l y T _ o z hz
 refine⟨s1,?_⟩
 rw[List.map_set]
 refine hO.set ?_ i
 have he:Wp (O.getD i .any) (Ty.enc T (es.getD i T.dflt)):=by
  have:=hO.getD (n:=i) (by simpa using hi) .any .any
  rw[wE es hi]at this;exact this
 have hc:=hw.cells
 have hlen:a.cells.length=U.size:=by rw[hc.1,ji]
 rcases qA (x:=z) with⟨ht,cs,hcs⟩|⟨ht,hp⟩
 .cases T with
  |tup fs =>
   obtain⟨us,hu,hus⟩:=Wp.iX (show Wp (O.getD i .any) (.agg (Ty.iW fs (es.getD i (Ty.dflt (.tup fs))))) from he)
   rw[hu]
   have s2:Ty.iW fs z=(Ty.iW fs (es.getD i (Ty.dflt (.tup fs)))).take o++(Ty.enc U y).cells++(Ty.iW fs (es.getD i (Ty.dflt (.tup fs)))).drop (o+U.size):=s2
   show Wp (.agg (us.take o++a.cells++us.drop (o+a.cells.length))) (.agg (Ty.iW fs z))
   rw[s2,hlen]
   have:=((hus.take o).append hc).append (hus.drop (o+U.size))
   exact .agg _ _ this.1 this.2
  |_=>cases ht
 .obtain⟨rfl,hu1⟩:=s3 ht
  have hna:∀us,O.getD i .any≠.agg us:=λus q=>by
   rw[q]at he
   rcases qA (x:=es.getD i T.dflt) with⟨q',_⟩|⟨_,q'⟩
   .rw[ht]at q';cases q'
   .rcases q'.of_wp he with⟨_,q',_⟩|⟨_,_,q'⟩<;>cases q'
  have hsc:setCells (O.getD i .any) 0 a.cells=a.cells.headD .any:=by
   cases hg:O.getD i .any<;>first|rfl|exact absurd hg (hna _)
  rw[hsc]
  have hz1:(Ty.enc T z).cells=[Ty.enc T z]:=hp.cells
  have ht1:T.size=1:=by rw[<- ji T z,hz1];rfl
  rw[hz1,qK,fF,iN (by rw[ji];omega),cu]at s2
  rw[<- s2]at hc
  obtain⟨c,r,e1,e2,e3⟩:=hc.cons_right
  rw[e1];exact e2
theorem NQ{T:Ty}{es:List T.den}{O:List AV}{i:Nat}{z:T.den}{a:AV}(hO:bn Wp O (es.map (Ty.enc T)))(hi:i<es.length)(hw:Wp a (Ty.enc T z)):bn Wp (O.set i (setCells (O.getD i .any) 0 a.cells)) ((es.set i z).map (Ty.enc T)):=by
 rw[List.map_set]
 refine hO.set ?_ i
 have he:Wp (O.getD i .any) (Ty.enc T (es.getD i T.dflt)):=by
  have:=hO.getD (n:=i) (by simpa using hi) .any .any
  rw[wE es hi]at this;exact this
 have hl1:(O.getD i .any).cells.length=T.size:=by rw[he.cells.1,ji]
 have hl2:a.cells.length=T.size:=by rw[hw.cells.1,ji]
 rcases qA (x:=z) with⟨ht,cs,hcs⟩|⟨ht,hp⟩
 .cases T with
  |tup fs =>
   obtain⟨us,hu,hus⟩:=Wp.iX (show Wp (O.getD i .any) (.agg (Ty.iW fs (es.getD i (Ty.dflt (.tup fs))))) from he)
   obtain⟨as,rfl,has⟩:=Wp.iX (show Wp a (.agg (Ty.iW fs z)) from hw)
   rw[hu]at hl1 ⊢
   simp only[AV.cells]at hl1 hl2
   have:setCells (.agg us) 0 (AV.agg as).cells=.agg as:=by
    simp only[setCells,AV.cells,qK,fF,dD,iN (show us.length<=as.length by omega),cu]
   rw[this];exact hw
  |_=>cases ht
 ·have hna:∀ us,O.getD i .any ≠ .agg us:=fun us q=>by
   rw[q]at he
   rcases qA (x:=es.getD i T.dflt) with⟨q',_⟩|⟨_,q'⟩
   .rw[ht]at q';cases q'
   .rcases q'.of_wp he with⟨_,q',_⟩|⟨_,_,q'⟩<;>cases q'
  have hsc:setCells (O.getD i .any) 0 a.cells=a.cells.headD .any:=by
   cases hg:O.getD i .any<;>first|rfl|exact absurd hg (hna _)
  rw[hsc,(hp.of_wp hw).cells];exact hw
theorem a2N{T:Ty}{v:Value}{ys:List T.den}(hx:Kl h T (.k v)=some ys):v=.slice none 0 0/\ys=[]:=by
 cases v with
 |slice ad n c =>
  cases ad with
  |some _=>cases hx
  |none =>
   cases n with
   |succ n=>cases hx
   |zero =>
    cases c with
    |succ c=>cases hx
    |zero=>exact⟨rfl,(aI hx).symm⟩
 |_=>cases hx
theorem Zd(hs:HS ρ h σ.h){T:Ty}{x:XV}{ys:List T.den}{a:AV}{sz:Nat}(hz:T.size=sz)(hx:Kl h T x=some ys)(hv:VT ρ h x a):∃as,iC σ.h sz a=some as/\bn Wp as (ys.map (Ty.enc T)):=by
 subst hz
 cases x with
 |d T' y =>
  have hx:gB (b:=.list T) y=some ys:=hx
  obtain⟨q,rfl⟩:=lD hx
  cases q
  rcases Wp.jG hv with⟨rfl,hn⟩|⟨as,rfl,hc⟩
  ·exact ⟨[],rfl,by
    show bn Wp [] (List.map (Ty.enc T) y)
    rw[hn];exact .nil⟩
  .exact⟨as,by simp[iC],hc⟩
 |k v =>
  obtain⟨rfl,rfl⟩:=a2N hx
  have hv:a=.v (.slice none 0 0):=hv
  subst hv
  exact⟨[],rfl,.nil⟩
 |row id =>
  obtain⟨ty,T',fz,es,he,rfl⟩:=hv
  have hx:gB (a:=.list T') (b:=.list T) es=some ys:=by rw[<- hx];show _=(match h[id]? with|some (.row _ T' _ es)=>gB (a:=.list T') (b:=.list T) es|_=>none);rw[he]
  obtain⟨q,rfl⟩:=lD hx
  cases q
  obtain⟨O,hO,o1,o2,o3,o4,o5⟩:=hs.hr _ _ he
  have hlen:O.es.length=es.length:=by have:=o5.1;simpa using this
  refine⟨(O.es.drop 0).take es.length,by simp only[iC,hO,hlen,o2,o3,and_self,true_or,if_true],?_⟩
  rw[ku,eF (by omega)]
  exact o5
 |sub id off len =>
  obtain⟨ty,T',fz,es,he,rfl⟩:=hv
  have hx:gB (a:=.list T') (b:=.list T) ((List.drop off es).take len)=some ys:=by rw[<- hx];show _=(match h[id]? with|some (.row _ T' _ es)=>gB (a:=.list T') (b:=.list T) ((List.drop off es).take len)|_=>none);rw[he]
  obtain⟨q,rfl⟩:=lD hx
  cases q
  obtain⟨O,hO,o1,o2,o3,o4,o5⟩:=hs.hr _ _ he
  have hlen:O.es.length=es.length:=by have:=o5.1;simpa using this
  refine⟨(O.es.drop off).take len,by simp only[iC,hO,hlen,o2,o3,and_self,true_or,if_true],?_⟩
  show bn Wp _ (List.map (Ty.enc _) _)
  rw[yR,yS]
  exact(o5.drop _).take _
 |_=>cases hx
theorem Qi(hs:HS ρ h σ.h){T:Ty}{x:XV}{ys:List T.den}{a:AV}{sz:Nat}(hz:T.size=sz)(hx:Qj h T x=some ys)(hv:VT ρ h x a):∃as,iC σ.h sz a=some as/\bn Wp as (ys.map (Ty.enc T)):=Zd hs hz hx (IU hv)
theorem a4Y(hs:HS ρ h H){T:Ty}:∀{xs:List XV} {ys:List T.den} {as:List AV},Dy h T xs=some ys->bn (VT ρ h) xs as->∃bs,dV H as=some bs/\bn Wp bs (ys.map (Ty.enc T))/\as.flatMap dU=(xs.flatMap fE).map (λid=>ρ.getD id 0)/\∀id∈xs.flatMap fE,isRow h id:=by
 intro xs
 induction xs with
 |nil =>
  intro ys as hx hv
  cases hx
  have:=hv.gT
  subst this
  exact⟨[],rfl,.nil,rfl,by simp⟩
 |cons x xs ih =>
  intro ys as hx hv
  simp only[Dy]at hx
  split at hx
  .rename_i z l hz hl
   cases hx
   obtain⟨a,as',rfl,hv1,hv2⟩:=hv.cZ
   have hnt:∀vs,x≠.tup vs:=λvs q=>by
    subst q
    cases T<;>simp[toD,lst]at hz
   obtain⟨b,k1,k2,k3,k4⟩:=wW hs hz (hv1.wm hnt)
   obtain⟨bs,i1,i2,i3,i4⟩:=ih hl hv2
   refine⟨b::bs,by simp only[dV,k1,i1],.cons k2 i2,by simp[k3,i3],λid hid=>?_⟩
   simp only[dw,aG]at hid
   rcases hid with q|q
   .exact k4 id q
   .exact i4 id q
  .cases hx
theorem Ef{xs:List Opd}(hrd:∀o,VT ρ h (rd o) (σ.val Gl o)):bn (VT ρ h) (xs.map rd) (xs.map (σ.val Gl)) :=
 ⟨by simp,λi x a p q=>by
  rw[aT]at p q
  cases ho:xs[i]? with
  |none=>rw[ho]at p;cases p
  |some o=>rw[ho]at p q;cases p;cases q;exact hrd o⟩
theorem RF{T:Ty}{bs:List AV}{ys:List T.den}{sz:Nat}(hz:T.size=sz)(hc:bn Wp bs (ys.map (Ty.enc T))):bs.all (λy=>y.cells.length==sz)=true:=by
 refine aD.2 λb hb=>?_
 obtain⟨i,hi⟩:=dP.1 hb
 obtain⟨e,he,hw⟩:=hc.lq hi
 rw[aT]at he
 cases hy:ys[i]? with
 |none=>rw[hy]at he;cases he
 |some y=>rw[hy]at he;cases he;rw[hw.cells.1,ji,hz];simp
end
section
variable{ρ:List Nat}{h:List XO}{H:List aH}{σ:St}{Gl:Nat->Option (List AV)}{rd:Opd->XV}{tt:Nat->Option Ty}
theorem Jv{e:Ty}{xs:List e.den}{a:AV}(hv:VT ρ h (.d (.list e) xs) a):(a=.v (.slice none 0 0)/\xs=[])\/∃as,a=.list e.size as/\as.length=xs.length/\bn Wp as (xs.map (Ty.enc e)):=by
 rcases Wp.jG hv with⟨ha,hn⟩|⟨as,ha,hc⟩
 .exact .inl ⟨ha,List.map_eq_nil_iff.1 hn⟩
 .exact .inr ⟨as,ha,by rw[hc.1,bA],hc⟩
theorem Mh{ty sz:Nat}{xs:List AV}{a:AV}(hv:VT ρ h (.d (.rl ty sz) xs) a):(a=.v (.slice none 0 0)/\xs=[])\/∃as,a=.list sz as/\as.length=xs.length/\bn Wp as xs:=by
 rcases Wp.jG hv with⟨ha,hn⟩|⟨as,ha,hc⟩
 .exact .inl ⟨ha,hn⟩
 .exact .inr ⟨as,ha,hc.1,hc⟩
abbrev lF(Gl:Nat->Option (List AV))(ρ:List Nat)(h:List XO)(σ:St)(rd:Opd->XV)(tt:Nat->Option Ty)(i:I):Prop :=
 HS ρ h σ.h->(∀o,VT ρ h (rd o) (σ.val Gl o))->∀(p:Bool) (v:XV) (kl:Option Nat) (h':List XO),ig tt h rd i=some (p,v,kl,h')->p=true->dJ Gl ρ h σ rd i v kl.toList h'
theorem a5h(x:Opd):lF Gl ρ h σ rd tt (.len x):=by
 intro hs hrd p v kl h' hx hp
 simp only[ig]at hx
 have hv:=IU (hrd x)
 split at hx
 .rename_i e xs hr
  rw[hr]at hv
  cases hx
  rcases Jv hv with⟨ha,rfl⟩|⟨as,ha,hl,hc⟩
  .exact dJ.pure hs (by simp only[step,ha]<;>rfl) trivial (Wp.refl _)
  .refine dJ.pure hs (by simp only[step,ha]<;>rfl) trivial ?_
   rw[hl]
   exact Wp.refl _
 .rename_i ty sz xs hr
  rw[hr]at hv
  cases hx
  rcases Mh hv with⟨ha,rfl⟩|⟨as,ha,hl,hc⟩
  .exact dJ.pure hs (by simp only[step,ha]<;>rfl) trivial (Wp.refl _)
  .refine dJ.pure hs (by simp only[step,ha]<;>rfl) trivial ?_
   rw[hl]
   exact Wp.refl _
 .rename_i id hr
  rw[hr]at hv
  obtain⟨ty,T,fz,es,he,ha⟩:=hv
  rw[he]at hx
  cases hx
  exact dJ.pure hs (by simp only[step,ha]<;>rfl) trivial (Wp.refl _)
 .rename_i id off len hr
  rw[hr]at hv
  obtain⟨ty,T,fz,es,he,ha⟩:=hv
  cases hx
  exact dJ.pure hs (by simp only[step,ha]<;>rfl) trivial (Wp.refl _)
 .rename_i hr
  rw[hr]at hv
  cases hx
  have ha:=Ga hv
  exact dJ.pure hs (by simp only[step,ha]<;>rfl) trivial (Wp.refl _)
 .cases hx
theorem a5g(x:Opd):lF Gl ρ h σ rd tt (.mov x):=by
 intro hs hrd p v kl h' hx hp
 simp only[ig]at hx
 cases hx
 exact dJ.pure hs rfl trivial (hrd x)
theorem a1e(c a b:Opd):lF Gl ρ h σ rd tt (.pick c a b):=by
 intro hs hrd p v kl h' hx hp
 simp only[ig]at hx
 split at hx
 .rename_i t T x T' y h1 h2 h3
  split at hx
  .rename_i y' hy
   cases hx
   have hc:=hrd c;have ha:=hrd a;have hb:=hrd b
   rw[h1]at hc;rw[h2]at ha;rw[h3]at hb
   have ec:=tO hc
   obtain⟨rfl,rfl⟩:=lD hy
   refine dJ.pure hs (by simp only[step,ec]<;>rfl) trivial ?_
   cases t
   .exact hb
   .exact ha
  .cases hx
 .cases hx
theorem a5m(op:BinOp)(x y:Opd):lF Gl ρ h σ rd tt (.bin op x y):=by
 intro hs hrd p v kl h' hx hp
 simp only[ig]at hx
 split at hx
 .rename_i p' v' hb
  cases hx
  obtain⟨va,vb,q,r,ea,eb,hq,hqq,hv⟩:=a4Q hb hp (hrd x) (hrd y)
  exact dJ.pure hs (by simp only[step,ea,eb,hq,bq]) hqq hv
 .cases hx
theorem b25{xs ys:List XV}{as bs:List AV}(hx:bn (V1 ρ h) xs as)(hy:bn (V1 ρ h) ys bs):∀(fs:List (Nat×Nat)) (b:Bool),TA xs ys fs=some b->eqA as bs fs=some b:=by
 intro fs
 induction fs with
 |nil=>intro b hb;exact hb
 |cons f fs ih =>
  intro b hb
  obtain⟨i,c⟩:=f
  simp only[TA]at hb
  simp only[eqA]
  split at hb
  .rename_i u w hu hw
   cases hb
   rw[ih w hw]
   have gx:∀{xs:List XV} {as:List AV},bn (V1 ρ h) xs as->∀i,V1 ρ h (xs.getD i .any) (as.getD i .any):=fun{xs as} hx i=>by
    rcases bI i as.length with q|q
    .exact hx.getD q _ _
    .have:xs[i]?=none:=aX (by rw[hx.1];exact q)
     simp[List.getD,this];trivial
   have h1:=gx hx i
   have h2:=gx hy i
   have key:eq1 (as.getD i .any) (bs.getD i .any)=some u:=by
    unfold a8O at hu
    split at hu
    .rename_i k a k' b' e1 e2
     rw[e1]at h1;rw[e2]at h2
     rw[Wp.dK h1,Wp.dK h2]
     exact hu
    .cases hu
   rw[key]
  .cases hb
theorem ZB{x:XV}{cs:List XV}{a:AV}(hx:VI x=some cs)(hv:VT ρ h x a):∃as,a=.agg as/\bn (V1 ρ h) cs as:=by
 unfold VI at hx
 split at hx
 .rename_i fs y
  cases hx
  obtain⟨as,rfl,_⟩:=Wp.iX hv
  exact⟨as,rfl,Z4 (T:=.tup fs) hv⟩
 .cases hx;exact hv
 .cases hx
theorem a5p(neg:Bool)(fs:List (Nat×Nat))(x y:Opd):lF Gl ρ h σ rd tt (.aeq neg fs x y):=by
 intro hs hrd p v kl h' hx hp
 simp only[ig]at hx
 split at hx
 .rename_i xs ys h1 h2
  split at hx
  .rename_i b hb
   cases hx
   obtain⟨as,ea,c1⟩:=ZB h1 (hrd x)
   obtain⟨bs,eb,c2⟩:=ZB h2 (hrd y)
   have hq:=b25 c1 c2 fs b hb
   refine dJ.pure hs (by simp only[step,ea,eb,hq,bq]<;>rfl) trivial ?_
   cases neg<;>exact Wp.refl _
  .cases hx
 .cases hx
theorem a9w(op:UnOp)(x:Opd):lF Gl ρ h σ rd tt (.un op x):=by
 intro hs hrd p v kl h' hx hp
 simp only[ig]at hx
 have hv:=hrd x
 split at hx
 .rename_i k n h1
  rw[h1]at hv
  cases hx
  exact dJ.pure hs (by simp only[step,mV hv,unV,bq]<;>rfl) trivial (Wp.refl _)
 .rename_i b h1
  rw[h1]at hv
  cases hx
  exact dJ.pure hs (by simp only[step,tO hv,unV,bq]<;>rfl) trivial (Wp.refl _)
 .cases hx
theorem a1i(k:IntKind)(x:Opd):lF Gl ρ h σ rd tt (.conv k x):=by
 intro hs hrd p v kl h' hx hp
 simp only[ig]at hx
 have hv:=hrd x
 split at hx
 .rename_i k' n h1
  rw[h1]at hv
  cases hx
  exact dJ.pure hs (by simp only[step,mV hv]<;>rfl) trivial (Wp.refl _)
 .cases hx
theorem a5j(i:Nat)(x:Opd):lF Gl ρ h σ rd tt (.ext i x):=by
 intro hs hrd p v kl h' hx hp
 simp only[ig]at hx
 have hv:=hrd x
 split at hx
 .rename_i vs h1
  rw[h1]at hv
  obtain⟨as,ha,hc⟩:=hv
  split at hx
  .rename_i w hw
   cases hx
   obtain⟨a,h2,h3⟩:=hc.lq hw
   exact dJ.pure hs (by simp only[step,ha,h2,bq]<;>rfl) trivial (VT.ofA h3)
  .cases hx
 .cases hx
theorem WM(off:Nat)(x:Opd):lF Gl ρ h σ rd tt (.fO off x):=by
 intro hs hrd p v kl h' hx hp
 simp only[ig]at hx
 have hv:=hrd x
 split at hx
 .rename_i id i o h1
  rw[h1]at hv
  obtain⟨ob,he,ha⟩:=hv
  cases hx
  exact dJ.pure hs (by simp only[step,ha]<;>rfl) trivial ⟨ob,he,rfl⟩
 .rename_i T y o h1
  rw[h1]at hv
  obtain⟨cs,ha,hc⟩:=hv
  cases hx
  refine dJ.pure hs (by simp only[step,ha]<;>rfl) trivial ⟨_,rfl,?_⟩
  have:=hc.drop off
  rw[List.drop_drop]at this
  exact this
 .cases hx
theorem a5f(x:Opd):lF Gl ρ h σ rd tt (.nck x):=by
 intro hs hrd p v kl h' hx hp
 simp only[ig]at hx
 have hv:=hrd x
 split at hx
 .rename_i id i o h1
  rw[h1]at hv
  obtain⟨ob,he,ha⟩:=hv
  cases hx
  exact dJ.pure hs (by simp only[step,ha]<;>rfl) trivial ⟨ob,he,rfl⟩
 .rename_i T y o h1
  rw[h1]at hv
  obtain⟨cs,ha,hc⟩:=hv
  cases hx
  exact dJ.pure hs (by simp only[step,ha]<;>rfl) trivial ⟨_,rfl,hc⟩
 .cases hx
theorem beq_eq{a b:Nat}(h:Nat.beq a b=true):a=b:=fV h
theorem LG(hs:HS ρ h σ.h){e:Ty}{xs:List e.den}{k:IntKind}{n:Int}{x i:Opd}{sz:Nat}(hv:VT ρ h (.d (.list e) xs) (σ.val Gl x))(ei:σ.val Gl i=.v (.int k n))(hz:e.size=sz)(hb:bnd n (aA xs)=true):dJ Gl ρ h σ rd (.rA sz x i) (.lp e (atI xs n e.dflt) 0) [] h:=by
 have hb:=vP hb
 rcases Jv hv with⟨ha,rfl⟩|⟨as,ha,hl,hc⟩
 .simp[aA]at hb;omega
 .have hlt:n.toNat<xs.length:=by have:=hb.2;simp only[aA]at this;omega
  refine dJ.pure hs (q:=0<=n/\n<as.length) (a:=.iF (as.getD n.toNat .any).cells) (by simp only[step,ha,ei,hz,if_true]) ⟨hb.1,by rw[hl];exact hb.2⟩ ⟨_,rfl,?_⟩
  rw[ku]
  have:=hc.getD (n:=n.toNat) (by rw[bA];exact hlt) .any .any
  rw[wE _ hlt]at this
  exact this.cells
theorem QX(hs:HS ρ h σ.h){ty sz':Nat}{T:Ty}{xs:List AV}{k:IntKind}{n:Int}{x i:Opd}{sz:Nat}(hv:VT ρ h (.d (.rl ty sz') xs) (σ.val Gl x))(ei:σ.val Gl i=.v (.int k n))(hz:sz'=sz)(hb:bnd n (aA xs)=true)(hd:okD T (atI xs n .any)=true):dJ Gl ρ h σ rd (.rA sz x i) (.lp T (Km T (atI xs n .any)) 0) [] h:=by
 have hb:=vP hb
 rcases Mh hv with⟨ha,rfl⟩|⟨as,ha,hl,hc⟩
 .simp[aA]at hb;omega
 .have hlt:n.toNat<xs.length:=by have:=hb.2;simp only[aA]at this;omega
  refine dJ.pure hs (q:=0<=n/\n<as.length) (a:=.iF (as.getD n.toNat .any).cells) (by simp only[step,ha,ei,hz,if_true]) ⟨hb.1,by rw[hl];exact hb.2⟩ ⟨_,rfl,?_⟩
  rw[ku]
  exact((hc.getD (n:=n.toNat) hlt .any .any).trans (Sk hd)).cells
theorem WK(sz:Nat)(x i:Opd):lF Gl ρ h σ rd tt (.rA sz x i):=by
 intro hs hrd p v kl h' hx hp
 simp only[ig]at hx
 have hv:=IU (hrd x)
 have hi:=hrd i
 split at hx
 .rename_i e xs k n h1 h2
  rw[h1]at hv;rw[h2]at hi
  have ei:=mV hi
  split at hx
  .rename_i hz
   cases hx
   exact LG hs hv ei (beq_eq hz) hp
  .cases hx
 .rename_i ty sz' xs k n h1 h2
  rw[h1]at hv;rw[h2]at hi
  have ei:=mV hi
  split at hx
  .rename_i T hT
   split at hx
   .rename_i hz
    cases hx
    simp only[aB]at hz hp
    exact QX hs hv ei (beq_eq hz.2) hp.1 hp.2
   .cases hx
  .cases hx
 .rename_i id k n h1 h2
  rw[h1]at hv;rw[h2]at hi
  have ei:=mV hi
  obtain⟨ty,T,fz,es,he,ha⟩:=hv
  rw[he]at hx
  simp only at hx
  split at hx
  .rename_i hz
   cases hx
   have:=E8 (Gl:=Gl) (rd:=rd) hs he (beq_eq hz) ha ei (vP hp)
   rw[dD]at this;exact this
  .cases hx
 .rename_i id off len k n h1 h2
  rw[h1]at hv;rw[h2]at hi
  have ei:=mV hi
  obtain⟨ty,T,fz,es,he,ha⟩:=hv
  rw[he]at hx
  simp only at hx
  split at hx
  .rename_i hz
   cases hx
   exact E8 (Gl:=Gl) (rd:=rd) hs he (beq_eq hz) ha ei (vP hp)
  .cases hx
 .cases hx
theorem a1h(sz:Nat)(ag:Bool)(x:Opd):lF Gl ρ h σ rd tt (.load sz ag x):=by
 intro hs hrd p v kl h' hx hp
 simp only[ig]at hx
 have hv:=hrd x
 split at hx
 .rename_i T y o h1
  rw[h1]at hv
  obtain⟨cs,ha,hc⟩:=hv
  split at hx
  .rename_i w hw
   cases hx
   obtain⟨T',x',rfl,hq⟩:=Sz _ _ _ _ _ _ hw
   cases ag with
   |true =>
    simp only[if_true]at hq
    have hl:sz<=cs.length:=by rw[hc.1,rJ];omega
    refine dJ.pure hs (by simp only[step,ha,hl,if_true]<;>rfl) trivial ?_
    show Wp _ _
    rw[hq.2]
    have:=hc.take sz
    exact .agg _ _ this.1 this.2
   |false =>
    simp only[dH,if_false]at hq
    have:((Ty.enc T y).cells.drop o)[0]?=some (Ty.enc T' x'):=by rw[fT,jQ];exact hq
    obtain⟨c,h2,h3⟩:=hc.mZ this
    have hh:cs.head?=some c:=by rw[List.head?_eq_getElem?];exact h2
    exact dJ.pure hs (by simp only[step,ha,hh,dH,if_false,bq]<;>rfl) trivial h3
  .cases hx
 .rename_i id i o h1
  rw[h1]at hv
  obtain⟨ob,he,ha⟩:=hv
  rw[he]at hx
  obtain⟨O,hO,hR⟩:=hs.hr id ob he
  cases ob with
  |row ty T fz es =>
   simp only at hx
   split at hx
   .rename_i w hw
    cases hx
    obtain⟨o1,o2,o3,o4,o5⟩:=hR
    have hlen:O.es.length=es.length:=by have:=o5.1;simpa using this
    have hlt:i<es.length:=of_decide_eq_true hp
    have hcell:bn Wp (O.es.getD i .any).cells (Ty.enc T (es.getD i T.dflt)).cells:=by
     have:=o5.getD (n:=i) (by rw[bA];exact hlt) .any .any
     rw[wE _ hlt]at this
     exact this.cells
    have hq:=LD (ρ:=ρ) (h:=h) hw hcell
    have hsz:(O.es.getD i .any).cells.length=T.size:=by rw[hcell.1,ji]
    cases ag with
    |true =>
     simp only[if_true]at hq
     exact dJ.pure hs (q:=o+sz<=O.sz/\i<es.length) (by simp only[step,ha,hO,XO.len,hlen,if_true]<;>rfl) ⟨by rw[o2];omega,hlt⟩ hq.2
    |false =>
     simp only[dH,if_false]at hq
     obtain⟨c,hc,hv⟩:=hq
     have hol:o<(O.es.getD i .any).cells.length:=(aj.1 hc).1
     refine dJ.pure hs (q:=o<O.sz/\i<es.length) (by simp only[step,ha,hO,XO.len,hlen,if_true,dH,if_false]<;>rfl) ⟨by rw[o2];omega,hlt⟩ ?_
     have:(O.es.getD i .any).cells.getD o .any=c:=by simp only[List.getD]at hc ⊢;rw[hc];rfl
     rw[this];exact hv
   .cases hx
  |box ty cs =>
   obtain⟨o1,o2,o3,o4,e,o5,hc⟩:=hR
   have hlen:O.es.length=1:=by rw[o5];rfl
   simp only at hx
   cases ag with
   |true =>
    simp only[if_true]at hx
    split at hx
    .rename_i hb
     cases hx
     simp only[aB]at hb
     have hi:=beq_eq hb.1
     have hl:=iZ hb.2
     subst hi
     refine dJ.pure hs (q:=o+sz<=O.sz/\0<1) (by simp only[step,ha,hO,XO.len,hlen,if_true]<;>rfl) ⟨by rw[o2];exact hl,by omega⟩ ?_
     rw[o5]
     exact⟨_,rfl,(hc.drop o).take sz⟩
    .cases hx
   |false =>
    simp only[dH,if_false]at hx
    split at hx
    .rename_i hb
     have hi:=beq_eq hb
     subst hi
     split at hx
     .rename_i w hw
      cases hx
      obtain⟨c,h2,h3⟩:=hc.lq hw
      have hol:o<cs.length:=(aj.1 hw).1
      refine dJ.pure hs (q:=o<O.sz/\0<1) (by simp only[step,ha,hO,XO.len,hlen,if_true,dH,if_false]<;>rfl) ⟨by rw[o2];exact hol,by omega⟩ ?_
      rw[o5]
      have:([e].getD 0 AV.any).cells.getD o .any=c:=by simp only[List.getD_cons_zero];simp only[List.getD,h2];rfl
      rw[this];exact VT.of1 h3
     .cases hx
    .cases hx
 .cases hx
end
section
variable{ρ:List Nat}{h:List XO}{H:List aH}{σ:St}{Gl:Nat->Option (List AV)}{rd:Opd->XV}{tt:Nat->Option Ty}
theorem a1b{a:AV}(hs:dB false a=some a.cells):∀c∈a.cells,c.cells=[c]:=by
 intro c hc
 have hst:st1 false c=true:=by
  cases a with
  |agg as =>
   simp only[dB]at hs
   split at hs
   .rename_i hall;exact aD.1 hall c hc
   .cases hs
  |_ =>
   simp only[dB]at hs
   split at hs
   .rename_i h1
    simp only[AV.cells,aV]at hc
    subst hc;exact h1
   .cases hs
 cases c<;>first|rfl|(cases hst;done)
theorem WI(sz:Nat)(x y:Opd):lF Gl ρ h σ rd tt (.store sz x y):=by
 intro hs hrd p v kl h' hx hp
 simp only[ig]at hx
 have hv:=hrd x
 have hvy:=hrd y
 split at hx
 case h_2=>cases hx
 rename_i id i o h1
 rw[h1]at hv
 obtain⟨ob,he,ha⟩:=hv
 rw[he]at hx
 obtain⟨O,hO,hR⟩:=hs.hr id ob he
 have hleave:∀ok:Nat->Bool,leaves ok rd (.store sz x y)=true->∀id'∈[id],ok id'=true:=by
  intro m hm id' hid
  simp only[leaves,h1,aB]at hm
  simp only[aV]at hid
  subst hid
  exact hm.1
 cases ob with
 |row ty T fz es =>
  obtain⟨o1,o2,o3,o4,o5⟩:=hR
  have hlen:O.es.length=es.length:=by have:=o5.1;simpa using this
  simp only at hx
  split at hx
  .rename_i T' w h2
   rw[h2]at hvy
   split at hx
   .rename_i hz
    have hz:=beq_eq hz
    split at hx
    .rename_i z hset
     cases hx
     have hlt:i<es.length:=of_decide_eq_true hp
     have hst:=HY (x:=w) hvy O.pr
     have hcl:(σ.val Gl y).cells.length=sz:=by rw[(Wp.cells hvy).1,ji,hz]
     obtain⟨s1,s2⟩:=WU o5 hlt hvy hset
     refine⟨o+sz<=O.sz/\i<es.length/\O.fz<=i,.any,_,ρ,[id],by simp only[step,ha,hO,XO.len,hlen,if_true,hst,hcl]<;>rfl,⟨by rw[o2];omega,hlt,by rw[o4];simp⟩,?_,trivial,hleave⟩
     exact Upd.set hs he ⟨rfl,rfl,by simp⟩ ⟨o1,o2,o3,by simpa using o4,s2⟩
    .cases hx
   .cases hx
  .rename_i cs h2
   rw[h2]at hvy
   split at hx
   .rename_i ho
    have ho:=beq_eq ho
    subst ho
    split at hx
    .rename_i z hz
     split at hx
     .rename_i hsz
      have hsz:=beq_eq hsz
      cases hx
      have hlt:i<es.length:=of_decide_eq_true hp
      have hw:=wV hz (VT.wm hvy (λvs q=>by cases q))
      have hst:=HY (x:=z) hw O.pr
      have hcl:(σ.val Gl y).cells.length=sz:=by rw[(Wp.cells hw).1,ji,hsz]
      have s2:=NQ o5 hlt hw
      refine⟨0+sz<=O.sz/\i<es.length/\O.fz<=i,.any,_,ρ,[id],by simp only[step,ha,hO,XO.len,hlen,if_true,hst,hcl]<;>rfl,⟨by rw[o2];omega,hlt,by rw[o4];simp⟩,?_,trivial,hleave⟩
      exact Upd.set hs he ⟨rfl,rfl,by simp⟩ ⟨o1,o2,o3,by simpa using o4,s2⟩
     .cases hx
    .split at hx
     case h_2=>cases hx
     rename_i z hz
     split at hx
     case isFalse=>cases hx
     rename_i hb
     cases hx
     simp only[aB,iT]at hb
     obtain⟨⟨hb1,hb2⟩,hb3⟩:=hb
     have hsz:=beq_eq hb1
     have hlt:i<es.length:=of_decide_eq_true hp
     obtain⟨b,k1,k2,k3,k4⟩:=wW hs hz (VT.wm hvy (λvs q=>by cases q))
     have hnone:dB O.pr (σ.val Gl y)=none:=by
      obtain⟨as,ha2,hl⟩:=hvy
      obtain⟨c,hc,hcr⟩:=iO.1 hb2
      obtain⟨j,hj⟩:=dP.1 hc
      obtain⟨d,hd,hv1⟩:=hl.lq hj
      have hst:st1 true d=false:=by
       cases c with
       |row j=>obtain⟨_,_,_,_,_,rfl⟩:=hv1;rfl
       |sub j o l=>obtain⟨_,_,_,_,_,rfl⟩:=hv1;rfl
       |_=>simp[kC]at hcr
      have hall:as.all (st1 true)=false:=by
       rcases q:as.all (st1 true) with _|_
       .rfl
       .have:=aD.1 q d (bP hd);rw[hst]at this;cases this
      rw[ha2,o3]
      simp[dB,hall]
     have u1:=Upd.frz _ hs k4
     have he2:(ko h (fE (.agg cs)))[id]?=some (.row ty T false es):=by
      have hid:id∉fE (.agg cs):=λq=>by
       have:(fE (.agg cs)).any (Nat.beq id)=true:=iO.2 ⟨id,q,Nat.beq_refl id⟩
       rw[this]at hb3;cases hb3
      have key:∀(ids:List Nat) (g:List XO),id∉ids->(ko g ids)[id]?=g[id]?:=by
       intro ids
       induction ids with
       |nil=>intro g _;rfl
       |cons j ids ih =>
        intro g hn
        have hj:j≠id:=λq=>hn (by simp[q])
        have hi:id∉ids:=λq=>hn (by simp[q])
        simp only[ko,eX]
        have:=λg=>ih g hi
        simp only[ko]at this
        rw[this]
        cases hg:g[j]? with
        |none=>rfl
        |some o=>exact aC hj
      rw[key _ _ hid];exact he
     obtain⟨O',hO',p1,p2,p3,p4,p5⟩:=u1.hs.hr id _ he2
     have hst:=HY k2 O'.pr
     have hcl:b.cells.length=sz:=by rw[(Wp.cells k2).1,ji,hsz]
     have s2:=NQ p5 hlt k2
     rw[<- k3]at hO' u1
     refine⟨0+sz<=O'.sz/\i<es.length/\O'.fz<=i,.any,_,ρ,fE (.agg cs)++[id],by simp only[step,ha,hO,XO.len,hlen,if_true,hnone,k1,hO',hst,hcl]<;>rfl,⟨by rw[p2];omega,hlt,by rw[p4];simp⟩,?_,trivial,λok hok id' hid=>?_⟩
     .exact u1.trans (Upd.set u1.hs he2 ⟨rfl,rfl,by simp⟩ ⟨p1,p2,p3,by simpa using p4,s2⟩) hs.rl
     .simp only[leaves,h1,h2,aB]at hok
      rcases aG.1 hid with q|q
      .exact aD.1 hok.2 id' q
      .exact hleave ok (by simp only[leaves,h1,h2,aB];exact hok) id' q
   .split at hx
    case h_2=>cases hx
    rename_i T' _
    split at hx
    case h_2=>cases hx
    rename_i v hz
    split at hx
    case h_2=>cases hx
    rename_i z hset
    split at hx
    case isFalse=>cases hx
    rename_i hsz
    have hsz:=beq_eq hsz
    cases hx
    have hlt:i<es.length:=of_decide_eq_true hp
    have hw:=wV hz (VT.wm hvy (λvs q=>by cases q))
    have hst:=HY (x:=v) hw O.pr
    have hcl:(σ.val Gl y).cells.length=sz:=by rw[(Wp.cells hw).1,ji,hsz]
    obtain⟨s1,s2⟩:=WU o5 hlt hw hset
    refine⟨o+sz<=O.sz/\i<es.length/\O.fz<=i,.any,_,ρ,[id],by simp only[step,ha,hO,XO.len,hlen,if_true,hst,hcl]<;>rfl,⟨by rw[o2];omega,hlt,by rw[o4];simp⟩,?_,trivial,hleave⟩
    exact Upd.set hs he ⟨rfl,rfl,by simp⟩ ⟨o1,o2,o3,by simpa using o4,s2⟩
  .cases hx
 |box ty cs =>
  obtain⟨o1,o2,o3,o4,e,o5,hc⟩:=hR
  have hlen:O.es.length=1:=by rw[o5];rfl
  simp only at hx
  split at hx
  .rename_i vs hvs
   split at hx
   .rename_i hb
    cases hx
    simp only[aB]at hb
    have hi:=beq_eq hb.1.1.1
    have hsz:=beq_eq hb.1.1.2
    have hl:=iZ hb.1.2
    have h0:=wG hb.2
    subst hi
    obtain⟨c1,c2⟩:=cells_ok hvs hvy
    have hcl:(σ.val Gl y).cells.length=sz:=by rw[<- c1.1,hsz]
    have hst:dB O.pr (σ.val Gl y)=some (σ.val Gl y).cells:=by rw[o3];exact c2
    refine⟨o+sz<=O.sz/\0<1/\O.fz<=0,.any,_,ρ,[id],by simp only[step,ha,hO,XO.len,hlen,if_true,hst,hcl]<;>rfl,⟨by rw[o2];exact hl,by omega,by rw[o4];simp⟩,?_,trivial,hleave⟩
    refine Upd.set hs he trivial ⟨o1,?_,o3,o4,setCells e o (σ.val Gl y).cells,by simp only[o5,List.set_cons_zero,List.getD_cons_zero],?_⟩
    .simp only[ak,jR,rJ];rw[o2];omega
    .cases e with
     |agg us =>
      have hc:bn (V1 ρ h) cs us:=hc
      show bn (V1 ρ h) _ (us.take o++(σ.val Gl y).cells++us.drop (o+(σ.val Gl y).cells.length))
      rw[hcl,<- hsz]
      have:=((hc.take o).append c1).append (hc.drop (o+vs.length))
      exact this
     |_ =>
      have a2s:cs.length=1:=by rw[hc.1];rfl
      have ho:o=0:=by omega
      have hs1:vs.length=1:=by omega
      subst ho
      have hcs:(σ.val Gl y).cells.length=1:=by omega
      match hcc:(σ.val Gl y).cells,hcs with
      |[c],_ =>
       rw[hcc]at c1
       have hc1:=a1b c2 c (by rw[hcc];simp)
       show bn (V1 ρ h) _ c.cells
       rw[hc1,qK,fF,iN (by omega),cu]
       exact c1
   .cases hx
  .cases hx
theorem a2S{e:Ty}{l u:Int}{xs:List e.den}{as:List AV}(hc:bn Wp as (xs.map (Ty.enc e))):bn Wp ((as.take u.toNat).drop l.toNat) ((rD l u xs).map (Ty.enc e)):=by
 simp only[rD,yS,yR]
 exact(hc.take _).drop _
theorem LC(hs:HS ρ h σ.h)(hrd:∀o,VT ρ h (rd o) (σ.val Gl o)){e:Ty}{xs:List e.den}{x:Opd}{lo hi:Option Opd}{sz:Nat}{p:Bool}{l u:Int}(hv:VT ρ h (.d (.list e) xs) (σ.val Gl x))(hz:e.size=sz)(hcut:wT xs.length (lo.map rd) (hi.map rd)=some (p,l,u))(hp:p=true):dJ Gl ρ h σ rd (.slice sz x lo hi) (.d (.list e) (rD l u xs)) [] h:=by
 rcases Jv hv with⟨ha,rfl⟩|⟨as,ha,hl,hc⟩
 .obtain⟨h1,h2⟩:=wS hrd hcut hp
  refine dJ.pure hs (by simp only[step,ha];simp only[dS]at h1;rw[h1]<;>rfl) h2 ?_
  have:rD l u ([]:List e.den)=[]:=by simp[rD]
  rw[this]
  exact Wp.nil _
 .obtain⟨h1,h2⟩:=wS hrd hcut hp
  rw[<- hl]at h1 h2
  refine dJ.pure hs (by simp only[step,ha,hz,if_true,h1,bq]<;>rfl) h2 ?_
  have:=a2S (l:=l) (u:=u) hc
  rw[<- hz]
  exact .list _ _ _ this.1 this.2
theorem E5(hs:HS ρ h σ.h)(hrd:∀o,VT ρ h (rd o) (σ.val Gl o)){id ty off len:Nat}{T:Ty}{fz:Bool}{es:List T.den}{x:Opd}{lo hi:Option Opd}{sz:Nat}{p:Bool}{l u:Int}(he:h[id]?=some (.row ty T fz es))(ha:σ.val Gl x=.row (ρ.getD id 0) es.length T.size off len)(hz:T.size=sz)
  (hcut:wT len (lo.map rd) (hi.map rd)=some (p,l,u)) (hp:p=true):dJ Gl ρ h σ rd (.slice sz x lo hi) (.sub id (off+l.toNat) (u-l).toNat) [] h:=by
 obtain⟨h1,h2⟩:=wS hrd hcut hp
 exact dJ.pure hs (q:=0<=l/\l<=u/\u<=(len:Int)) (by simp only[step,ha,hz,if_true,h1,bq]<;>rfl) h2 ⟨_,_,_,_,he,by rw[hz]⟩
theorem QW(hs:HS ρ h σ.h)(hrd:∀o,VT ρ h (rd o) (σ.val Gl o)){ty sz':Nat}{xs:List AV}{x:Opd}{lo hi:Option Opd}{sz:Nat}{p:Bool}{l u:Int}(hv:VT ρ h (.d (.rl ty sz') xs) (σ.val Gl x))(hz:sz'=sz)(hcut:wT xs.length (lo.map rd) (hi.map rd)=some (p,l,u))(hp:p=true):dJ Gl ρ h σ rd (.slice sz x lo hi) (.d (.rl ty sz') (rD l u xs)) [] h:=by
 rcases Mh hv with⟨ha,rfl⟩|⟨as,ha,hl,hc⟩
 .obtain⟨h1,h2⟩:=wS hrd hcut hp
  refine dJ.pure hs (by simp only[step,ha];simp only[dS]at h1;rw[h1]<;>rfl) h2 ?_
  have:rD l u ([]:List AV)=[]:=by simp[rD]
  rw[this]
  exact Wp.nil _
 .obtain⟨h1,h2⟩:=wS hrd hcut hp
  rw[<- hl]at h1 h2
  refine dJ.pure hs (by simp only[step,ha,hz,if_true,h1,bq]<;>rfl) h2 ?_
  have:=(hc.take u.toNat).drop l.toNat
  rw[<- hz]
  exact .list _ _ _ this.1 this.2
theorem WJ(sz:Nat)(x:Opd)(lo hi:Option Opd):lF Gl ρ h σ rd tt (.slice sz x lo hi):=by
 intro hs hrd p v kl h' hx hp
 simp only[ig]at hx
 have hv:=IU (hrd x)
 split at hx
 .rename_i e xs h1
  rw[h1]at hv
  split at hx
  .rename_i hz
   split at hx
   .rename_i p' l u hc
    cases hx
    exact LC hs hrd hv (beq_eq hz) hc hp
   .cases hx
  .cases hx
 .rename_i ty sz' xs h1
  rw[h1]at hv
  split at hx
  .rename_i hz
   split at hx
   .rename_i p' l u hc
    cases hx
    exact QW hs hrd hv (beq_eq hz) hc hp
   .cases hx
  .cases hx
 .rename_i h1
  rw[h1]at hv
  split at hx
  .rename_i p' l u hc
   cases hx
   obtain⟨q1,q2⟩:=wS hrd hc hp
   exact dJ.pure hs (by simp only[step,Ga hv];rw[q1]<;>rfl) q2 rfl
  .cases hx
 .rename_i id h1
  rw[h1]at hv
  obtain⟨ty,T,fz,es,he,ha⟩:=hv
  rw[he]at hx
  simp only at hx
  split at hx
  .rename_i hz
   split at hx
   .rename_i p' l u hc
    cases hx
    have:=E5 hs hrd he ha (beq_eq hz) hc hp
    rw[dD]at this
    exact this
   .cases hx
  .cases hx
 .rename_i id off len h1
  rw[h1]at hv
  obtain⟨ty,T,fz,es,he,ha⟩:=hv
  rw[he]at hx
  simp only at hx
  split at hx
  .rename_i hz
   split at hx
   .rename_i p' l u hc
    cases hx
    exact E5 hs hrd he ha (beq_eq hz) hc hp
   .cases hx
  .cases hx
 .cases hx
theorem TR(x:Opd)(lo hi:Option Opd):lF Gl ρ h σ rd tt (.yg x lo hi):=by
 intro hs hrd p v kl h' hx hp
 simp only[ig]at hx
 have hv:=hrd x
 split at hx
 .rename_i s h1
  rw[h1]at hv
  split at hx
  .rename_i p' l u hc
   cases hx
   obtain⟨q1,q2⟩:=wS hrd hc hp
   exact dJ.pure hs (by simp only[step,Br hv];rw[q1]<;>rfl) q2 (Wp.refl _)
  .cases hx
 .cases hx
theorem a1d(x:Opd):lF Gl ρ h σ rd tt (.AQ x):=by
 intro hs hrd p v kl h' hx hp
 simp only[ig]at hx
 have hv:=hrd x
 split at hx
 .rename_i s h1
  rw[h1]at hv
  cases hx
  exact dJ.pure hs (by simp only[step,Br hv]<;>rfl) trivial (Wp.refl _)
 .cases hx
theorem a5i(x i:Opd):lF Gl ρ h σ rd tt (.idx x i):=by
 intro hs hrd p v kl h' hx hp
 simp only[ig]at hx
 have hv:=hrd x;have hi:=hrd i
 split at hx
 .rename_i s k n h1 h2
  rw[h1]at hv;rw[h2]at hi
  cases hx
  exact dJ.pure hs (by simp only[step,Br hv,mV hi]<;>rfl) (vP hp) (Wp.refl _)
 .cases hx
theorem a1f(x y:Opd):lF Gl ρ h σ rd tt (.min2 x y):=by
 intro hs hrd p v kl h' hx hp
 simp only[ig]at hx
 have hv:=hrd x;have hi:=hrd y
 split at hx
 .rename_i k a k' b h1 h2
  rw[h1]at hv;rw[h2]at hi
  cases hx
  exact dJ.pure hs (by simp only[step,mV hv,mV hi]<;>rfl) trivial (Wp.refl _)
 .cases hx
theorem a1g(x y:Opd):lF Gl ρ h σ rd tt (.max2 x y):=by
 intro hs hrd p v kl h' hx hp
 simp only[ig]at hx
 have hv:=hrd x;have hi:=hrd y
 split at hx
 .rename_i k a k' b h1 h2
  rw[h1]at hv;rw[h2]at hi
  cases hx
  exact dJ.pure hs (by simp only[step,mV hv,mV hi]<;>rfl) trivial (Wp.refl _)
 .cases hx
theorem Lj{l:List Nat}{a:Nat}:(l++[a]).getD l.length 0=a:=by simp[List.getD]
theorem ug(hs:HS ρ h H){ty sz:Nat}{T:Ty}{ys:List T.den}{as:List AV}(hz:T.size=sz)(hc:bn Wp as (ys.map (Ty.enc T))):Upd ρ h H (ρ++[H.length]) (h++[.row ty T false ys]) (H++[⟨ty,sz,0,true,as⟩]) [] []/\V1 (ρ++[H.length]) (h++[.row ty T false ys]) (.row h.length) (.row H.length as.length sz 0 as.length):=by
 refine⟨Upd.new hs ⟨rfl,hz.symm,rfl,by simp,hc⟩,ty,T,false,ys,by simp,?_⟩
 have:as.length=ys.length:=by rw[hc.1,bA]
 rw[this,<- hs.rl,Lj,hz]
theorem CZ{n b:Nat}(h:fits n b=true):n*b<=lU/\n<=4611686018427387904:=by simpa[fits]using h
theorem Ll(hs:HS ρ h σ.h){ty:Nat}{T:Ty}{x:XV}{q:Bool}{ys:List T.den}{a:AV}{sz:Nat}(hz:T.size=sz)(hx:Qk h ty T x=some (q,ys))(hq:q=true)(hv:VT ρ h x a):∃as,iC σ.h sz a=some as/\bn Wp as (ys.map (Ty.enc T)):=by
 unfold Qk at hx
 split at hx
 .rename_i ty' sz' xs
  split at hx
  .rename_i hc
   simp only[aB]at hc
   have hs':=beq_eq hc.2
   cases hx
   rw[hz]at hs'
   subst hs'
   rcases Mh hv with⟨rfl,rfl⟩|⟨as,rfl,hl,hw⟩
   .exact⟨[],rfl,.nil⟩
   .exact⟨as,by simp[iC],VH hw (a2R hq)⟩
  .cases hx
 .split at hx
  .rename_i zs hzs
   cases hx
   exact Qi hs hz hzs hv
  .cases hx
theorem a5o(ty sz bytes:Nat)(s x:Opd):lF Gl ρ h σ rd tt (.app ty sz bytes s x):=by
 intro hs hrd p v kl h' hx hp
 simp only[ig]at hx
 have hv:=hrd s
 split at hx
 case h_2=>cases hx
 rename_i T hT
 split at hx
 case isFalse=>cases hx
 rename_i hz
 have hz:=beq_eq hz
 split at hx
 case h_2=>cases hx
 rename_i q0 ys hys
 split at hx
 .rename_i h1
  rw[h1]at hv
  cases hx
  rw[aB]at hp
  obtain⟨as,ha,hc⟩:=Ll hs hz hys hp.1 (hrd x)
  have hal:as.length=ys.length:=by rw[hc.1,bA]
  have hp:=hp.2
  obtain⟨u1,u2⟩:=ug (ty:=ty) hs hz hc
  have hf:=CZ hp
  refine⟨as.length*bytes<=lU/\as.length<=4611686018427387904,_,_,_,[],by simp only[step,ha,Ga hv,tF]<;>rfl,by rw[hal];exact hf,u1,VT.of1 u2,by simp⟩
 .rename_i id h1
  rw[h1]at hv
  obtain⟨ty',T',fz',es',he,hav⟩:=hv
  rw[he]at hx
  simp only at hx
  split at hx
  case h_2=>cases hx
  rename_i ys' hcast
  split at hx
  case isFalse=>cases hx
  rename_i hty
  have hty:=beq_eq hty
  cases hx
  rw[aB]at hp
  obtain⟨as,ha,hc⟩:=Ll hs hz hys hp.1 (hrd x)
  have hal:as.length=ys.length:=by rw[hc.1,bA]
  have hp:=hp.2
  obtain⟨q,rfl⟩:=lD hcast
  cases q
  subst hty
  obtain⟨O,hO,o1,o2,o3,o4,o5⟩:=hs.hr id _ he
  have hlen:O.es.length=es'.length:=by have:=o5.1;simpa using this
  have hf:=CZ hp
  have o4':O.fz=0:=by simpa using o4
  have CS:wM ρ h (.row ty T false (es'++ys)) { O with es:=O.es++as }:=⟨o1,o2,o3,by simpa using o4,by rw[aU];exact o5.append hc⟩
  have hu:=Upd.app hs he CS
  refine⟨es'.length=es'.length/\(es'.length+as.length)*bytes<=lU/\es'.length+as.length<=4611686018427387904,.row (ρ.getD id 0) (es'.length+as.length) sz 0 (es'.length+as.length),_,ρ,[id],?_,⟨rfl,by rw[hal];exact hf.1,by rw[hal];exact hf.2⟩,hu,?_,?_⟩
  .simp only[step,ha,hav,tF,hO,hlen,hz,o1,o2,o3,o4',Nat.lt_irrefl,false_and,if_false,true_or,and_self,if_true]
  .refine VT.of1 ⟨ty,T,false,es'++ys,?_,?_⟩
   .show(ru [id] (h.set id (.row ty T false (es'++ys))))[id]?=_
    rw[vN,aT,aK (aj.1 he).1];rfl
   .rw[ak,hal,hz]
  .intro m hm id' hid
   simp only[leaves,h1]at hm
   simp only[aV]at hid
   subst hid
   exact hm
 .cases hx
theorem Zo(b:ByteArray):bn Wp (jJ b) ((qG b).map (Ty.enc (.int .u8))):=by
 have:(qG b).map (Ty.enc (.int .u8))=jJ b:=by
  unfold qG jJ
  rw[fH];rfl
 rw[this];exact bn.rfl' Wp.refl _
theorem Vw(b:ByteArray):(qG b).length=(jJ b).length:=by unfold qG jJ;rw[bA,bA]
theorem a1j(ty bytes:Nat)(s x:Opd):lF Gl ρ h σ rd tt (.apps ty bytes s x):=by
 intro hs hrd p v kl h' hx hp
 simp only[ig]at hx
 have hv:=hrd s
 have hw:=hrd x
 split at hx
 case h_2=>cases hx
 rename_i b hT h2
 rw[h2]at hw
 have ew:=Br hw
 have hc:=Zo b
 have hal:(jJ b).length=(qG b).length:=(Vw b).symm
 have hz:Ty.size (.int .u8)=1:=rfl
 split at hx
 .rename_i h1
  rw[h1]at hv
  cases hx
  obtain⟨u1,u2⟩:=ug (ty:=ty) hs hz hc
  have hf:=CZ hp
  refine⟨(jJ b).length*bytes<=lU/\(jJ b).length<=4611686018427387904,_,_,_,[],by simp only[step,ew,Ga hv,tF]<;>rfl,by rw[hal];exact hf,u1,VT.of1 u2,by simp⟩
 .rename_i id h1
  rw[h1]at hv
  obtain⟨ty',T',fz',es',he,hav⟩:=hv
  rw[he]at hx
  split at hx
  case h_2=>cases hx
  rename_i ty2 es2 hq
  cases hq
  split at hx
  case isFalse=>cases hx
  rename_i hty
  have hty:=beq_eq hty
  cases hx
  subst hty
  obtain⟨O,hO,o1,o2,o3,o4,o5⟩:=hs.hr id _ he
  have hlen:O.es.length=es2.length:=by have:=o5.1;rw[bA]at this;exact this
  have hf:=CZ hp
  have CS:wM ρ h (.row ty (.int .u8) false (es2++qG b)) { O with es:=O.es++jJ b }:=⟨o1,o2,o3,by simpa using o4,by rw[aU];exact o5.append hc⟩
  have hu:=Upd.app hs he CS
  have hap:step Gl σ (.apps ty bytes s x)=some (es2.length=es2.length/\(es2.length+(jJ b).length)*bytes<=lU/\es2.length+(jJ b).length<=4611686018427387904,.row (ρ.getD id 0) (es2.length+(jJ b).length) 1 0 (es2.length+(jJ b).length),σ.h.set (ρ.getD id 0) { O with es:=O.es++jJ b }):=by
   have ew':σ.val Gl x=.v (.string b):=ew
   simp only[step,ew',hav,tF,hO]
   rw[if_neg (λq=>Nat.lt_irrefl _ q.1)]
   exact if_pos ⟨hlen,rfl,o1,o2,trivial,.inl o3,by simpa using o4⟩
  refine⟨_,_,_,_,[id],hap,⟨rfl,by rw[hal];exact hf⟩,hu,?_,?_⟩
  .refine VT.of1 ⟨ty,.int .u8,false,es2++qG b,?_,?_⟩
   .show(ru [id] (h.set id (.row ty (.int .u8) false (es2++qG b))))[id]?=_
    rw[vN,aT,aK (aj.1 he).1];rfl
   .rw[ak,hal,hz]
  .intro m hm id' hid
   simp only[leaves,h1]at hm
   simp only[aV]at hid
   subst hid
   exact hm
 .cases hx
theorem Ra:∀(xs:List Int) (as:List AV),bn Wp as (xs.map (Ty.enc (.int .u8)))->bytesOf as=some (xs.map λn=>UInt8.ofNat n.toNat):=by
 intro xs
 induction xs with
 |nil=>intro as h;rw[h.L6];rfl
 |cons x xs ih =>
  intro as h
  obtain⟨a,as',rfl,h1,h2⟩:=h.cons_right
  have e:a=.v (.int .u8 x):=h1.dK
  subst e
  simp only[bytesOf,byteOf,ih as' h2,bg]
theorem a5n(x:Opd):lF Gl ρ h σ rd tt (.b2s x):=by
 intro hs hrd p v kl h' hx hp
 simp only[ig]at hx
 split at hx
 .rename_i xs hxs
  cases hx
  obtain⟨as,ha,hc⟩:=Qi hs (T:=.int .u8) (sz:=1) rfl hxs (hrd x)
  exact dJ.pure hs (by simp only[step,ha,Ra xs as hc,bq]<;>rfl) trivial (Wp.refl _)
 .cases hx
theorem za:∀(ids:List Nat) (H:List aH),(freeze H ids).length=H.length:=by
 intro ids
 induction ids with
 |nil=>intro H;rfl
 |cons id ids ih =>
  intro H
  cases he:H[id]? with
  |none =>
   have e:freeze H (id::ids)=freeze H ids:=by simp only[freeze,eX,he]
   rw[e];exact ih H
  |some o =>
   have e:freeze H (id::ids)=freeze (H.set id { o with fz:=o.es.length }) ids:=by simp only[freeze,eX,he]
   rw[e,ih];simp
theorem a2B:∀(ids:List Nat) (h:List XO),(ko h ids).length=h.length:=by
 intro ids
 induction ids with
 |nil=>intro H;rfl
 |cons id ids ih =>
  intro H
  cases he:H[id]? with
  |none =>
   have e:ko H (id::ids)=ko H ids:=by simp only[ko,eX,he]
   rw[e];exact ih H
  |some o =>
   have e:ko H (id::ids)=ko (H.set id (Qe o)) ids:=by simp only[ko,eX,he]
   rw[e,ih];simp
theorem TS(ty sz:Nat)(xs:List Opd):lF Gl ρ h σ rd tt (.lI ty sz xs):=by
 intro hs hrd p v kl h' hx hp
 simp only[ig]at hx
 split at hx
 case h_2=>cases hx
 rename_i T hT
 split at hx
 case isFalse=>cases hx
 rename_i hz
 simp only[aB,iT]at hz
 obtain⟨hz,hi⟩:=hz
 have hz:=beq_eq hz
 split at hx
 case h_2=>cases hx
 rename_i ys hys
 cases hx
 obtain⟨bs,k1,k2,k3,k4⟩:=a4Y hs hys (Ef (Gl:=Gl) (σ:=σ) hrd)
 have u1:=Upd.frz _ hs k4
 obtain⟨u2,u3⟩:=ug (ty:=ty) u1.hs hz k2
 have u:=u1.trans u2 hs.rl
 have hfl:(freeze σ.h (((xs.map rd).flatMap fE).map λid=>ρ.getD id 0)).length=σ.h.length:=za _ _
 rw[hfl,a2B]at u3
 rw[hfl,<- k3]at u
 refine⟨True,_,_,_,_,by simp only[step,k1,RF hz k2,if_true,hi,xS]<;>rfl,trivial,u,VT.of1 u3,?_⟩
 intro m hm id hid
 simp only[leaves]at hm
 simp only[cu]at hid
 exact aD.1 hm id hid
theorem KP{T:Ty}:∀{xs:List XV} {ys:List T.den} {as:List AV},Dy [] T xs=some ys->bn (VT ρ h) xs as->dV H as=some as/\bn Wp as (ys.map (Ty.enc T))/\∀a∈as,dU a=[]:=by
 intro xs
 induction xs with
 |nil =>
  intro ys as hx hv
  cases hx
  have:=hv.gT
  subst this
  exact⟨rfl,.nil,by simp⟩
 |cons x xs ih =>
  intro ys as hx hv
  simp only[Dy]at hx
  split at hx
  .rename_i z l hz hl
   cases hx
   obtain⟨a,as',rfl,hv1,hv2⟩:=hv.cZ
   have hnt:∀vs,x≠.tup vs:=λvs q=>by
    subst q
    cases T<;>simp[toD,lst]at hz
   have hw:=wV hz (hv1.wm hnt)
   obtain⟨k1,k2⟩:=EN hw H
   obtain⟨i1,i2,i3⟩:=ih hl hv2
   refine⟨by simp only[dV,k1,i1],.cons hw i2,λb hb=>?_⟩
   rcases bD.1 hb with rfl|hb
   .exact k2
   .exact i3 b hb
  .cases hx
theorem WQ(ty sz:Nat)(xs:List Opd):lF Gl ρ h σ rd tt (.Aq ty sz xs):=by
 intro hs hrd p v kl h' hx hp
 simp only[ig]at hx
 split at hx
 case h_2=>cases hx
 rename_i T hT
 split at hx
 case isFalse=>cases hx
 rename_i hz
 have hz:=beq_eq hz
 split at hx
 case h_2=>cases hx
 rename_i ys hys
 cases hx
 obtain⟨k1,k2,k3⟩:=KP (H:=σ.h) hys (Ef (Gl:=Gl) (σ:=σ) hrd)
 have hr:(xs.map (σ.val Gl)).all (λa=>(dU a).isEmpty)=true:=aD.2 λa ha=>by rw[k3 a ha];rfl
 refine dJ.pure hs (by simp only[step,k1,RF hz k2,hr,Bool.and_self,if_true]<;>rfl) trivial ?_
 rw[<- hz]
 exact .list _ _ _ k2.1 k2.2
theorem a2Y(hrd:∀o,VT ρ h (rd o) (σ.val Gl o)):∀(ps:List (Nat×Nat×Opd)) (cs:List XV) (as:List AV) (cs':List XV),bn (V1 ρ h) cs as->Jb rd cs ps=some cs'->∃as',l6 Gl σ as ps=some as'/\bn (V1 ρ h) cs' as':=by
 intro ps
 induction ps with
 |nil=>intro cs as cs' hc hb;cases hb;exact⟨as,rfl,hc⟩
 |cons p ps ih =>
  intro cs as cs' hc hb
  obtain⟨off,sz,x⟩:=p
  simp only[Jb]at hb
  split at hb
  .rename_i vs hvs
   split at hb
   .rename_i hq
    simp only[aB]at hq
    have h1:=beq_eq hq.1
    have h2:=iZ hq.2
    obtain⟨c1,c2⟩:=cells_ok hvs (hrd x)
    obtain⟨as',e1,e2⟩:=ih _ _ cs' (((hc.take off).append c1).append (hc.drop (off+sz))) hb
    refine⟨as',?_,e2⟩
    have hl:(σ.val Gl x).cells.length=sz:=by rw[<- c1.1,h1]
    simp only[l6,c2,hl,true_and,show off+sz<=as.length from by rw[<- hc.1];exact h2,if_true]
    exact e1
   .cases hb
  .cases hb
theorem Rh(l:List Value):bn (V1 ρ h) (l.map vx1) (l.map .v) :=
 ⟨by simp,λi x a p q=>by
  rw[aT]at p q
  cases hv:l[i]? with
  |none=>rw[hv]at p;cases p
  |some v=>rw[hv]at p q;cases p;cases q;exact TH v⟩
theorem WO(zero:List Value)(ps:List (Nat×Nat×Opd)):lF Gl ρ h σ rd tt (.build zero ps):=by
 intro hs hrd p v kl h' hx hp
 simp only[ig]at hx
 split at hx
 .rename_i cs hb
  cases hx
  obtain⟨as,e1,e2⟩:=a2Y hrd ps _ _ cs (Rh zero) hb
  exact dJ.pure hs (by simp only[step,e1,bq]<;>rfl) trivial ⟨as,rfl,e2⟩
 .cases hx
theorem RA(hs:HS ρ h H){ty:Nat}{cs:List XV}{e:AV}{sz:Nat}(hz:cs.length=sz)(hc:bn (V1 ρ h) cs e.cells):Upd ρ h H (ρ++[H.length]) (h++[.box ty cs]) (H++[⟨ty,sz,0,false,[e]⟩]) [] []/\V1 (ρ++[H.length]) (h++[.box ty cs]) (.ptr h.length 0 0) (.ptr H.length 1 0 0):=by
 refine⟨Upd.new hs ⟨rfl,hz.symm,rfl,rfl,e,rfl,hc⟩,.box ty cs,by simp,?_⟩
 rw[<- hs.rl,Lj];rfl
theorem a5l(ty sz:Nat)(x:Opd):lF Gl ρ h σ rd tt (.box ty sz x):=by
 intro hs hrd p v kl h' hx hp
 simp only[ig]at hx
 split at hx
 .rename_i cs hcs
  split at hx
  .rename_i hz
   have hz:=beq_eq hz
   cases hx
   obtain⟨c1,c2⟩:=cells_ok hcs (hrd x)
   have hl:(σ.val Gl x).cells.length=sz:=by rw[<- c1.1,hz]
   obtain⟨u1,u2⟩:=RA (ty:=ty) hs hz c1
   exact⟨True,_,_,_,[],by simp only[step,c2,hl,if_true]<;>rfl,trivial,u1,VT.of1 u2,by simp⟩
  .cases hx
 .cases hx
theorem a3L(v:Value):VT ρ h (vx v) (jO v):=by
 by_cases ha:∃cs,v=.agg cs
 .obtain⟨cs,rfl⟩:=ha;exact⟨_,rfl,Rh cs.toList⟩
 .have e1:vx v=vx1 v:=by cases v<;>first|rfl|exact absurd ⟨_,rfl⟩ ha
  have e2:jO v=.v v:=by cases v<;>first|rfl|exact absurd ⟨_,rfl⟩ ha
  rw[e1,e2];exact VT.of1 (TH v)
theorem Zx(v:Value):(jO v).cells.length=v.cells.size:=by
 cases v with
 |agg cs=>simp[jO,AV.cells,Value.cells]
 |_=>rfl
theorem WR(ty:Nat)(zero:Value):lF Gl ρ h σ rd tt (.alloc ty zero):=by
 intro hs hrd p v kl h' hx hp
 simp only[ig]at hx
 split at hx
 .rename_i cs hcs
  cases hx
  obtain⟨c1,c2⟩:=cells_ok hcs (a3L (ρ:=ρ) (h:=h) zero)
  obtain⟨u1,u2⟩:=RA (ty:=ty) (sz:=zero.cells.size) hs (by rw[c1.1,Zx]) c1
  exact⟨True,_,_,_,[],by simp only[step]<;>rfl,trivial,u1,VT.of1 u2,by simp⟩
 .cases hx
theorem Z6{n:Int}{b:Nat}(h:ze n b=true):0<=n/\n*b<=lU/\n<=4611686018427387904:=by
 simp only[ze,aB,eT]at h
 exact⟨h.1.1,h.1.2,h.2⟩
theorem b0m(hs:HS ρ h σ.h){ty sz bytes:Nat}{zero:Value}{n:Opd}{m:Int}{T:Ty}{z:T.den}(hn:σ.val Gl n=.v (.int .i64 m))(hz:T.size=sz)(ht:toD [] T (vx zero)=some z)(hp:ze m bytes=true):dJ Gl ρ h σ rd (.mk ty sz bytes zero n) (.row h.length) [] (h++[.row ty T false (List.replicate m.toNat z)]):=by
 have hf:=Z6 hp
 have hnt:∀vs,vx zero≠.tup vs:=λvs q=>by
  rw[q]at ht
  cases T<;>simp[toD,lst]at ht
 have hw:=wV ht (VT.wm (a3L (ρ:=ρ) (h:=h) zero) hnt)
 have hc:bn Wp (List.replicate m.toNat (jO zero)) ((List.replicate m.toNat z).map (Ty.enc T)):=by
  rw[List.map_replicate]
  exact⟨by simp,λi x y p q=>by
   have p':=gI (bP p)
   have q':=gI (bP q)
   subst p' q';exact hw⟩
 obtain⟨u1,u2⟩:=ug (ty:=ty) hs hz hc
 rw[qO]at u2
 exact⟨_,_,_,_,[],by simp only[step,hn]<;>rfl,hf,u1,VT.of1 u2,by simp⟩
theorem a9x(ty sz bytes:Nat)(zero:Value)(n:Opd):lF Gl ρ h σ rd tt (.mk ty sz bytes zero n):=by
 intro hs hrd p v kl h' hx hp
 simp only[ig]at hx
 have hv:=hrd n
 split at hx
 .rename_i T m hT h1
  rw[h1]at hv
  split at hx
  .rename_i hz
   split at hx
   .rename_i z hzz
    cases hx
    exact b0m hs (mV hv) (beq_eq hz) hzz hp
   .cases hx
  .cases hx
 .cases hx
theorem Y2(hs:HS ρ h σ.h){bsz st n id j:Nat}{x i:Opd}{k:IntKind}{m:Int}{ty:Nat}{T:Ty}{fz:Bool}{es:List T.den}(he:h[id]?=some (.row ty T fz es))(ha:σ.val Gl x=.ptr (ρ.getD id 0) (XO.len (.row ty T fz es)) j 0)(ei:σ.val Gl i=.v (.int k m))(hz:T.size=bsz)(hb:0<=m/\m<(n:Int)) :
  dJ Gl ρ h σ rd (.mQ bsz st n x i) (.ptr id (j+m.toNat*st) 0) [] h:=by
 obtain⟨O,hO,o1,o2,_⟩:=hs.hr id _ he
 exact dJ.pure hs (q:=0<=m/\m<(n:Int)) (a:=.ptr (ρ.getD id 0) (XO.len (.row ty T fz es)) (j+m.toNat*st) 0) (by simp only[step,ha,ei,hO];rw[if_pos ⟨trivial,by rw[o2];exact hz⟩]) hb ⟨_,he,rfl⟩
theorem U7(hs:HS ρ h σ.h){n id j o:Nat}{x i:Opd}{k:IntKind}{m:Int}{ty:Nat}{T:Ty}{fz:Bool}{es:List T.den}(he:h[id]?=some (.row ty T fz es))(ha:σ.val Gl x=.ptr (ρ.getD id 0) (XO.len (.row ty T fz es)) j o)(ei:σ.val Gl i=.v (.int k m))(hz:o=0->T.size=1->False)(hb:0<=m/\m<(n:Int)) :
  dJ Gl ρ h σ rd (.mQ 1 1 n x i) (.ptr id j (o+m.toNat)) [] h:=by
 obtain⟨O,hO,o1,o2,_⟩:=hs.hr id _ he
 exact dJ.pure hs (q:=0<=m/\m<(n:Int)) (a:=.ptr (ρ.getD id 0) (XO.len (.row ty T fz es)) j (o+m.toNat)) (by simp only[step,ha,ei,hO];rw[if_neg (by rw[o2];rintro⟨q1,q2⟩;exact hz q1 q2),if_pos ⟨trivial,trivial⟩]) hb ⟨_,he,rfl⟩
theorem a06{T:Ty}:∀{fs:List Ty} {x:Ty.bO fs} {xs:List T.den},TI T fs x=some xs->Ty.iW fs x=xs.flatMap λy=>(Ty.enc T y).cells:=by
 intro fs
 induction fs with
 |nil=>intro x xs h;cases h;rfl
 |cons t ts ih =>
  intro x xs h
  simp only[TI]at h
  split at h
  .rename_i a l ha hl
   cases h
   obtain⟨e,rfl⟩:=lD ha
   subst e
   simp only[Ty.iW,dw,ih hl]
  .cases h
theorem a2F{α β:Type}(f:α->List β)(k:Nat)(hk:∀x,(f x).length=k):∀(xs:List α) (m:Nat) (hm:m<xs.length),((xs.flatMap f).drop (m*k)).take k=f xs[m]:=by
 intro xs
 induction xs with
 |nil=>intro m hm;simp at hm
 |cons x xs ih =>
  intro m hm
  rw[dw]
  cases m with
  |zero=>simp[hk x]
  |succ m =>
   have e:(f x++xs.flatMap f).drop ((m+1)*k)=(xs.flatMap f).drop (m*k):=by
    rw[Ae,iN (by rw[hk x,dF,gN];omega),fF,hk x]
    congr 1
    rw[dF,gN];omega
   rw[e]
   exact ih m (by simpa using hm)
theorem WS(bsz st n:Nat)(x i:Opd):lF Gl ρ h σ rd tt (.mQ bsz st n x i):=by
 intro hs hrd p v kl h' hx hp
 simp only[ig]at hx
 have hv:=hrd x
 have hi:=hrd i
 split at hx
 .rename_i id j o k m h1 h2
  rw[h1]at hv;rw[h2]at hi
  have ei:=mV hi
  obtain⟨ob,he,ha⟩:=hv
  rw[he]at hx
  split at hx
  .rename_i ty T fz es hq
   cases hq
   split at hx
   .rename_i hz
    simp only[aB]at hz
    have h0:=beq_eq hz.1
    subst h0
    cases hx
    exact Y2 hs he ha ei (beq_eq hz.2) (vP hp)
   .rename_i hz
    split at hx
    .rename_i h11
     simp only[aB]at h11
     have e1:=beq_eq h11.1
     have e2:=beq_eq h11.2
     subst e1 e2
     cases hx
     exact U7 hs he ha ei (λq1 q2=>hz (by rw[q1,q2];rfl)) (vP hp)
    .cases hx
  .cases hx
 .rename_i T ts y o k m h1 h2
  rw[h1]at hv;rw[h2]at hi
  have ei:=mV hi
  split at hx
  case h_2=>cases hx
  rename_i xs hxs
  split at hx
  case isFalse=>cases hx
  rename_i hz
  simp only[aB]at hz
  obtain⟨⟨⟨z1,z2⟩,z3⟩,z4⟩:=hz
  have z1:=beq_eq z1
  have z2:=beq_eq z2
  have z3:=beq_eq z3
  have z4:=beq_eq z4
  subst z1;subst z3
  cases hx
  have hb:=vP hp
  obtain⟨cs,ha,hc⟩:=hv
  rw[ku]at hc
  have hm:m.toNat<xs.length:=by omega
  have e1:atI xs m T.dflt=xs[m.toNat]:=by
   show xs.getD m.toNat _=_
   simp[List.getD,ah hm]
  refine dJ.pure hs (by simp only[step,ha,ei]<;>rfl) hb ⟨_,rfl,?_⟩
  rw[ku,e1]
  have hq:=(hc.drop (m.toNat*T.size)).take T.size
  have e2:(Ty.enc (.tup (T::ts)) y).cells=xs.flatMap λx=>(Ty.enc T x).cells:=a06 hxs
  rw[e2,a2F (λx=>(Ty.enc T x).cells) T.size (λx=>ji T x) xs m.toNat hm]at hq
  rw[gN,<- z2]
  exact hq
 .cases hx
theorem a5k(ty:Nat)(xs:List Opd):lF Gl ρ h σ rd tt (.bsc ty xs):=by
 intro hs hrd p v kl h' hx hp
 simp only[ig]at hx
 split at hx
 case h_2=>cases hx
 rename_i T hT
 split at hx
 case isFalse=>cases hx
 rename_i hcond
 simp only[aB,iT]at hcond
 obtain⟨⟨hc1,hi⟩,hc2⟩:=hcond
 split at hx
 case h_2=>cases hx
 rename_i ys hys
 cases hx
 have hm:=Ef (Gl:=Gl) (σ:=σ) (xs:=xs) hrd
 obtain⟨k1,k2,k3⟩:=KP (H:=σ.h) hys hm
 obtain⟨u2,u3⟩:=ug (ty:=ty) hs (beq_eq hc1) k2
 have hall:(xs.map (σ.val Gl)).all sc1=true:=aD.2 λa ha=>by
  obtain⟨i,hj⟩:=dP.1 ha
  obtain⟨x,hx,hv⟩:=hm.mZ hj
  have hsx:=aD.1 hc2 x (bP hx)
  cases x with
  |d T y=>cases T<;>first|(cases hsx;done)|(rw[show a=_ from Wp.dK hv];rfl)
  |_=>cases hsx
 rw[bA]at u3
 exact⟨True,_,_,_,[],by simp only[step,hall,if_true,hi,xS]<;>rfl,trivial,u2,VT.of1 u3,by simp⟩
theorem Dq(i:I):lF Gl ρ h σ rd tt i:=by
 cases i with
 |mov x=>exact a5g x
 |pick c a b=>exact a1e c a b
 |bin op x y=>exact a5m op x y
 |aeq n fs x y=>exact a5p n fs x y
 |un op x=>exact a9w op x
 |conv k x=>exact a1i k x
 |ext i x=>exact a5j i x
 |fO o x=>exact WM o x
 |rA s x i=>exact WK s x i
 |load s g x=>exact a1h s g x
 |store s x y=>exact WI s x y
 |slice s x lo hi=>exact WJ s x lo hi
 |yg x lo hi=>exact TR x lo hi
 |len x=>exact a5h x
 |AQ x=>exact a1d x
 |nck x=>exact a5f x
 |idx x i=>exact a5i x i
 |app t s b x y=>exact a5o t s b x y
 |apps t b x y=>exact a1j t b x y
 |b2s x=>exact a5n x
 |lI t s xs=>exact TS t s xs
 |Aq t s xs=>exact WQ t s xs
 |build z ps=>exact WO z ps
 |box t s x=>exact a5l t s x
 |alloc t z=>exact WR t z
 |mk t s b z n=>exact a9x t s b z n
 |bsc t xs=>exact a5k t xs
 |mQ b s n x i=>exact WS b s n x i
 |min2 x y=>exact a1f x y
 |max2 x y=>exact a1g x y
 |call f as=>intro hs hrd p v kl h' hx hp;cases hx
end
abbrev Foc:=List (Option Nat)
def FLe(a b:Foc):Prop:=a.length=b.length/\∀(j id:Nat),a[j]?=some (some id)->b[j]?=some (some id)
theorem FLe.refl(a:Foc):FLe a a:=⟨rfl,λ_ _ h=>h⟩
theorem FLe.trans{a b c:Foc}(h:FLe a b)(k:FLe b c):FLe a c:=⟨h.1.trans k.1,λj id q=>k.2 j id (h.2 j id q)⟩
theorem BM{foc gZ:Foc}{j id:Nat}(h:asg foc j id=some gZ):FLe foc gZ/\gZ[j]?=some (some id):=by
 unfold asg at h
 split at h
 .rename_i hj
  cases h
  have hlt:j<foc.length:=(aj.1 hj).1
  refine⟨⟨by simp,λk id' q=>?_⟩,by rw[aK hlt]⟩
  by_cases hk:j=k
  .subst hk;rw[hj]at q;cases q
  .rw[aC hk];exact q
 .rename_i id' hj
  split at h
  .rename_i hb
   cases h
   have:=beq_eq hb
   subst this
   exact⟨FLe.refl _,hj⟩
  .cases h
 .cases h
inductive CR (foc:Foc):XV->XV->Prop
 |any (v:XV):CR foc v .any
 |d (v:XV) (T:Ty) (x:T.den) (h:toD [] T v=some x):CR foc v (.d T x)
 |row (id j:Nat) (h:foc[j]?=some (some id)):CR foc (.row id) (.row j)
 |ptr (id j i o:Nat) (h:foc[j]?=some (some id)):CR foc (.ptr id i o) (.ptr j i o)
 |nil:CR foc (.k (.slice none 0 0)) (.k (.slice none 0 0))
 |raw (l:List AV):CR foc (.raw l) (.raw l)
 |me (id j:Nat) (h:foc[j]?=some (some id)):CR foc (.me id) (.me j)
 |mep (id j:Nat) (h:foc[j]?=some (some id)):CR foc (.ptr id 0 0) (.me j)
 |men (j:Nat):CR foc (.k (.pointer none)) (.me j)
 |sub (id j o n:Nat) (h:foc[j]?=some (some id)):CR foc (.sub id o n) (.sub j o n)
theorem CR.mono{foc gZ:Foc}{v c:XV}(h:CR foc v c)(hl:FLe foc gZ):CR gZ v c:=by
 cases h with
 |any=>exact .any _
 |d _ T x h=>exact .d _ T x h
 |row id j h=>exact .row id j (hl.2 _ _ h)
 |ptr id j i o h=>exact .ptr id j i o (hl.2 _ _ h)
 |nil=>exact .nil
 |raw l=>exact .raw l
 |me id j h=>exact .me id j (hl.2 _ _ h)
 |mep id j h=>exact .mep id j (hl.2 _ _ h)
 |men j=>exact .men j
 |sub id j o n h=>exact .sub id j o n (hl.2 _ _ h)
theorem Ld{v:XV}(h:BG v=true):v=.k (.slice none 0 0):=by
 unfold BG at h
 split at h
 .rfl
 .cases h
theorem a6m{v:Value}(h:a1U v=true):v=.pointer none:=by
 unfold a1U at h
 split at h
 .rfl
 .cases h
theorem Yw{v:XV}(h:Ba v=some none):v=.k (.pointer none):=by
 cases v with
 |k v =>
  simp only[Ba]at h
  split at h
  .rename_i q;rw[a6m q]
  .cases h
 |ptr id i o=>simp only[Ba]at h;split at h<;>cases h
 |_=>simp[Ba]at h
theorem Yv{foc:Foc}{v:XV}{id j:Nat}(h:Ba v=some (some id))(hj:foc[j]?=some (some id)):CR foc v (.me j):=by
 cases v with
 |k v=>simp only[Ba]at h;split at h<;>cases h
 |ptr id' i o =>
  simp only[Ba]at h
  split at h
  .rename_i hb
   simp only[aB]at hb
   have e1:=beq_eq hb.1
   have e2:=beq_eq hb.2
   subst e1 e2
   cases h
   exact .mep _ _ hj
  .cases h
 |me id'=>simp only[Ba]at h;cases h;exact .me _ _ hj
 |_=>simp[Ba]at h
theorem RS:∀(cs:List SC) (r:List Ty) (vs:List XV) (foc gZ:Foc) (g:Ty.bO r->Ty.bO (SC.tys cs r)),extC cs r vs foc=some (gZ,g)->FLe foc gZ/\∀y,(jg cs r (g y)).2=y/\bn (CR gZ) vs (jg cs r (g y)).1:=by
 intro cs
 induction cs with
 |nil =>
  intro r vs foc gZ g h
  cases vs with
  |nil=>simp only[extC]at h;cases h;exact⟨FLe.refl _,λy=>⟨rfl,.nil⟩⟩
  |cons=>simp[extC]at h
 |cons c cs ih =>
  intro r vs foc gZ g h
  cases c with
  |d T =>
   simp only[extC]at h
   cases vs with
   |nil=>cases h
   |cons v vs =>
    simp only at h
    split at h
    .rename_i x lW g1 hx h1
     cases h
     obtain⟨a,b⟩:=ih r vs foc gZ g1 h1
     exact⟨a,λy=>⟨(b y).1,.cons (.d v T x hx) (b y).2⟩⟩
    .cases h
  |row j =>
   simp only[extC]at h
   split at h
   .rename_i id vs
    split at h
    .rename_i lW h1
     obtain⟨a1,a2⟩:=BM h1
     obtain⟨a,b⟩:=ih r vs lW gZ g h
     exact⟨a1.trans a,λy=>⟨(b y).1,.cons (.row id j (a.2 _ _ a2)) (b y).2⟩⟩
    .cases h
   .cases h
  |ptr j i o =>
   simp only[extC]at h
   split at h
   .rename_i id i' o' vs
    split at h
    .rename_i hb
     simp only[aB]at hb
     have e1:=beq_eq hb.1
     have e2:=beq_eq hb.2
     subst e1 e2
     split at h
     .rename_i lW h1
      obtain⟨a1,a2⟩:=BM h1
      obtain⟨a,b⟩:=ih r vs lW gZ g h
      exact⟨a1.trans a,λy=>⟨(b y).1,.cons (.ptr id j i o (a.2 _ _ a2)) (b y).2⟩⟩
     .cases h
    .cases h
   .cases h
  |me j =>
   simp only[extC]at h
   cases vs with
   |nil=>cases h
   |cons v vs =>
    simp only at h
    split at h
    .rename_i id hm
     split at h
     .rename_i lW h1
      obtain⟨a1,a2⟩:=BM h1
      obtain⟨a,b⟩:=ih r vs lW gZ g h
      exact⟨a1.trans a,λy=>⟨(b y).1,.cons (Yv hm (a.2 _ _ a2)) (b y).2⟩⟩
     .cases h
    .rename_i hm
     obtain⟨a,b⟩:=ih r vs foc gZ g h
     have:=Yw hm
     subst this
     exact⟨a,λy=>⟨(b y).1,.cons (.men j) (b y).2⟩⟩
    .cases h
  |nil =>
   simp only[extC]at h
   cases vs with
   |nil=>cases h
   |cons v vs =>
    simp only at h
    by_cases hv:BG v=true
    .have h':extC cs r vs foc=some (gZ,g):=by simp only[hv,if_true]at h;exact h
     have:=Ld hv
     subst this
     obtain⟨a,b⟩:=ih r vs foc gZ g h'
     exact⟨a,λy=>⟨(b y).1,.cons .nil (b y).2⟩⟩
    .simp only[hv,if_false]at h
     cases h
  |any =>
   simp only[extC]at h
   cases vs with
   |nil=>cases h
   |cons v vs =>
    simp only at h
    obtain⟨a,b⟩:=ih r vs foc gZ g h
    exact⟨a,λy=>⟨(b y).1,.cons (.any v) (b y).2⟩⟩
  |raw =>
   simp only[extC]at h
   split at h
   .rename_i l vs
    split at h
    .rename_i lW g1 h1
     cases h
     obtain⟨a,b⟩:=ih r vs foc gZ g1 h1
     exact⟨a,λy=>⟨(b y).1,.cons (.raw l) (b y).2⟩⟩
    .cases h
   .cases h
def OR'(foc:Foc):XO->XO->Prop
 |.row ty T fz es,o2=>o2=.row ty T fz es
 |.box ty vs,o2=>∃cs,o2=.box ty cs/\bn (CR foc) vs cs
theorem OR'.mono{foc gZ:Foc}{o o2:XO}(h:OR' foc o o2)(hl:FLe foc gZ):OR' gZ o o2:=by
 cases o with
 |row=>exact h
 |box ty vs=>obtain⟨cs,e,hc⟩:=h;exact⟨cs,e,hc.mono λx y q=>q.mono hl⟩
theorem Kj(h:List XO):∀(os:List SO) (j:Nat) (foc gZ:Foc) (y:Ty.bO (SO.tys os)),GK h os j foc=some (gZ,y)->FLe foc gZ/\(qB os y).length=os.length/\∀(i:Nat) (o2:XO),(qB os y)[i]?=some o2->∃id o,gZ[j+i]?=some (some id)/\h[id]?=some o/\OR' gZ o o2:=by
 intro os
 induction os with
 |nil=>intro j foc gZ y hx;simp only[GK]at hx;cases hx;exact⟨FLe.refl _,rfl,λi o2 q=>by simp[qB]at q⟩
 |cons so os ih =>
  intro j foc gZ y hx
  cases so with
  |row ty T fz =>
   simp only[GK]at hx
   split at hx
   case h_2=>cases hx
   rename_i id hid
   split at hx
   case h_2=>cases hx
   rename_i ty' T' fz' es ho
   split at hx
   case isFalse=>cases hx
   rename_i hb
   simp only[aB,rE]at hb
   have e1:=beq_eq hb.1
   have e2:=hb.2
   subst e1 e2
   split at hx
   case h_2=>cases hx
   rename_i es' lW y1 hc h1
   cases hx
   obtain⟨q,rfl⟩:=lD hc
   cases q
   obtain⟨a,b,c⟩:=ih (j+1) foc gZ y1 h1
   refine⟨a,by simp only[qB,aL];rw[b],λi o2 q=>?_⟩
   cases i with
   |zero =>
    have q:some (XO.row ty T fz es)=some o2:=q
    cases q
    exact⟨id,_,a.2 _ _ hid,ho,rfl⟩
   |succ i =>
    have q:(qB os y1)[i]?=some o2:=q
    have:=c i o2 q
    rw[show j+1+i=j+(i+1) by omega]at this
    exact this
  |box ty cs =>
   simp only[GK]at hx
   split at hx
   case h_2=>cases hx
   rename_i id hid
   split at hx
   case h_2=>cases hx
   rename_i ty' vs ho
   split at hx
   case isFalse=>cases hx
   rename_i hb
   have e1:=beq_eq hb
   subst e1
   split at hx
   case h_2=>cases hx
   rename_i lW g hc
   split at hx
   case h_2=>cases hx
   rename_i l5 y1 h1
   cases hx
   obtain⟨a1,a2⟩:=RS cs _ vs foc lW g hc
   obtain⟨a,b,c⟩:=ih (j+1) lW gZ y1 h1
   obtain⟨g1,g2⟩:=a2 y1
   refine⟨a1.trans a,?_,λi o2 q=>?_⟩
   .show(XO.box ty _::qB os (jg cs (SO.tys os) (g y1)).2).length=_
    rw[g1,aL,aL,b]
   .cases i with
    |zero =>
     have q:some (XO.box ty (jg cs (SO.tys os) (g y1)).1)=some o2:=q
     cases q
     exact⟨id,_,(a1.trans a).2 _ _ hid,ho,_,rfl,g2.mono λx y q=>q.mono a⟩
    |succ i =>
     have q:(qB os (jg cs (SO.tys os) (g y1)).2)[i]?=some o2:=q
     rw[g1]at q
     have:=c i o2 q
     rw[show j+1+i=j+(i+1) by omega]at this
     exact this
theorem Df:∀{foc:Foc} {l:List Nat},BR foc=some l->foc.length=l.length/\∀(j id:Nat),foc[j]?=some (some id)↔l[j]?=some id:=by
 intro foc
 induction foc with
 |nil=>intro l h;cases h;exact⟨rfl,by simp⟩
 |cons a foc ih =>
  intro l h
  cases a with
  |none=>simp[BR]at h
  |some a =>
   simp only[BR]at h
   split at h
   .rename_i m hm
    cases h
    obtain⟨h1,h2⟩:=ih hm
    refine⟨by simp[h1],λj id=>?_⟩
    cases j with
    |zero=>simp
    |succ j=>simpa using h2 j id
   .cases h
theorem KY:∀{l:List Nat},nodupB l=true->l.Nodup:=by
 intro l
 induction l with
 |nil=>intro _;exact uq
 |cons a l ih =>
  intro h
  simp only[nodupB,aB,iT,qm]at h
  rw[kM]
  refine⟨λhm=>h.1 a hm (by simp),ih h.2⟩
def CRS(foc:Foc)(v c:XV):Prop:=CR foc v c\/∃vs cs,v=.agg vs/\c=.agg cs/\bn (CR foc) vs cs
theorem CRS.mono{foc gZ:Foc}{v c:XV}(h:CRS foc v c)(hl:FLe foc gZ):CRS gZ v c:=by
 rcases h with h|⟨vs,cs,e1,e2,h⟩
 .exact .inl (h.mono hl)
 .exact .inr ⟨vs,cs,e1,e2,h.mono λx y q=>q.mono hl⟩
theorem Rk{t b:List XV}{foc:Foc}{s:Nat}{c:XV}(hb:∀(i:Nat) (c:XV),b[i]?=some c->CRS foc (t.getD i .any) c)(hc:CRS foc (t.getD s .any) c):∀(i:Nat) (c':XV),(b.set s c)[i]?=some c'->CRS foc (t.getD i .any) c':=by
 intro i c' q
 rw[dh]at q
 split at q
 .rename_i hi
  split at q
  .cases q;subst hi;exact hc
  .cases q
 .exact hb i c' q
theorem RQ(t:List XV)(foc:Foc):∀(vs:List (Nat×Ty)) (r:List Ty) (y:Ty.bO r) (x:Ty.bO (zD vs r)) (b:List XV),Qf t vs r y=some x->(∀(i:Nat) (c:XV),b[i]?=some c->CRS foc (t.getD i .any) c)->(xO vs r x b).2=y/\(xO vs r x b).1.length=b.length/\∀(i:Nat) (c:XV),(xO vs r x b).1[i]?=some c->CRS foc (t.getD i .any) c:=by
 intro vs
 induction vs with
 |nil=>intro r y x b h hb;simp only[Qf]at h;cases h;exact⟨rfl,rfl,hb⟩
 |cons p vs ih =>
  intro r y x b h hb
  obtain⟨s,T⟩:=p
  simp only[Qf]at h
  split at h
  .rename_i x1 z h1 h2
   cases h
   obtain⟨a,c,e⟩:=ih r y z (b.set s (.d T x1)) h2 (λi c q=>by
    rw[dh]at q
    split at q
    .rename_i hi
     split at q
     .cases q;subst hi;exact .inl (.d _ T x1 h1)
     .cases q
    .exact hb i c q)
   exact⟨a,by rw[pE]at c;exact c,e⟩
  .cases h
theorem Ki(t:List XV):∀(refs:List (Nat×SR)) (r:List Ty) (foc gZ:Foc) (g:Ty.bO r->Ty.bO (iE refs r)),uL t refs r foc=some (gZ,g)->FLe foc gZ/\∀(y:Ty.bO r) (l5:Foc) (b:List XV),FLe gZ l5->(∀(i:Nat) (c:XV),b[i]?=some c->CRS l5 (t.getD i .any) c)->
  (nK refs r (g y) b).2=y/\(nK refs r (g y) b).1.length=b.length/\∀(i:Nat) (c:XV),(nK refs r (g y) b).1[i]?=some c->CRS l5 (t.getD i .any) c:=by
 intro refs
 induction refs with
 |nil=>intro r foc gZ g h;simp only[uL]at h;cases h;exact⟨FLe.refl _,λy l5 b _ hb=>⟨rfl,rfl,hb⟩⟩
 |cons p refs ih =>
  intro r foc gZ g h
  obtain⟨s,sr⟩:=p
  have set1:∀(c:XV) (lW:Foc),FLe foc lW->(∀l5,FLe lW l5->CRS l5 (t.getD s .any) c)->(∀(g1:Ty.bO r->Ty.bO (iE refs r)),uL t refs r lW=some (gZ,g1)->FLe foc gZ/\∀(y:Ty.bO r) (l5:Foc) (b:List XV),FLe gZ l5->(∀(i:Nat) (c:XV),b[i]?=some c->CRS l5 (t.getD i .any) c)->(nK refs r (g1 y) (b.set s c)).2=y/\(nK refs r (g1 y) (b.set s c)).1.length=b.length/\∀(i:Nat) (c':XV),(nK refs r (g1 y) (b.set s c)).1[i]?=some c'->CRS l5 (t.getD i .any) c'):=by
   intro c lW hl hc g1 h1
   obtain⟨a1,a2⟩:=ih r lW gZ g1 h1
   refine⟨hl.trans a1,λy l5 b hf hb=>?_⟩
   obtain⟨b1,b2,b3⟩:=a2 y l5 (b.set s c) hf (Rk hb (hc l5 (a1.trans hf)))
   exact⟨b1,by rw[b2];simp,b3⟩
  cases sr with
  |row j =>
   simp only[uL]at h
   split at h
   .rename_i id hid
    split at h
    .rename_i lW h1
     obtain⟨a1,a2⟩:=BM h1
     exact set1 (.row j) lW a1 (λl5 hf=>by rw[hid];exact .inl (.row id j (hf.2 _ _ a2))) g h
    .cases h
   .cases h
  |sub j o n =>
   simp only[uL]at h
   split at h
   .rename_i id o' n' hid
    split at h
    .rename_i hb
     simp only[aB]at hb
     have e1:=beq_eq hb.1
     have e2:=beq_eq hb.2
     subst e1 e2
     split at h
     .rename_i lW h1
      obtain⟨a1,a2⟩:=BM h1
      exact set1 (.sub j o n) lW a1 (λl5 hf=>by rw[hid];exact .inl (.sub id j o n (hf.2 _ _ a2))) g h
     .cases h
    .cases h
   .cases h
  |ptr j i o =>
   simp only[uL]at h
   split at h
   .rename_i id i' o' hid
    split at h
    .rename_i hb
     simp only[aB]at hb
     have e1:=beq_eq hb.1
     have e2:=beq_eq hb.2
     subst e1 e2
     split at h
     .rename_i lW h1
      obtain⟨a1,a2⟩:=BM h1
      exact set1 (.ptr j i o) lW a1 (λl5 hf=>by rw[hid];exact .inl (.ptr id j i o (hf.2 _ _ a2))) g h
     .cases h
    .cases h
   .cases h
  |nil =>
   by_cases hn:BG (t.getD s .any)=true
   .have h':uL t refs r foc=some (gZ,g):=by simp only[uL,hn,if_true]at h;exact h
    exact set1 (.k (.slice none 0 0)) foc (FLe.refl _) (λl5 hf=>by rw[Ld hn];exact .inl .nil) g h'
   .simp only[uL,hn,if_false]at h
    cases h
  |agg cs =>
   simp only[uL]at h
   split at h
   .rename_i vs hid
    split at h
    .rename_i lW g1 h1
     split at h
     .rename_i a2E g2 h2
      cases h
      obtain⟨c1,c2⟩:=RS cs _ vs foc lW g1 h1
      obtain⟨a1,a2⟩:=ih r lW gZ g2 h2
      refine⟨c1.trans a1,λy l5 b hf hb=>?_⟩
      obtain⟨d1,d2⟩:=c2 (g2 y)
      obtain⟨b1,b2,b3⟩:=a2 y l5 (b.set s (.agg (jg cs (iE refs r) (g1 (g2 y))).1)) hf (Rk hb (by rw[hid];exact .inr ⟨_,_,rfl,rfl,d2.mono λx y q=>q.mono (a1.trans hf)⟩))
      show(nK refs r (jg cs (iE refs r) (g1 (g2 y))).2 (b.set s (.agg (jg cs (iE refs r) (g1 (g2 y))).1))).2=y/\(nK refs r (jg cs (iE refs r) (g1 (g2 y))).2 (b.set s (.agg (jg cs (iE refs r) (g1 (g2 y))).1))).1.length=b.length/\∀(i:Nat) (c:XV),(nK refs r (jg cs (iE refs r) (g1 (g2 y))).2 (b.set s (.agg (jg cs (iE refs r) (g1 (g2 y))).1))).1[i]?=some c->CRS l5 (t.getD i .any) c
      rw[d1]
      exact⟨b1,by rw[b2];simp,b3⟩
     .cases h
    .cases h
   .cases h
theorem Eo(nf:Nat):∀(n j:Nat),(MO nf j n).length=n:=by
 intro n
 induction n with
 |zero=>intro j;rfl
 |succ n ih=>intro j;simp only[MO,aL,ih]
theorem BH{nf:Nat}{ρ:List Nat}{X:XS}{ts:List AV}{H:List aH}{sh:Sh}{foc:List Nat}{x:Ty.bO sh.tys}(ht:bn (VT ρ X.h) X.t ts)(hs:HS ρ X.h H)(hn:X.t.length=sh.n)(hx:ext nf sh X=some (foc,x)) :
  Sim (foc.map λid=>ρ.getD id 0) (emb sh x) ⟨ts,H⟩/\(∀id∈foc,id<X.h.length)/\foc.length=sh.objs.length/\foc.Nodup:=by
 unfold ext at hx
 split at hx
 case h_2=>cases hx
 rename_i lW g h1
 split at hx
 case h_2=>cases hx
 rename_i l5 y h2
 split at hx
 case h_2=>cases hx
 rename_i a2E x3 h3 h4
 split at hx
 case isFalse=>cases hx
 rename_i hnd
 cases hx
 obtain⟨r1,r2⟩:=Ki X.t _ _ _ _ _ h1
 obtain⟨o1,o2,o3⟩:=Kj X.h _ _ _ _ _ h2
 obtain⟨s1,s2⟩:=Df h3
 obtain⟨v1,v2,v3⟩:=RQ X.t l5 sh.vars _ (g y) x (List.replicate sh.n .any) h4 (λi c q=>by
  have:=gI (bP q);subst this;exact .inl (.any _))
 obtain⟨w1,w2,w3⟩:=r2 y l5 (xO sh.vars (iE sh.refs (SO.tys sh.objs)) x (List.replicate sh.n .any)).1 o1 v3
 have hes:zY sh x=nK sh.refs (SO.tys sh.objs) (g y) (xO sh.vars (iE sh.refs (SO.tys sh.objs)) x (List.replicate sh.n .any)).1:=by
  unfold zY;rw[v1]
 have hfl:foc.length=sh.objs.length:=by rw[<- s1,<- o1.1,<- r1.1,Eo]
 have hh2:(emb sh x).h=qB sh.objs y:=by show qB sh.objs (zY sh x).2=_;rw[hes,w1]
 have cor:∀(j:Nat) (ob:XO),(emb sh x).h[j]?=some ob->∃id o,foc[j]?=some id/\X.h[id]?=some o/\OR' l5 o ob:=λj ob q=>by
  rw[hh2]at q
  obtain⟨id,o,e1,e2,e3⟩:=o3 j ob q
  rw[dD]at e1
  exact⟨id,o,(s2 j id).1 e1,e2,e3⟩
 have hlen:(emb sh x).h.length=foc.length:=by rw[hh2,o2,hfl]
 have U2:∀(j id:Nat),foc[j]?=some id->(foc.map λid=>ρ.getD id 0).getD j 0=ρ.getD id 0:=λj id q=>by
  simp[List.getD,aT,q]
 have a1v:∀ (id j i o:Nat) (a:AV),l5[j]?=some (some id)->(∃ ob,X.h[id]?=some ob/\a=.ptr (ρ.getD id 0) ob.len i o)->∃ ob,(emb sh x).h[j]?=some ob/\a=.ptr ((foc.map fun id=>ρ.getD id 0).getD j 0) ob.len i o:=by
   intro id j i o a hj hv
   obtain⟨ob,he,rfl⟩:=hv
   have hj':=(s2 j id).1 hj
   have hjl:j<(emb sh x).h.length:=by rw[hlen];exact(aj.1 hj').1
   obtain⟨id',o',e1,e2,e3⟩:=cor j _ (ah hjl)
   rw[hj']at e1
   cases e1
   rw[he]at e2
   cases e2
   refine⟨_,ah hjl,?_⟩
   rw[U2 j id hj']
   cases ob with
   |row ty T fz es=>have e3:(emb sh x).h[j]=.row ty T fz es:=e3;rw[e3]
   |box ty vs=>obtain⟨cs,e3,_⟩:=e3;rw[e3];rfl
 have yI:∀(v c:XV) (a:AV),CR l5 v c->V1 ρ X.h v a->V1 (foc.map λid=>ρ.getD id 0) (emb sh x).h c a:=by
  intro v c a hc hv
  cases hc with
  |any=>trivial
  |d _ T z hz=>exact wV hz (VA.of1 hv)
  |nil=>exact hv
  |raw l=>exact hv
  |row id j hj =>
   obtain⟨ty,T,fz,es,he,rfl⟩:=hv
   have hj':=(s2 j id).1 hj
   have hjl:j<(emb sh x).h.length:=by rw[hlen];exact(aj.1 hj').1
   obtain⟨id',o,e1,e2,e3⟩:=cor j _ (ah hjl)
   rw[hj']at e1
   cases e1
   rw[he]at e2
   cases e2
   have e3:(emb sh x).h[j]=.row ty T fz es:=e3
   exact⟨ty,T,fz,es,by rw[ah hjl,e3],by rw[U2 j id hj']⟩
  |sub id j o n hj =>
   obtain⟨ty,T,fz,es,he,rfl⟩:=hv
   have hj':=(s2 j id).1 hj
   have hjl:j<(emb sh x).h.length:=by rw[hlen];exact(aj.1 hj').1
   obtain⟨id',o',e1,e2,e3⟩:=cor j _ (ah hjl)
   rw[hj']at e1
   cases e1
   rw[he]at e2
   cases e2
   have e3:(emb sh x).h[j]=.row ty T fz es:=e3
   exact⟨ty,T,fz,es,by rw[ah hjl,e3],by rw[U2 j id hj']⟩
  |ptr id j i o hj=>exact a1v id j i o a hj hv
  |me id j hj =>
   rcases hv with hv|hv
   .exact .inl hv
   .exact .inr (a1v id j 0 0 a hj hv)
  |mep id j hj=>exact .inr (a1v id j 0 0 a hj hv)
  |men j=>exact .inl hv
 refine⟨⟨?_,?_⟩,?_,hfl,KY hnd⟩
 .refine⟨?_,λi c a p q=>?_⟩
  .show(zY sh x).1.length=_
   rw[hes,w2,v2,qO,<- hn]
   exact ht.1
  .have hc:=w3 i c (by rw[<- hes];exact p)
   have hil:i<X.t.length:=by rw[ht.1];exact(aj.1 q).1
   have hv:=ht.2 i X.t[i] a (ah hil) q
   have hg:X.t.getD i .any=X.t[i]:=by simp[List.getD,ah hil]
   rw[hg]at hc
   generalize X.t[i]=v at hc hv
   rcases hc with hc|⟨vs,cs,rfl,rfl,hcs⟩
   case inr =>
    obtain⟨as,rfl,hva⟩:=hv
    refine⟨as,rfl,by rw[<- hcs.1,hva.1],λj c' a' p' q'=>?_⟩
    obtain⟨v',hv',hcr⟩:=hcs.mZ p'
    exact yI v' c' a' hcr (hva.2 j v' a' hv' q')
   cases hc with
   |any=>trivial
   |d _ T z hz =>
    refine Dx (wV hz (VT.wm hv λvs q=>?_))
    rw[q]at hz
    cases T<;>simp[toD,lst]at hz
   |row id j hj=>exact VT.of1 (yI _ _ a (.row id j hj) hv)
   |ptr id j i' o hj=>exact VT.of1 (yI _ _ a (.ptr id j i' o hj) hv)
   |nil=>exact hv
   |raw l=>exact hv
   |me id j hj=>exact VT.of1 (yI _ _ a (.me id j hj) hv)
   |mep id j hj=>exact VT.of1 (yI _ _ a (.mep id j hj) hv)
   |men j=>exact VT.of1 (yI _ _ a (.men j) hv)
   |sub id j o n hj=>exact VT.of1 (yI _ _ a (.sub id j o n hj) hv)
 .refine⟨by rw[bA,hlen],?_,λj ob q=>?_⟩
  .have:foc.Nodup:=KY hnd
   rw[List.nodup_iff_pairwise_ne,List.pairwise_map]
   refine List.Pairwise.imp_of_mem (fun{a b} ha hb hab e=>?_) (List.nodup_iff_pairwise_ne.1 this)
   have lt:∀a∈foc,a<X.h.length:=λa ha=>by
    obtain⟨j,hj⟩:=dP.1 ha
    have hjl:j<(emb sh x).h.length:=by rw[hlen];exact(aj.1 hj).1
    obtain⟨id',o',e1,e2,e3⟩:=cor j _ (ah hjl)
    rw[hj]at e1;cases e1
    exact(aj.1 e2).1
   exact hab (hs.inj (lt a ha) (lt b hb) e)
  .obtain⟨id,o,e1,e2,e3⟩:=cor j ob q
   obtain⟨O,hO,hR⟩:=hs.hr id o e2
   refine⟨O,by rw[U2 j id e1];exact hO,?_⟩
   cases o with
   |row ty T fz es=>have e3:ob=.row ty T fz es:=e3;subst e3;exact hR
   |box ty vs =>
    obtain⟨cs,rfl,hc⟩:=e3
    obtain⟨q1,q2,q3,q4,e,q5,q6⟩:=hR
    refine⟨q1,by rw[q2,hc.1],q3,q4,e,q5,by rw[<- hc.1];exact q6.1,λi c a p q=>?_⟩
    obtain⟨v,hv,hcr⟩:=hc.mZ p
    exact yI v c a hcr (q6.2 i v a hv q)
 .intro id hid
  obtain⟨j,hj⟩:=dP.1 hid
  have hjl:j<(emb sh x).h.length:=by rw[hlen];exact(aj.1 hj).1
  obtain⟨id',o',e1,e2,e3⟩:=cor j _ (ah hjl)
  rw[hj]at e1;cases e1
  exact(aj.1 e2).1
def kK:XO->Nat
 |.row ..=>0
 |.box ..=>1
def kS:SO->Nat
 |.row ..=>0
 |.box ..=>1
theorem yx:∀(os:List SO) (y:Ty.bO (SO.tys os)),(qB os y).map kK=os.map kS:=by
 intro os
 induction os with
 |nil=>intro y;rfl
 |cons so os ih =>
  intro y
  cases so with
  |row ty T fz=>simp only[qB,bg,kK,kS,ih]
  |box ty cs=>simp only[qB,bg,kK,kS,ih]
theorem a2I{nf:Nat}{X:XS}{sh:Sh}{foc:List Nat}{x:Ty.bO sh.tys}(hx:ext nf sh X=some (foc,x)):∀(j id:Nat) (o:XO),foc[j]?=some id->X.h[id]?=some o->(sh.objs.map kS)[j]?=some (kK o):=by
 unfold ext at hx
 split at hx
 case h_2=>cases hx
 rename_i lW g h1
 split at hx
 case h_2=>cases hx
 rename_i l5 y h2
 split at hx
 case h_2=>cases hx
 rename_i a2E x3 h3 h4
 split at hx
 case isFalse=>cases hx
 rename_i hnd
 cases hx
 obtain⟨r1,r2⟩:=Ki X.t _ _ _ _ _ h1
 obtain⟨o1,o2,o3⟩:=Kj X.h _ _ _ _ _ h2
 obtain⟨s1,s2⟩:=Df h3
 intro j id ob hj q
 have hfl:foc.length=sh.objs.length:=by rw[<- s1,<- o1.1,<- r1.1,Eo]
 have hjl:j<(qB sh.objs y).length:=by rw[o2,<- hfl];exact(aj.1 hj).1
 obtain⟨id',o,e1,e2,e3⟩:=o3 j _ (ah hjl)
 rw[dD]at e1
 have:=(s2 j id').1 e1
 rw[hj]at this
 cases this
 rw[q]at e2
 cases e2
 rw[<- yx sh.objs y,aT,ah hjl]
 show some (kK _)=some (kK ob)
 congr 1
 cases ob with
 |row ty T fz es=>have e3:(qB sh.objs y)[j]=.row ty T fz es:=e3;rw[e3]
 |box ty vs=>obtain⟨cs,e3,_⟩:=e3;rw[e3];rfl
theorem a6N{nf:Nat}{X:XS}{sh:Sh}{foc:List Nat}{x:Ty.bO sh.tys}(hx:ext nf sh X=some (foc,x)):∀(j id:Nat) (o:XO),foc[j]?=some id->X.h[id]?=some o->∀{ty:Nat} {T:Ty} {fz:Bool} {es:List T.den},(emb sh x).h[j]?=some (.row ty T fz es)->o=.row ty T fz es:=by
 unfold ext at hx
 split at hx
 case h_2=>cases hx
 rename_i lW g h1
 split at hx
 case h_2=>cases hx
 rename_i l5 y h2
 split at hx
 case h_2=>cases hx
 rename_i a2E x3 h3 h4
 split at hx
 case isFalse=>cases hx
 rename_i hnd
 cases hx
 obtain⟨r1,r2⟩:=Ki X.t _ _ _ _ _ h1
 obtain⟨o1,o2,o3⟩:=Kj X.h _ _ _ _ _ h2
 obtain⟨s1,s2⟩:=Df h3
 intro j id ob hj q ty T fz es hrow
 have hfl:foc.length=sh.objs.length:=by rw[<- s1,<- o1.1,<- r1.1,Eo]
 have hjl:j<(qB sh.objs y).length:=by rw[o2,<- hfl];exact(aj.1 hj).1
 obtain⟨v1,v2,v3⟩:=RQ X.t l5 sh.vars _ (g y) x (List.replicate sh.n .any) h4 (λi c q=>by
  have:=gI (bP q);subst this;exact .inl (.any _))
 obtain⟨w1,w2,w3⟩:=r2 y l5 (xO sh.vars (iE sh.refs (SO.tys sh.objs)) x (List.replicate sh.n .any)).1 o1 v3
 have hes:zY sh x=nK sh.refs (SO.tys sh.objs) (g y) (xO sh.vars (iE sh.refs (SO.tys sh.objs)) x (List.replicate sh.n .any)).1:=by
  unfold zY;rw[v1]
 have hh2:(emb sh x).h=qB sh.objs y:=by show qB sh.objs (zY sh x).2=_;rw[hes,w1]
 rw[hh2,ah hjl]at hrow
 have hrow:=aI hrow
 obtain⟨id',o,e1,e2,e3⟩:=o3 j _ (ah hjl)
 rw[dD]at e1
 have:=(s2 j id').1 e1
 rw[hj]at this
 cases this
 rw[q]at e2
 cases e2
 rw[hrow]at e3
 cases ob with
 |row ty' T' fz' es'=>have e3:XO.row ty T fz es=.row ty' T' fz' es':=e3;exact e3.symm
 |box ty vs=>obtain⟨cs,e3,_⟩:=e3;cases e3
def encs:(ps:List Ty)->Ty.bO ps->List AV
 |[],_=>[]
 |T::ps,x=>Ty.enc T x.1::encs ps x.2
def jX(l:List AV):AV:=match l with
 |[a]=>a
 |l=>.tup l
def POk(P:Program)(Gl:Nat->Option (List AV))(p:PI):Prop:=callable P p.f=true/\∀x y,p.run x=some y->Pure P Gl p.f (encs p.ps x) (jX (encs p.rs y))
structure Frm (H0:List aH) (ρ0 ρ:List Nat) (H:List aH):Prop where
 pre:∃l,ρ=ρ0++l/\∀x∈l,H0.length<=x
 ge:H0.length<=H.length
 fr:∀j,j<H0.length->j∉ρ0->H[j]?=H0[j]?
def HOk(P:Program)(Gl:Nat->Option (List AV))(p:HI):Prop:=callable P p.f=true/\∀x y,p.run x=some y->∀(H:List aH) (ρ:List Nat) (as:List AV),Sim ρ (emb p.ish x) ⟨as,H⟩->
 fJ P Gl p.f H as (λres H'=>∃ρ' rs,Sim ρ' (emb p.osh y) ⟨rs,H'⟩/\jX rs=res/\Frm H ρ ρ' H')
theorem Frm.refl(H:List aH)(ρ:List Nat):Frm H ρ ρ H:=⟨⟨[],by simp,by simp⟩,aS _,λ_ _ _=>rfl⟩
theorem Frm.upd{H0 H H':List aH}{ρ0 ρ ρ' kl tch:List Nat}{h h':List XO}(hf:Frm H0 ρ0 ρ H)(hρ:ρ.length=h.length)(hu:Upd ρ h H ρ' h' H' kl tch):Frm H0 ρ0 ρ' H':=by
 obtain⟨l,e1,q1⟩:=hf.pre
 obtain⟨n,e2,q2⟩:=hu.ap
 refine⟨⟨l++n,by rw[e2,e1,aZ],λx hx=>?_⟩,bF hf.ge hu.ge,λj hj hn=>?_⟩
 .rcases aG.1 hx with q|q
  .exact q1 x q
  .exact bF hf.ge (q2 x q)
 .rw[hu.fr j (ni hj hf.ge) (λid _ hid q=>?_),hf.fr j hj hn]
  have hmem:ρ.getD id 0∈ρ:=by
   have hl:id<ρ.length:=by rw[hρ];exact hid
   simp only[List.getD,ah hl,gF]
   exact jA _
  rw[q,e1]at hmem
  rcases aG.1 hmem with q'|q'
  .exact hn q'
  .have:=q1 j q';omega
section
variable{ρ:List Nat}{h:List XO}{H:List aH}
theorem Py:∀(rs:List Ty) (y:Ty.bO rs),bn (VA ρ h) (Fq rs y) (encs rs y):=by
 intro rs
 induction rs with
 |nil=>intro y;exact .nil
 |cons T rs ih=>intro y;exact .cons (Wp.refl _) (ih y.2)
theorem JC(rs:List Ty)(y:Ty.bO rs):VT ρ h (Gi rs y) (jX (encs rs y)):=by
 have hc:=Py (ρ:=ρ) (h:=h) rs y
 unfold Gi jX
 generalize Fq rs y=l at hc
 generalize encs rs y=m at hc
 match l,m,hc with
 |[],m,hc=>have:=hc.gT;subst this;exact⟨[],rfl,.nil⟩
 |[v],m,hc =>
  obtain⟨a,r,rfl,hv,ht⟩:=hc.cZ
  have:=ht.gT
  subst this
  exact VT.ofA hv
 |v::w::l,m,hc =>
  obtain⟨a,r,rfl,hv,ht⟩:=hc.cZ
  obtain⟨b,r',rfl,hw,ht'⟩:=ht.cZ
  exact⟨_,rfl,hc⟩
theorem TV(T:Ty):Qc T=false->∀x:T.den,((Ty.enc T x).cells.all wK=EU T):=by
 refine Ty.rec (motive_1:=λT=>Qc T=false->∀x:T.den,(Ty.enc T x).cells.all wK=EU T) (motive_2:=λfs=>uV fs=false->∀x:Ty.bO fs,(Ty.iW fs x).all wK=xX fs) ?_ ?_ ?_ ?_ ?_ ?_ ?_ ?_ ?_ ?_ T
 .intro k _ x;rfl
 .intro _ x;rfl
 .intro _ x;rfl
 .intro e _ _ x;rfl
 .intro fs ih h x;exact ih h x
 .intro f _ x;rfl
 .intro e _ h;cases h
 .intro _ _ _ x;rfl
 .intro _ x;rfl
 .intro t ts h1 h2 h x
  simp only[uV,mg]at h
  simp only[Ty.iW,List.all_append,h1 h.1,h2 h.2,xX]
theorem Oa(T:Ty)(hF:Qc T=false)(x:T.den):(match Ty.enc T x with|.v _=>true|.agg cs=>cs.all wK|_=>false)=EU T:=by
 cases T with
 |tup fs=>exact TV (.tup fs) hF x
 |iP e=>cases hF
 |_=>rfl
theorem a1o:∀(rs:List Ty) (hF:uV rs=false) (y:Ty.bO rs),((encs rs y).all λa=>match a with|.v _=>true|.agg cs=>cs.all wK|_=>false)=xX rs:=by
 intro rs
 induction rs with
 |nil=>intro _ y;rfl
 |cons T rs ih =>
  intro h y
  simp only[uV,mg]at h
  simp only[encs,jT,Oa T h.1,ih h.2,xX]
theorem O9(rs:List Ty)(hF:uV rs=false)(y:Ty.bO rs):scalar (jX (encs rs y))=xX rs:=by
 match rs,hF,y with
 |[],_,y=>rfl
 |[T],hF,y =>
  simp only[uV,Bool.or_false]at hF
  show scalar (Ty.enc T y.1)=(EU T&&true)
  rw[uX,<- Oa T hF y.1]
  cases T with
  |iP e=>cases hF
  |_=>rfl
 |T::U::rs,hF,y=>exact a1o (T::U::rs) hF y
mutual
theorem a1n:∀{T:Ty},EU T=true->Qc T=false
 |.int _,_=>rfl
 |.bool,_=>rfl
 |.str,_=>rfl
 |.list _,_=>rfl
 |.tup fs,h=>DJ (fs:=fs) h
 |.fnc _,_=>rfl
 |.iP _,h=>by cases h
 |.rl _ _,_=>rfl
theorem DJ:∀{fs:List Ty},xX fs=true->uV fs=false
 |[],_=>rfl
 |t::ts,h=>by
  simp only[xX,aB]at h
  simp only[uV,a1n h.1,DJ h.2,Bool.or_self]
end
theorem QA(hs:HS ρ h H):∀(ps:List Ty) (vs:List XV) (x:Ty.bO ps) (as:List AV),zk h ps vs=some x->bn (VT ρ h) vs as->∃bs,dV H as=some bs/\bn Wp bs (encs ps x)/\as.flatMap dU=(vs.flatMap fE).map (λid=>ρ.getD id 0)/\∀id∈vs.flatMap fE,isRow h id:=by
 intro ps
 induction ps with
 |nil =>
  intro vs x as hx hv
  cases vs with
  |nil=>have:=hv.gT;subst this;exact⟨[],rfl,.nil,rfl,by simp⟩
  |cons=>simp[zk]at hx
 |cons T ps ih =>
  intro vs x as hx hv
  cases vs with
  |nil=>simp[zk]at hx
  |cons v vs =>
   simp only[zk]at hx
   split at hx
   .rename_i z l hz hl
    cases hx
    obtain⟨a,as',rfl,hv1,hv2⟩:=hv.cZ
    have hnt:∀us,v≠.tup us:=λus q=>by
     subst q
     cases T<;>simp[toD,lst]at hz
    obtain⟨b,k1,k2,k3,k4⟩:=wW hs hz (hv1.wm hnt)
    obtain⟨bs,i1,i2,i3,i4⟩:=ih vs l as' hl hv2
    refine⟨b::bs,by simp only[dV,k1,i1],.cons k2 i2,by simp[k3,i3],λid hid=>?_⟩
    simp only[dw,aG]at hid
    rcases hid with q|q
    .exact k4 id q
    .exact i4 id q
   .cases hx
theorem a6J:∀(ids:List Nat) (h:List XO),ids.all (Gx h)=true->ko h ids=h:=by
 intro ids
 induction ids with
 |nil=>intro h _;rfl
 |cons id ids ih =>
  intro h ha
  simp only[jT,aB]at ha
  have hset:(match h[id]? with|some o=>h.set id (Qe o)|none=>h)=h:=by
   have:=ha.1
   unfold Gx at this
   split at this
   .rename_i ty T fz es he
    rw[he]
    subst this
    simp only[Qe]
    apply gX
    intro j
    rw[dh]
    split
    .rename_i hj
     subst hj
     split
     .rw[he]
     .rename_i hl;rw[aX (by omega)]
    .rfl
   .cases this
  show ko (match h[id]? with|some o=>h.set id (Qe o)|none=>h) ids=h
  rw[hset];exact ih h ha.2
theorem a2h:∀{os os':List SO},kinds os os'=true->os.length<=os'.length/\∀(j:Nat),j<os.length->(os.map kS)[j]?=(os'.map kS)[j]?:=by
 intro os
 induction os with
 |nil=>intro os' _;exact⟨by simp,λj hj=>by simp at hj⟩
 |cons so os ih =>
  intro os' hk
  cases os' with
  |nil=>cases so<;>simp[kinds]at hk
  |cons so' os' =>
   have hk':kinds os os'=true/\kS so=kS so':=by cases so<;>cases so'<;>simp[kinds]at hk<;>first|exact⟨hk,rfl⟩|exact⟨hk.2,rfl⟩
   obtain⟨a,b⟩:=ih hk'.1
   refine⟨by simp;exact a,λj hj=>?_⟩
   cases j with
   |zero=>simp[hk'.2]
   |succ j=>simpa using b j (by simpa using hj)
theorem X7{kp:List Nat}:∀(foc:List Nat) (os:List SO) (k:Nat),foc.length=os.length->∀(j id:Nat),foc[j]?=some id->(os.map kS)[j]?=some 0->id∈nX kp k foc os\/k+j∈kp:=by
 intro foc
 induction foc with
 |nil=>intro os k _ j id q;simp at q
 |cons f foc ih =>
  intro os k hl j id q kk
  cases os with
  |nil=>simp at hl
  |cons so os =>
   have hl':foc.length=os.length:=by simpa using hl
   cases j with
   |zero =>
    simp at q kk
    subst q
    cases so with
    |row =>
     simp only[nX]
     split
     .rename_i hk
      obtain⟨a,ha,e⟩:=iO.1 hk
      rw[<- beq_eq e]at ha
      exact .inr ha
     .exact .inl (by simp)
    |box=>cases kk
   |succ j =>
    have:=ih os (k+1) hl' j id (by simpa using q) (by simpa using kk)
    rw[show k+1+j=k+(j+1) by omega]at this
    rcases this with this|this
    .left
     cases so with
     |row =>
      simp only[nX]
      split
      .exact this
      .exact bG _ this
     |box=>simp only[nX];exact this
    .exact .inr this
theorem V3{hi ho:List XO}:∀{kp:List Nat},xI kp hi ho=true->∀j∈kp,∃ty T fz fz' es es',hi[j]?=some (.row ty T fz es)/\ho[j]?=some (.row ty T fz' es')/\es.length=es'.length:=by
 intro kp
 induction kp with
 |nil=>intro _ j hj;cases hj
 |cons a kp ih =>
  intro h j hj
  simp only[xI]at h
  split at h
  .rename_i ty T fz es ty' T' fz' es' h1 h2
   rw[aB]at h
   obtain⟨h3,h4⟩:=h
   rcases bD.1 hj with rfl|hj
   .split at h3
    .rename_i hc
     simp only[aB]at hc
     have e1:=beq_eq hc.1
     have e2:=Ty.same_eq hc.2
     subst e1 e2
     exact⟨_,_,_,_,_,_,h1,h2,beq_eq h3⟩
    .cases h3
   .exact ih h4 j hj
  .cases h
theorem WV(foc:List Nat)(base:Nat):∀(l:List Nat) (h os:List XO),l.Nodup->(∀id∈l,id<h.length)->l.length<=os.length->
  (mW foc base l h os).length=h.length+(os.length-l.length)/\(∀(k id:Nat),l[k]?=some id->(mW foc base l h os)[id]?=(os[k]?).map (AX foc base))/\(∀id,id<h.length->id∉l->(mW foc base l h os)[id]?=h[id]?)/\∀k,l.length<=k->k<os.length->(mW foc base l h os)[h.length+(k-l.length)]?=(os[k]?).map (AX foc base):=by
 intro l
 induction l with
 |nil =>
  intro h os _ _ _
  refine⟨by simp[mW],λk id q=>by simp at q,λid hid _=>?_,λk _ hk=>?_⟩
  .simp only[mW];rw[au hid]
  .simp only[mW,dS,Nat.sub_zero]
   rw[aO (by omega),uz,aT]
 |cons f l ih =>
  intro h os hn hlt hle
  cases os with
  |nil=>simp at hle
  |cons o os =>
   rw[kM]at hn
   have hf:=hlt f (by simp)
   obtain⟨a,b,c,d⟩:=ih (h.set f (AX foc base o)) os hn.2 (λid hid=>by simp;exact hlt id (by simp[hid])) (by simpa using hle)
   refine⟨by simp only[mW];rw[a];simp,λk id q=>?_,λid hid hn'=>?_,λk hk hk'=>?_⟩
   .cases k with
    |zero =>
     simp at q
     subst q
     simp only[mW]
     rw[c f (by simpa using hf) hn.1,aK hf]
     rfl
    |succ k =>
     simp only[mW]
     rw[b k id (by simpa using q)]
     simp
   .simp only[mW]
    simp only[bD,not_or]at hn'
    rw[c id (by simpa using hid) hn'.2,aC (λq=>hn'.1 q.symm)]
   .cases k with
    |zero=>simp at hk
    |succ k =>
     simp only[mW]
     have:=d k (by simpa using hk) (by simpa using hk')
     rw[pE]at this
     simp only[aL,Nat.add_sub_add_right,List.getElem?_cons_succ]
     exact this
end
section
variable{ρ:List Nat}{h:List XO}{H H':List aH}
theorem getD_congr{a b:List Nat}{i k:Nat}(q:a[i]?=b[k]?):a.getD i 0=b.getD k 0:=by simp only[List.getD,q]
theorem Vl:∀(vs:List (Nat×Ty)) (r:List Ty) (x:Ty.bO (zD vs r)) (b:List XV),(∀z∈b,∀us,z≠.tup us)->∀z∈(xO vs r x b).1,∀us,z≠.tup us:=by
 intro vs
 induction vs with
 |nil=>intro r x b hb;exact hb
 |cons p vs ih =>
  intro r x b hb
  obtain⟨s,T⟩:=p
  refine ih r x.2 _ λz hz us q=>?_
  rcases List.mem_or_eq_of_mem_set hz with hz|hz
  .exact hb z hz us q
  .rw[hz]at q;cases q
theorem R6:∀(refs:List (Nat×SR)) (r:List Ty) (x:Ty.bO (iE refs r)) (b:List XV),(∀z∈b,∀us,z≠.tup us)->∀z∈(nK refs r x b).1,∀us,z≠.tup us:=by
 intro refs
 induction refs with
 |nil=>intro r x b hb;exact hb
 |cons p refs ih =>
  intro r x b hb
  obtain⟨s,sr⟩:=p
  have st:∀c:XV,(∀us,c≠.tup us)->∀z∈b.set s c,∀us,z≠.tup us:=λc hc z hz us q=>by
   rcases List.mem_or_eq_of_mem_set hz with hz|hz
   .exact hb z hz us q
   .rw[hz]at q;exact hc us q
  cases sr with
  |row j=>exact ih r x _ (st _ λus q=>by cases q)
  |ptr j i o=>exact ih r x _ (st _ λus q=>by cases q)
  |nil=>exact ih r x _ (st _ λus q=>by cases q)
  |sub j o n=>exact ih r x _ (st _ λus q=>by cases q)
  |agg cs=>exact ih r _ _ (st _ λus q=>by cases q)
theorem Zc(sh:Sh)(x:Ty.bO sh.tys):∀z∈(emb sh x).t,∀us,z≠.tup us:=by
 refine R6 _ _ _ _ (Vl _ _ _ _ λz hz us q=>?_)
 have:=gI hz
 rw[this]at q;cases q
theorem a1X{ish osh:Sh}{vs:List XV}{as rs:List AV}{foc ρ':List Nat}{x:Ty.bO ish.tys}{y:Ty.bO osh.tys}(hs:HS ρ h H)(hv:bn (VT ρ h) vs as)(hn:vs.length=ish.n){nf:Nat}(hx:ext nf ish ⟨vs,h⟩=some (foc,x))(hk:kinds ish.objs osh.objs=true)
  {kp:List Nat} (hkp:xI kp (emb ish x).h (emb osh y).h=true) (hS:Sim ρ' (emb osh y) ⟨rs,H'⟩) (hF:Frm H (foc.map λid=>ρ.getD id 0) ρ' H') :
  ∃ρc,Upd ρ h H ρc (mW foc h.length foc (ru (nX kp 0 foc ish.objs) h) (emb osh y).h) H' (nX kp 0 foc ish.objs) foc/\VT ρc (mW foc h.length foc (ru (nX kp 0 foc ish.objs) h) (emb osh y).h) (a1C foc h.length (emb osh y).t) (jX rs):=by
 obtain⟨hS0,hlt,hfl,hnd⟩:=BH (X:=⟨vs,h⟩) hv hs hn hx
 obtain⟨l,hl1,hl2⟩:=hF.pre
 have hlt:∀id∈foc,id<h.length:=hlt
 obtain⟨kl1,kl2⟩:=a2h hk
 have ho2:(emb osh y).h.map kK=osh.objs.map kS:=yx _ _
 have ho1:(emb ish x).h.map kK=ish.objs.map kS:=yx _ _
 have hol:(emb osh y).h.length=osh.objs.length:=by have:=dn List.length ho2;simpa using this
 have c1z:(emb ish x).h.length=ish.objs.length:=by have:=dn List.length ho1;simpa using this
 have hkl:(ru (nX kp 0 foc ish.objs) h).length=h.length:=by rw[vN];simp
 obtain⟨s1,s2,s3,s4⟩:=WV foc h.length foc (ru (nX kp 0 foc ish.objs) h) (emb osh y).h hnd (λid hid=>by rw[hkl];exact hlt id hid) (by rw[hol,hfl];exact kl1)
 rw[hkl]at s1 s3 s4
 generalize hkeq:nX kp 0 foc ish.objs=kl at *
 generalize c1D:mW foc h.length foc (ru kl h) (emb osh y).h=hc at *
 have hρ':ρ'.length=(emb osh y).h.length:=hS.h.rl
 have hll:l.length=(emb osh y).h.length-foc.length:=by
  have:=dn List.length hl1;simp at this;omega
 have hfo:foc.length<=(emb osh y).h.length:=by rw[hol,hfl];exact kl1
 have num:∀j,j<(emb osh y).h.length->(ρ++l).getD (if Nat.blt j foc.length=true then foc.getD j 0 else h.length+(j-foc.length)) 0=ρ'.getD j 0/\hc[if Nat.blt j foc.length=true then foc.getD j 0 else h.length+(j-foc.length)]?=((emb osh y).h[j]?).map (AX foc h.length):=by
  intro j hj
  by_cases hjf:Nat.blt j foc.length=true
  .have hj':=wG hjf
   rw[if_pos hjf]
   have hg:foc[j]?=some (foc.getD j 0):=by simp[List.getD,ah hj']
   refine⟨?_,s2 j _ hg⟩
   have hm:foc.getD j 0∈foc:=bP hg
   rw[lG (by rw[hs.rl];exact hlt _ hm),hl1,lG (by simpa using hj')]
   simp[List.getD,aT,ah hj']
  .have hj':=Vy hjf
   rw[if_neg hjf]
   refine⟨?_,s4 j hj' hj⟩
   rw[hl1]
   have e1:(ρ++l)[h.length+(j-foc.length)]?=l[j-foc.length]?:=by rw[aO (by rw[hs.rl];omega),hs.rl,uz]
   have e2:((foc.map λid=>ρ.getD id 0)++l)[j]?=l[j-foc.length]?:=by rw[aO (by simpa using hj')];simp
   exact getD_congr (e1.trans e2.symm)
 have yI:∀(v:XV) (a:AV),V1 ρ' (emb osh y).h v a->V1 (ρ++l) hc (Ol foc h.length v) a:=by
  intro v a hv
  cases v with
  |row j =>
   obtain⟨ty,T,fz,es,he,rfl⟩:=hv
   obtain⟨n1,n2⟩:=num j (aj.1 he).1
   exact⟨ty,T,fz,es,by rw[n2,he];rfl,by rw[n1]⟩
  |sub j off len=>trivial
  |ptr j i o =>
   obtain⟨ob,he,rfl⟩:=hv
   obtain⟨n1,n2⟩:=num j (aj.1 he).1
   refine⟨AX foc h.length ob,by rw[n2,he];rfl,?_⟩
   rw[n1]
   cases ob<;>rfl
  |me j =>
   rcases hv with hv|⟨ob,he,rfl⟩
   .exact .inl hv
   .obtain⟨n1,n2⟩:=num j (aj.1 he).1
    refine .inr ⟨AX foc h.length ob,by rw[n2,he];rfl,?_⟩
    rw[n1]
    cases ob<;>rfl
  |agg=>exact hv.elim
  |tup=>exact hv.elim
  |_=>exact hv
 have b9l:∀(v:XV) (a:AV),VA ρ' (emb osh y).h v a->VA (ρ++l) hc (Oj foc h.length v) a:=by
  intro v a hv
  by_cases ha:∃cs,v=.agg cs
  .obtain⟨cs,rfl⟩:=ha
   obtain⟨us,rfl,hcs⟩:=hv
   refine⟨us,rfl,by simp[hcs.1],λi z b p q=>?_⟩
   rw[aT]at p
   cases hz:cs[i]? with
   |none=>rw[hz]at p;cases p
   |some w=>rw[hz]at p;cases p;exact yI w b (hcs.2 i w b hz q)
  .have e1:Oj foc h.length v=Ol foc h.length v:=by cases v<;>first|rfl|exact absurd ⟨_,rfl⟩ ha
   rw[e1]
   exact VA.of1 (yI v a (by cases v<;>first|exact hv|exact absurd ⟨_,rfl⟩ ha))
 have b1z:∀(j:Nat) (o:XO) (O:aH),(emb osh y).h[j]?=some o->wM ρ' (emb osh y).h o O->wM (ρ++l) hc (AX foc h.length o) O:=by
  intro j o O hj hR
  cases o with
  |row=>exact hR
  |box ty cs =>
   obtain⟨a,b,c,d,e,he,hcs⟩:=hR
   refine⟨a,by simpa using b,c,d,e,he,by simp[hcs.1],λi z w p q=>?_⟩
   rw[aT]at p
   cases hz:cs[i]? with
   |none=>rw[hz]at p;cases p
   |some u=>rw[hz]at p;cases p;exact yI u w (hcs.2 i u w hz q)
 have b5Q:∀(j id:Nat) (o:XO),foc[j]?=some id->h[id]?=some o->(ish.objs.map kS)[j]?=some (kK o):=a2I hx
 have tr:Trn ρ h (ρ++l) hc kl:=by
  refine Trn.mk (λid o ho hn=>?_) (λid hid=>lG (by rw[hs.rl];exact hid))
  by_cases hf:id∈foc
  .obtain⟨j,hj⟩:=dP.1 hf
   have hjl:j<foc.length:=(aj.1 hj).1
   have hk1:=b5Q j id o hj ho
   have hjo:j<(emb osh y).h.length:=by omega
   have hk2:=kl2 j (by rw[<- hfl];exact hjl)
   rw[hk1,<- ho2,aT,ah hjo]at hk2
   have hk3:kK (emb osh y).h[j]=kK o:=by simpa using hk2.symm
   refine⟨AX foc h.length (emb osh y).h[j],by rw[s2 j id hj,ah hjo];rfl,?_⟩
   by_cases hr:kK o=0
   .rw[hr]at hk1
    rcases X7 (kp:=kp) foc ish.objs 0 hfl j id hj hk1 with q|q
    .rw[hkeq]at q;exact absurd q hn
    .rw[dD]at q
     obtain⟨ty,T,fz,fz',es,es',e1,e2,e3⟩:=V3 hkp j q
     rw[ah hjo]at e2
     have e2:=aI e2
     rw[e2]
     have:=a6N hx j id o hj ho e1
     rw[this]
     exact⟨rfl,rfl,e3⟩
   .generalize (emb osh y).h[j]=o2 at hk3 ⊢
    cases o with
    |row=>exact absurd rfl hr
    |box ty cs=>cases o2<;>first|(cases hk3;done)|trivial
  .refine⟨rR kl o,?_,?_⟩
   .rw[s3 id (aj.1 ho).1 hf,vN,aT,ho];rfl
   .cases o<;>simp[tX,rR]
 refine⟨ρ++l,⟨⟨?_,?_,λid o ho=>?_⟩,tr,hF.ge,λj hj hn=>?_,⟨l,rfl,hl2⟩,by rw[s1];omega⟩,?_⟩
 .rw[ak,s1,hs.rl,hll]
 .have hnd':=hS.h.nd
  rw[hl1,dN]at hnd'
  rw[dN]
  refine⟨hs.nd,hnd'.2.1,λa ha b hb=>?_⟩
  have:=hs.Yu ha
  have:=hl2 b hb
  omega
 .by_cases hid:id<h.length
  .by_cases hf:id∈foc
   .obtain⟨j,hj⟩:=dP.1 hf
    have hjl:j<foc.length:=(aj.1 hj).1
    have hjo:j<(emb osh y).h.length:=by omega
    rw[s2 j id hj,ah hjo]at ho
    cases ho
    obtain⟨O,hO,hR⟩:=hS.h.hr j _ (ah hjo)
    refine⟨O,?_,b1z _ _ _ (ah hjo) hR⟩
    rw[lG (by rw[hs.rl];exact hid)]
    have:ρ'.getD j 0=ρ.getD id 0:=by rw[hl1,lG (by simpa using hjl)];simp[List.getD,aT,hj]
    rw[this]at hO;exact hO
   .rw[s3 id hid hf,vN,aT]at ho
    cases hx2:h[id]? with
    |none=>rw[hx2]at ho;cases ho
    |some ox =>
     rw[hx2]at ho;cases ho
     obtain⟨O,hO,hR⟩:=hs.hr id ox hx2
     refine⟨O,?_,tr.obj hR⟩
     rw[lG (by rw[hs.rl];exact hid),hF.fr _ (hs.lt hid) (λq=>?_)]
     .exact hO
     .obtain⟨id',b2J,e⟩:=bX.1 q
      exact hf (hs.inj (hlt id' b2J) hid e▸b2J)
  .have zV:=(aj.1 ho).1
   rw[s1]at zV
   have hk':=s4 (id-h.length+foc.length) (by omega) (by omega)
   rw[Nat.add_sub_cancel,show h.length+(id-h.length)=id by omega,ho]at hk'
   have hjo:id-h.length+foc.length<(emb osh y).h.length:=by omega
   rw[ah hjo]at hk'
   cases hk'
   obtain⟨O,hO,hR⟩:=hS.h.hr _ _ (ah hjo)
   refine⟨O,?_,b1z _ _ _ (ah hjo) hR⟩
   have e1:(ρ++l)[id]?=l[id-h.length]?:=by rw[aO (by rw[hs.rl];omega),hs.rl]
   have e2:ρ'[id-h.length+foc.length]?=l[id-h.length]?:=by rw[hl1,aO (by simp)];simp
   have:(ρ++l).getD id 0=ρ'.getD (id-h.length+foc.length) 0:=getD_congr (e1.trans e2.symm)
   rw[this];exact hO
 .refine hF.fr j hj (λq=>?_)
  obtain⟨id,hid,e⟩:=bX.1 q
  exact hn id hid (hlt id hid) e
 .have ht:=hS.t
  have hts:∀(z:XV) (a:AV),VT ρ' (emb osh y).h z a->(∀us,z≠.tup us)->VA (ρ++l) hc (Oj foc h.length z) a:=λz a q hz=>b9l z a (q.wm hz)
  have hnt:∀z∈(emb osh y).t,∀us,z≠.tup us:=Zc osh y
  unfold a1C jX
  generalize (emb osh y).t=tl at ht hnt
  match tl,rs,ht,hnt with
  |[],rs,ht,_=>have:=ht.gT;subst this;exact⟨[],rfl,.nil⟩
  |[v],rs,ht,hnt =>
   obtain⟨a,r,rfl,hv,htt⟩:=ht.cZ
   have:=htt.gT
   subst this
   exact VT.ofA (hts v a hv (hnt v (by simp)))
  |v::w::tl,rs,ht,hnt =>
   obtain⟨a,r,rfl,hv,htt⟩:=ht.cZ
   obtain⟨b,r',rfl,hw,c1w⟩:=htt.cZ
   refine⟨_,rfl,by simpa using ht.1,λi z c p q=>?_⟩
   rw[aT]at p
   cases hz:(v::w::tl)[i]? with
   |none=>rw[hz]at p;cases p
   |some u=>rw[hz]at p;cases p;exact hts u c (ht.2 i u c hz q) (hnt u (bP hz))
end
structure pF (P:Program) (c:Cfg):Prop where
 pis:∀p∈c.pis,POk P (gx c.GX) p
 his:∀p∈c.his,HOk P (gx c.GX) p
section
variable{P:Program}{c:Cfg}{ρ:List Nat}{h:List XO}{H:List aH}{σ:St}{rd:Opd->XV}{tt:Nat->Option Ty}{Gl:Nat->Option (List AV)}{β:Type}{r:β}
theorem Dr{i:I}{p:Bool}{v:XV}{kl:Option Nat}{h':List XO}(hc:i.cls<=1)(hx:ig tt h rd i=some (p,v,kl,h')):kl=none/\h'=h:=by
 cases i<;>simp only[I.cls]at hc<;>first|omega|skip
 all_goals(simp only[ig]at hx)
 all_goals(repeat' (split at hx))
 all_goals first|(cases hx;done)|(cases hx;exact⟨rfl,rfl⟩)
theorem NV{i:I}(hc:i.cls<=1){q:Prop}{a:AV}{H':List aH}(hx:step Gl σ i=some (q,a,H')):H'=σ.h:=by
 by_cases h0:i.cls=0
 .exact(DC (τ:=σ) h0 (λ_ _=>rfl) hx).1
 .cases i with
  |mQ b st n x i =>
   simp only[step]at hx
   repeat' (split at hx)
   all_goals first
    |(cases hx;done)
    |(cases hx;rfl)
  |b2s x =>
   simp only[step]at hx
   split at hx
   .rw[fB]at hx;obtain⟨_,_,q⟩:=hx;cases q;rfl
   .cases hx
  |load sz ag x =>
   simp only[step]at hx
   repeat' (split at hx)
   all_goals first
    |(cases hx;done)
    |(cases hx;rfl)
    |(rw[fB]at hx;obtain⟨_,_,q⟩:=hx;cases q;rfl)
  |call f as=>cases hx
  |_=>first|exact absurd rfl h0|(simp[I.cls]at hc;done)
theorem zl{d:Bool}{dst:Option Nat}{K:St->Prop}{i:I}(hn:∀f as,i≠.call f as):fQ P Gl d σ dst K i=match step Gl σ i with
  |some (p,a,h')=>p/\K (St.put ⟨σ.t,h'⟩ dst a)
  |none=>False:=by
 cases i<;>first|rfl|exact absurd rfl (hn _ _)
theorem Kv{ρ':List Nat}{h':List XO}{H':List aH}{kl tch:List Nat}(hu:Upd ρ h H ρ' h' H' kl tch)(hρ:ρ.length=h.length)(he:h'.length=h.length):ρ'=ρ:=by
 obtain⟨n,e,_⟩:=hu.ap
 have:=hu.hs.rl
 rw[e,ak]at this
 have hn:n=[]:=bC.1 (by omega)
 rw[e,hn,cu]
def Aft(ρ:List Nat)(h:List XO)(σ:St)(d:Bool)(ok:Nat->Bool)(rd:Opd->XV)(i:I)(K:XV->List Nat->List XO->Option β)(r:β)(a:AV)(H':List aH):Prop :=
 ∃ρ' v kl h' tch,Upd ρ h σ.h ρ' h' H' kl tch/\VT ρ' h' v a/\(leaves ok rd i=true->∀id∈tch,ok id=true)/\(i.cls<=1->d=true->ρ'=ρ/\H'=σ.h/\kl=[]/\h'=h)/\K v kl h'=some r
theorem VY(hs:HS ρ h H){vs:List XV}{as:List AV}(hv:bn (VT ρ h) vs as){f:Nat}{d:Bool}{K:XV->List Nat->List XO->Option β}{o:Option β}:∀(ps:List PI),(∀p∈ps,POk P Gl p)->Dt f d h vs K o ps=some r->
  (∃bs res v h' tch,callable P f=true/\dV H as=some bs/\Pure P Gl f bs res/\(d=true->(if scalar res then H else freeze H (as.flatMap dU))=H)/\Upd ρ h H ρ h' (if scalar res then H else freeze H (as.flatMap dU)) [] tch/\(∀id∈tch,id∈vs.flatMap fE)/\VT ρ h' v res/\(d=true->h'=h)/\K v [] h'=some r)\/o=some r:=by
 intro ps
 induction ps with
 |nil=>intro _ hx;exact .inr hx
 |cons p ps ih =>
  intro hp hx
  simp only[Dt]at hx
  split at hx
  .rename_i hf
   have hf:=beq_eq hf
   subst hf
   split at hx
   .rename_i x ha
    obtain⟨bs,k1,k2,k3,k4⟩:=QA hs _ _ _ _ ha hv
    have hpure:∀y,p.run x=some y->Pure P Gl p.f bs (jX (encs p.rs y)):=λy hy =>
     ((hp p (by simp)).2 x y hy).weak k2.1 λj a b q q'=>(k2.2 j a b q q').wk
    split at hx
    .rename_i hsc
     cases hy:p.run x with
     |none=>rw[hy]at hx;cases hx
     |some y =>
      rw[hy]at hx
      have hsr:scalar (jX (encs p.rs y))=true:=by rw[O9 _ (DJ hsc)];exact hsc
      refine .inl ⟨bs,_,Gi p.rs y,h,[],(hp p (by simp)).1,k1,hpure y hy,λ_=>by rw[hsr];rfl,?_,(λ_ q=>by simp at q),JC _ _,λ_=>rfl,hx⟩
      rw[hsr];exact Upd.same hs
    .rename_i hsc
     split at hx
     .rename_i hd
      cases hy:p.run x with
      |none=>rw[hy]at hx;cases hx
      |some y =>
       rw[hy]at hx
       have b22:(vs.flatMap fE).all (Gx h)=true->freeze H (as.flatMap dU)=H/\ko h (vs.flatMap fE)=h:=by
        intro hd
        rw[k3]
        refine⟨?_,a6J _ _ hd⟩
        clear hx ih hpure
        have:∀(ids:List Nat),(∀id∈ids,isRow h id)->ids.all (Gx h)=true->freeze H (ids.map λid=>ρ.getD id 0)=H:=by
         intro ids
         induction ids with
         |nil=>intro _ _;rfl
         |cons id ids ih =>
          intro hr ha
          simp only[jT,aB]at ha
          obtain⟨ty,T,fz,es,he⟩:=hr id (by simp)
          have hfz:fz=true:=by have:=ha.1;simp only[Gx,he]at this;exact this
          obtain⟨O,hO,o1,o2,o3,o4,o5⟩:=hs.hr id _ he
          rw[hfz,if_pos rfl]at o4
          have hlen:O.es.length=es.length:=by have:=o5.1;simpa using this
          have hst:H.set (ρ.getD id 0) { O with fz:=O.es.length }=H:=by
           have:({ O with fz:=O.es.length }:aH)=O:=by rw[hlen,<- o4]
           rw[this]
           apply gX
           intro j
           rw[dh]
           split
           .rename_i hj
            subst hj
            split
            .rw[hO]
            .rename_i hl;rw[aX (by omega)]
           .rfl
          have e:freeze H ((id::ids).map λid=>ρ.getD id 0)=freeze H (ids.map λid=>ρ.getD id 0):=by
           simp only[bg,freeze,eX,hO];rw[hst]
          rw[e]
          exact ih (λj hj=>hr j (by simp[hj])) ha.2
        exact this _ k4 hd
       by_cases hall:(vs.flatMap fE).all (Gx h)=true
       .obtain⟨f1,f2⟩:=b22 hall
        have hif:(if scalar (jX (encs p.rs y))=true then H else freeze H (as.flatMap dU))=H:=by rw[f1];split<;>rfl
        rw[f2]at hx
        exact .inl ⟨bs,_,Gi p.rs y,h,[],(hp p (by simp)).1,k1,hpure y hy,λ_=>hif,by rw[hif];exact Upd.same hs,(λ_ q=>by simp at q),JC _ _,λ_=>rfl,hx⟩
       ·have hd':d=false/\uV p.rs=false:=by
         have:=vI _▸hall
         rw[this]at hd
         simpa using hd
        have hsr:scalar (jX (encs p.rs y))=false:=by rw[O9 _ hd'.2];simpa using hsc
        have hu:=Upd.frz _ hs k4
        rw[<- k3]at hu
        refine .inl ⟨bs,_,Gi p.rs y,_,_,(hp p (by simp)).1,k1,hpure y hy,λq=>?_,by rw[hsr];exact hu,(λ_ q=>q),JC _ _,λq=>?_,hx⟩
        .rw[hd'.1]at q;cases q
        .rw[hd'.1]at q;cases q
     .cases hx
   .exact ih (λq hq=>hp q (by simp[hq])) hx
  .exact ih (λq hq=>hp q (by simp[hq])) hx
theorem VZ(hs:HS ρ h H){vs:List XV}{as:List AV}(hv:bn (VT ρ h) vs as){f:Nat}{ok:Nat->Bool}{K:XV->List Nat->List XO->Option β}:∀(ps:List HI),(∀p∈ps,HOk P Gl p)->Du f ok h vs K ps=some r->
  callable P f=true/\fJ P Gl f H as λres H'=>∃ρ' v kl h' tch,Upd ρ h H ρ' h' H' kl tch/\(∀id∈tch,ok id=true)/\VT ρ' h' v res/\K v kl h'=some r:=by
 intro ps
 induction ps with
 |nil=>intro _ hx;cases hx
 |cons p ps ih =>
  intro hp hx
  simp only[Du]at hx
  split at hx
  .rename_i hb
   simp only[aB]at hb
   have hf:=beq_eq hb.1.1
   have hn:=beq_eq hb.1.2
   subst hf
   split at hx
   .rename_i foc x he
    split at hx
    case isFalse=>cases hx
    rename_i hfo
    cases hy:p.run x with
    |none=>rw[hy]at hx;cases hx
    |some y =>
     rw[hy]at hx
     have hx:cond (xI p.kp (emb p.ish x).h (emb p.osh y).h) (K _ _ _) none=some r:=hx
     cases hkp:xI p.kp (emb p.ish x).h (emb p.osh y).h with
     |false=>rw[hkp]at hx;cases hx
     |true =>
     rw[hkp]at hx
     have hS:=(BH (X:=⟨vs,h⟩) hv hs hn.symm he).1
     refine⟨(hp p (by simp)).1,((hp p (by simp)).2 x y hy H _ as hS).mono ?_⟩
     rintro res H' ⟨ρ',rs,hS',rfl,hF⟩
     obtain⟨ρc,hu,hvt⟩:=a1X hs hv hn.symm he hb.2 hkp hS' hF
     exact⟨ρc,_,_,_,_,hu,λid hid=>aD.1 hfo id hid,hvt,hx⟩
   .exact ih (λq hq=>hp q (by simp[hq])) hx
  .exact ih (λq hq=>hp q (by simp[hq])) hx
theorem a0V(hc:pF P c)(hs:HS ρ h σ.h)(hrd:∀o,VT ρ h (rd o) (σ.val (gx c.GX) o)){d:Bool}{ok:Nat->Bool}{K:XV->List Nat->List XO->Option β}{i:I}{dst:Option Nat}{Q:St->Prop}(hx:Mf c d ok h rd K i=some r)(hQ:∀a H',Aft ρ h σ d ok rd i K r a H'->Q (St.put ⟨σ.t,H'⟩ dst a)):fQ P (gx c.GX) d σ dst Q i:=by
 by_cases hcall:∃f as,i=.call f as
 .obtain⟨f,as,rfl⟩:=hcall
  simp only[Mf]at hx
  split at hx
  case h_2=>cases hx
  rename_i fi u hfo
  have hfv:σ.val (gx c.GX) f=.v (.func (.func fi) #[] #[]):=by
   have:=hrd f
   rw[hfo]at this
   exact a8Y this
  have hv:=Ef (xs:=as) hrd
  rcases VY hs hv c.pis hc.pis hx with⟨bs,res,v,h',tch,k0,k1,k2,k3,k4,k4',k5,k6,k7⟩|ho
  .refine⟨fi,hfv,k0,.inl ⟨bs,res,k1,k2,k3,hQ _ _ ⟨ρ,v,[],h',tch,k4,k5,(λhm id hid=>aD.1 hm id (k4' id hid)),λ_ hd=>⟨rfl,k3 hd,rfl,k6 hd⟩,k7⟩⟩⟩
  .cases d with
   |true=>cases ho
   |false =>
    obtain⟨k0,kH⟩:=VZ hs hv c.his hc.his ho
    refine⟨fi,hfv,k0,.inr ⟨rfl,kH.mono ?_⟩⟩
    rintro res H' ⟨ρ',v,kl,h',tch,u1,u1',u2,u3⟩
    exact hQ _ _ ⟨ρ',v,kl,h',tch,u1,u2,(λ_=>u1'),(λ_ hd=>by cases hd),u3⟩
 .have hn:∀f as,i≠.call f as:=λf as q=>hcall ⟨f,as,q⟩
  rw[zl hn]
  have hx':(match ig c.tt h rd i with
    |some (p,v,kl,h')=>cond p (K v kl.toList (ru kl.toList h')) none
    |none=>none)=some r:=by
   rw[<- hx]
   cases i with
   |call f as=>exact absurd rfl (hn _ _)
   |_=>rfl
  split at hx'
  .rename_i p v kl h' hst
   cases p with
   |false=>cases hx'
   |true =>
    obtain⟨q,a,H',ρ',tch,e1,e2,e3,e4,e5⟩:=Dq i hs hrd _ _ _ _ hst rfl
    rw[e1]
    refine⟨e2,hQ _ _ ⟨ρ',v,kl.toList,_,tch,e3,e4,e5 ok,λhcl _=>?_,hx'⟩⟩
    obtain⟨c1,c2⟩:=Dr hcl hst
    subst c1 c2
    exact⟨Kv e3 hs.rl rfl,NV hcl e1,rfl,rfl⟩
  .cases hx'
end
def SpR(ρ:List Nat)(h:List XO)(σ:St)(sp:Sp):Prop:=∀q∈sp,(σ.t.getD q.2.1 .any=.v (.bool q.2.2.1)/\VT ρ h q.2.2.2 (σ.t.getD q.1 .any))\/(σ.t.getD q.2.1 .any≠.v (.bool q.2.2.1)/\σ.t.getD q.1 .any=und)
section
variable{P:Program}{c:Cfg}{ρ:List Nat}{X:XS}{H:List aH}{σ:St}{β:Type}{r:β}{sp:Sp}
theorem rP{h:List XO}{t:List XV}{ts:List AV}(ht:bn (VT ρ h) t ts)(i:Nat):VT ρ h (t.getD i .any) (ts.getD i .any):=by
 rcases bI i ts.length with q|q
 .exact ht.getD q _ _
 .have:t[i]?=none:=aX (by rw[ht.1];exact q)
  simp only[List.getD,this,Option.getD_none];trivial
theorem Bv(hS:Sim ρ X σ)(o:Opd):VT ρ X.h (rdG c.GX X.t o) (σ.val (gx c.GX) o):=by
 cases o with
 |t i=>exact rP hS.t i
 |k v=>exact VT.of1 (TH v)
 |g i =>
  simp only[rdG,St.val,gx]
  by_cases hb:Nat.blt i 1000000=true
  case neg=>rw[if_neg hb];trivial
  rw[if_pos hb,if_pos hb]
  cases c.GX i with
  |none=>trivial
  |some p =>
   obtain⟨T,x⟩:=p
   exact⟨_,rfl,by rw[ku];exact bn.rfl' .refl _⟩
theorem zK(hS:Sim ρ X σ)(hsp:SpR ρ X.h σ sp){ctx:List (Nat×Bool)}(hg:∀g∈ctx,σ.t.getD g.1 .any=.v (.bool g.2))(o:Opd):VT ρ X.h (rdC c.GX sp ctx X.t o) (σ.val (gx c.GX) o):=by
 cases o with
 |t i =>
  simp only[rdC]
  split
  .rename_i q hq
   have hm:=List.mem_of_find?_eq_some hq
   have hp:=List.find?_some hq
   simp only[aB,iO]at hp
   obtain⟨e1,g,hgm,hg2⟩:=hp
   have e1:=beq_eq e1
   simp only[aB,rE]at hg2
   have e2:=beq_eq hg2.1
   have hgg:=hg g hgm
   rw[e2,hg2.2]at hgg
   rcases hsp q hm with⟨_,h2⟩|⟨h1,_⟩
   .rw[e1]at h2;exact h2
   .exact absurd hgg h1
  .exact rP hS.t i
 |k v=>exact Bv (c:=c) hS (.k v)
 |g i=>exact Bv (c:=c) hS (.g i)
theorem Ky{h:List XO}{t:List XV}{ts:List AV}(ht:bn (VT ρ h) t ts){u:Nat}{x:XV}(hx:VT ρ h x (ts.getD u .any)):bn (VT ρ h) (t.set u x) ts:=by
 refine⟨by simp[ht.1],λi y a p q=>?_⟩
 rw[dh]at p
 split at p
 .rename_i hi
  subst hi
  split at p
  .cases p
   have:ts.getD u .any=a:=by simp only[List.getD,q,gF]
   rw[this]at hx;exact hx
  .cases p
 .exact ht.2 i y a p q
theorem b1J{h:List XO}{s:Nat}{v:Bool}(hg:σ.t.getD s .any=.v (.bool v)):∀(l:Sp) (t:List XV),bn (VT ρ h) t σ.t->(∀q∈l,(σ.t.getD q.2.1 .any=.v (.bool q.2.2.1)/\VT ρ h q.2.2.2 (σ.t.getD q.1 .any))\/(σ.t.getD q.2.1 .any≠.v (.bool q.2.2.1)/\σ.t.getD q.1 .any=und))->bn (VT ρ h) (l.foldl (λt q=>if Nat.beq q.2.1 s=true then t.set q.1 (if(q.2.2.1==v)=true then q.2.2.2 else kU) else t) t) σ.t:=by
 intro l
 induction l with
 |nil=>intro t ht _;exact ht
 |cons q l ih =>
  intro t ht hl
  refine ih _ ?_ (λq' hq'=>hl q' (by simp[hq']))
  dsimp only
  split
  .rename_i hb
   have hb:=beq_eq hb
   rcases hl q (by simp) with⟨h1,h2⟩|⟨h1,h2⟩
   .rw[hb,hg]at h1
    cases h1
    rw[if_pos (by simp)]
    exact Ky ht h2
   .have hne:¬(q.2.2.1==v)=true:=λe=>h1 (by rw[hb,hg];simp only[rE]at e;rw[e])
    rw[if_neg hne]
    refine Ky ht ?_
    rw[h2];exact rfl
  .exact ht
theorem Ob{t:List XV}{ts:List AV}{h:List XO}(ht:bn (VT ρ h) t ts){s:Nat}{b:Bool}(hb:ts.getD s .any=.v (.bool b)):bn (VT ρ h) (t.set s (.d .bool b)) ts:=Ky ht (by rw[hb];exact Wp.refl _)
theorem BD{s:Nat}{v:Bool}(hS:Sim ρ X σ)(hsp:SpR ρ X.h σ sp)(hg:σ.t.getD s .any=.v (.bool v)):Sim ρ ⟨sV s v sp X.t,X.h⟩ σ/\SpR ρ X.h σ (wo s sp) :=
 ⟨⟨b1J hg sp _ (Ob hS.t hg) hsp,hS.h⟩,λq hq=>hsp q (gL.1 hq).1⟩
theorem YF(kl:List Nat):∀sp,Fy kl sp=sp.map λq=>(q.1,q.2.1,q.2.2.1,yu kl q.2.2.2):=by
 induction kl with
 |nil=>intro sp;show sp=_;simp[yu]
 |cons k kl ih =>
  intro sp
  show Fy kl (sp.map _)=_
  rw[ih,fH];rfl
theorem NS{h:List XO}(a:AV):VT ρ h .any a:=trivial
theorem qx{ρ':List Nat}{h':List XO}{H':List aH}{kl tch:List Nat}{t:List XV}(ht:bn (VT ρ X.h) t σ.t)(hu:Upd ρ X.h H ρ' h' H' kl tch){v:XV}{a:AV}(hv:VT ρ' h' v a)(dst:Option Nat):Sim ρ' ⟨uI (Fz kl t) dst v,h'⟩ (St.put ⟨σ.t,H'⟩ dst a):=by
 have h1:bn (VT ρ' h') (Fz kl t) σ.t:=by
  rw[YG]
  exact⟨by simp[ht.1],λi y b p q=>by
   rw[aT]at p
   cases hy:t[i]? with
   |none=>rw[hy]at p;cases p
   |some z=>rw[hy]at p;cases p;exact hu.tr.T (ht.2 i z b hy q)⟩
 cases dst with
 |none=>exact⟨h1,hu.hs⟩
 |some i=>exact⟨h1.set hv i,hu.hs⟩
theorem GJ{σ:St}{H':List aH}{dst:Option Nat}{a:AV}{j:Nat}(hj:dst≠some j):(St.put ⟨σ.t,H'⟩ dst a).t.getD j .any=σ.t.getD j .any:=by
 cases dst with
 |none=>rfl
 |some i =>
  have:i≠j:=λq=>hj (by rw[q])
  simp only[St.put,List.getD,aC this]
theorem BI{ρ':List Nat}{h':List XO}{H H':List aH}{kl tch:List Nat}(hsp:SpR ρ X.h σ sp)(hu:Upd ρ X.h H ρ' h' H' kl tch)(dst:Option Nat)(a:AV):SpR ρ' h' (St.put ⟨σ.t,H'⟩ dst a) (jM dst (Fy kl sp)):=by
 intro q hq
 have hne:dst≠some q.1/\dst≠some q.2.1/\q∈Fy kl sp:=by
  cases dst with
  |none=>exact⟨by simp,by simp,hq⟩
  |some i =>
   simp only[jM,gL,aB,iT]at hq
   refine⟨λe=>?_,λe=>?_,hq.1⟩
   .cases e;simp at hq
   .cases e;simp at hq
 rw[GJ hne.1,GJ hne.2.1]
 have hm:=hne.2.2
 rw[YF]at hm
 obtain⟨q0,hq0,rfl⟩:=bX.1 hm
 rcases hsp q0 hq0 with⟨h1,h2⟩|⟨h1,h2⟩
 .exact .inl ⟨h1,hu.tr.T h2⟩
 .exact .inr ⟨h1,h2⟩
def c1p(c:Cfg)(ρ:List Nat)(X:XS)(σ:St)(d:Bool)(ok:Nat->Bool)(ins:Ins)(K:XS->Sp->Option β)(r:β)(τ:St):Prop :=
 ∃ρ' X' sp',Sim ρ' X' τ/\SpR ρ' X'.h τ sp'/\(∃kl tch,Upd ρ X.h σ.h ρ' X'.h τ.h kl tch/\(ins.gd=none->leaves ok (rdG c.GX X.t) ins.i=true->∀id∈tch,ok id=true))/\K X' sp'=some r
theorem EZ{σ:St}{H':List aH}{dst:Option Nat}{a:AV}:(St.put ⟨σ.t,H'⟩ dst a).h=H':=by cases dst<;>rfl
theorem KM{i:I}(h:I8 i=true):i.cls<=1/\∀f as,i≠.call f as:=by
 cases i<;>simp[I8]at h<;>exact⟨by simp[I.cls],λf as q=>by cases q⟩
theorem Yr{t:Bool}{x y v:XV}{a b:AV}{h:List XO}(hm:mrg t x y=some v)(ha:t=true->VT ρ h x a)(hb:t=false->VT ρ h y b):VT ρ h v (if t=true then a else b):=by
 unfold mrg at hm
 split at hm
 .rename_i T x T' y
  split at hm
  .rename_i y' hy
   cases hm
   obtain⟨rfl,rfl⟩:=lD hy
   cases t with
   |true=>exact ha rfl
   |false=>exact hb rfl
  .cases hm
 .cases hm
theorem KQ{Gl:Nat->Option (List AV)}{σ:St}{s:Nat}{a b:Opd}{t:Bool}(ht:σ.t.getD s .any=.v (.bool t)):step Gl σ (.pick (.t s) a b)=some (True,if t=true then σ.val Gl a else σ.val Gl b,σ.h):=by
 have hts:σ.val Gl (.t s)=.v (.bool t):=ht
 simp only[step,hts]
def b3O(c:Cfg)(ρ:List Nat)(X:XS)(σ:St)(d:Bool)(ok:Nat->Bool)(i:I)(K:XS->Sp->Option β)(r:β)(τ:St):Prop :=
 ∃ρ' X' sp',Sim ρ' X' τ/\SpR ρ' X'.h τ sp'/\(∃kl tch,Upd ρ X.h σ.h ρ' X'.h τ.h kl tch/\(leaves ok (rdG c.GX X.t) i=true->∀id∈tch,ok id=true)/\(i.cls<=1->d=true->ρ'=ρ/\X'.h=X.h/\τ.h=σ.h))/\K X' sp'=some r
theorem Hz(hc:pF P c)(hS:Sim ρ X σ)(hsp:SpR ρ X.h σ sp){d:Bool}{ok:Nat->Bool}{K:XS->Sp->Option β}{Q:St->Prop}{dst:Option Nat}{i:I}(hx:xun c d ok X sp dst K i=some r)(hQ:∀τ,b3O c ρ X σ d ok i K r τ->Q τ):fQ P (gx c.GX) d σ dst Q i:=by
 by_cases hp:∃s a b,i=.pick (.t s) a b
 .obtain⟨s,a,b,rfl⟩:=hp
  simp only[xun,a3E]at hx
  have hvs:=rP hS.t s
  have go:∀t:Bool,σ.t.getD s .any=.v (.bool t)->(match(generalizing:=false) mrg t (rdC c.GX sp [(s,true)] X.t a) (rdC c.GX sp [(s,false)] X.t b) with
   |some v=>K ⟨uI X.t dst v,X.h⟩ (jM dst sp)
   |none=>cond t (K ⟨uI (sV s true sp X.t) dst (rdC c.GX sp [(s,true)] X.t a),X.h⟩ (jM dst (wo s sp))) (K ⟨uI (sV s false sp X.t) dst (rdC c.GX sp [(s,false)] X.t b),X.h⟩ (jM dst (wo s sp))))=some r->fQ P (gx c.GX) d σ dst Q (.pick (.t s) a b):=by
   intro t ht hy
   rw[zl (by intro f as q;cases q),KQ ht]
   refine⟨trivial,hQ _ ?_⟩
   have hva:t=true->VT ρ X.h (rdC c.GX sp [(s,true)] X.t a) (σ.val (gx c.GX) a):=λq=>zK hS hsp (by simp only[aV,forall_eq];rw[ht,q]) a
   have hvb:t=false->VT ρ X.h (rdC c.GX sp [(s,false)] X.t b) (σ.val (gx c.GX) b):=λq=>zK hS hsp (by simp only[aV,forall_eq];rw[ht,q]) b
   have hu:=Upd.same hS.h
   have fin:∀(t':List XV) (sp1:Sp) (v:XV),bn (VT ρ X.h) t' σ.t->SpR ρ X.h σ sp1->VT ρ X.h v (if t=true then σ.val (gx c.GX) a else σ.val (gx c.GX) b)->K ⟨uI t' dst v,X.h⟩ (jM dst sp1)=some r->b3O c ρ X σ d ok (.pick (.t s) a b) K r (St.put ⟨σ.t,σ.h⟩ dst (if t=true then σ.val (gx c.GX) a else σ.val (gx c.GX) b)):=by
    intro t' sp1 v ht' hsp1 hv hK
    refine⟨ρ,⟨uI t' dst v,X.h⟩,jM dst sp1,qx (X:=X) (kl:=[]) ht' hu hv dst,BI (kl:=[]) hsp1 hu dst _,⟨[],[],by rw[EZ];exact hu,(λ_ _ q=>by simp at q),λ_ _=>⟨rfl,rfl,EZ⟩⟩,hK⟩
   split at hy
   .rename_i v hm
    exact fin X.t sp v hS.t hsp (Yr hm hva hvb) hy
   .cases t with
    |true=>obtain⟨m1,m2⟩:=BD hS hsp ht;exact fin _ _ _ m1.t m2 (hva rfl) hy
    |false=>obtain⟨m1,m2⟩:=BD hS hsp ht;exact fin _ _ _ m1.t m2 (hvb rfl) hy
  split at hx
  .rename_i t hcb
   have hcb:X.t.getD s .any=.d .bool t:=hcb
   rw[hcb]at hvs
   exact go t (tO hvs) hx
  .cases hx
 ·have hx':Mf c d ok X.h (rdG c.GX X.t) (fun x kl h'=>K ⟨uI (Fz kl X.t) dst x,h'⟩ (jM dst (Fy kl sp))) i=some r:=by
   rw[<- hx]
   unfold xun
   split
   .exact absurd ⟨_,_,_,rfl⟩ hp
   .rfl
  refine a0V hc hS.h (Bv hS) hx' ?_
  rintro a H' ⟨ρ',v,kl,h',tch,u1,u2,u3,u4,u5⟩
  exact hQ _ ⟨ρ',_,_,qx hS.t u1 u2 dst,BI hsp u1 dst a,⟨kl,tch,by rw[EZ];exact u1,u3,λp q=>⟨(u4 p q).1,(u4 p q).2.2.2,by rw[EZ];exact(u4 p q).2.1⟩⟩,u5⟩
theorem NH{tt:Nat->Option Ty}(hS:Sim ρ X σ)(hsp:SpR ρ X.h σ sp){s:Nat}{want:Bool}(hg:σ.t.getD s .any=.v (.bool want)){i:I}(hcl:i.cls<=1){p:Bool}{v:XV}(hx:HV c.GX tt X.h X.t sp s want i=some (p,v))(hp:p=true):∃q a,step (gx c.GX) σ i=some (q,a,σ.h)/\q/\VT ρ X.h v a:=by
  by_cases hpk:∃s' a b,i=.pick (.t s') a b
  · obtain ⟨s',a,b,rfl⟩:=hpk
    simp only[HV]at hx
    have hv1:=zK (c:=c) hS hsp (ctx:=[(s,want)]) (by simp only[aV,forall_eq];exact hg) (.t s')
    have go:∀ t:Bool,σ.t.getD s' .any=.v (.bool t)->(match (generalizing:=false) mrg t (rdC c.GX sp [(s',true),(s,want)] X.t a) (rdC c.GX sp [(s',false),(s,want)] X.t b) with
      |some v=>some (true,v)
      |none=>none)=some (p,v)->∃q a',step (gx c.GX) σ (.pick (.t s') a b)=some (q,a',σ.h)/\q/\VT ρ X.h v a':=by
      intro t ht hy
      split at hy
      · rename_i w hm
        cases hy
        refine⟨_,_,KQ ht,trivial,?_⟩
        refine Yr hm (λq=>?_) (λq=>?_)
        .exact zK hS hsp (by simp only[bD,bJ,or_false,forall_eq_or_imp,forall_eq];exact⟨by rw[ht,q],hg⟩) a
        .exact zK hS hsp (by simp only[bD,bJ,or_false,forall_eq_or_imp,forall_eq];exact⟨by rw[ht,q],hg⟩) b
      .cases hy
    split at hx
    · rename_i t hcb
      rw[hcb]at hv1
      exact go t (tO hv1) hx
    .cases hx
  · have hx' : (match ig tt X.h (rdC c.GX sp [(s, want)] X.t) i with
        |some (p,v,_,_)=>some (p,v)
        |none=>none)=some (p,v):=by
      rw[<- hx]
      cases i with
      | pick c' a b=>cases c' with
        |t s'=>exact absurd ⟨_,_,_,rfl⟩ hpk
        |_=>rfl
      |_=>rfl
    split at hx'
    · rename_i p1 v1 q1 q2 hst
      cases hx'
      obtain⟨q,a,H',ρ2,tch,e1,e2,e3,e4,e5⟩:=Dq i hS.h (λo=>zK hS hsp (by simp only[aV,forall_eq];exact hg) o) _ _ _ _ hst hp
      obtain⟨c1,c2⟩:=Dr hcl hst
      subst c1 c2
      have hρ:=Kv e3 hS.h.rl rfl
      have hH:=NV hcl e1
      subst hρ
      rw[hH]at e1
      exact⟨q,a,e1,e2,e4⟩
    .cases hx'
theorem Ce{u s:Nat}{want b:Bool}{v:XV}{a:AV}(hsp:SpR ρ X.h σ sp)(hs:HS ρ X.h σ.h)(hul:u<σ.t.length)(hus:u≠s)(hg:σ.t.getD s .any=.v (.bool b))(hv:(b=want/\VT ρ X.h v a)\/(b≠want/\a=und)):SpR ρ X.h (St.put ⟨σ.t,σ.h⟩ (some u) a) ((u,s,want,v)::jM (some u) sp):=by
 intro q hq
 rcases bD.1 hq with rfl|hq
 .have h1:(St.put ⟨σ.t,σ.h⟩ (some u) a).t.getD u .any=a:=by simp[St.put,List.getD,hul]
  have h2:(St.put ⟨σ.t,σ.h⟩ (some u) a).t.getD s .any=.v (.bool b):=by rw[GJ (by simpa using hus)];exact hg
  show((St.put ⟨σ.t,σ.h⟩ (some u) a).t.getD s .any=.v (.bool want)/\VT ρ X.h v ((St.put ⟨σ.t,σ.h⟩ (some u) a).t.getD u .any))\/((St.put ⟨σ.t,σ.h⟩ (some u) a).t.getD s .any≠.v (.bool want)/\(St.put ⟨σ.t,σ.h⟩ (some u) a).t.getD u .any=und)
  rw[h1,h2]
  rcases hv with⟨rfl,hv⟩|⟨hb,rfl⟩
  .exact .inl ⟨rfl,hv⟩
  .exact .inr ⟨λq=>by cases q;exact hb rfl,rfl⟩
 .exact BI (kl:=[]) hsp (Upd.same hs) (some u) a q hq
theorem Jt(hc:pF P c){d:Bool}{ok:Nat->Bool}{K:XS->Sp->Option β}{ins:Ins}:∀(n:Nat) (X:XS) (sp:Sp) (Q:St->Prop),Sim ρ X σ->SpR ρ X.h σ sp->yH c d ok n X sp K ins=some r->(∀τ,c1p c ρ X σ d ok ins K r τ->Q τ)->fI P (gx c.GX) d σ ins Q:=by
 intro n
 induction n with
 |zero=>intro X sp Q _ _ hx;cases hx
 |succ n ih =>
  intro X sp Q hS hsp hx hQ
  obtain⟨dst,gd,i⟩:=ins
  cases gd with
  |none =>
   show fQ P (gx c.GX) d σ dst Q i
   simp only[yH]at hx
   refine Hz hc hS hsp hx λτ hτ=>hQ τ ?_
   obtain⟨ρ',X',sp',a1,a2,⟨kl,tch,a3,a4,_⟩,a5⟩:=hτ
   exact⟨ρ',X',sp',a1,a2,⟨kl,tch,a3,λ_=>a4⟩,a5⟩
  |some g =>
   obtain⟨s,want⟩:=g
   simp only[yH]at hx
   have hvs:=rP hS.t s
   have hu:=Upd.same hS.h
   have skip:∀(X1:XS) (sp1:Sp),X1.h=X.h->Sim ρ X1 σ->SpR ρ X1.h σ sp1->K ⟨uI X1.t dst kU,X1.h⟩ (jM dst sp1)=some r->Q (σ.put dst und):=by
    intro X1 sp1 he hS1 hsp1 hK
    have hu1:=Upd.same hS1.h
    refine hQ _ ⟨ρ,⟨uI X1.t dst kU,X1.h⟩,jM dst sp1,qx (X:=X1) (kl:=[]) hS1.t hu1 (show VT ρ X1.h kU und from rfl) dst,BI (kl:=[]) hsp1 hu1 dst und,⟨[],[],?_,λq=>by cases q⟩,hK⟩
    have:(σ.put dst und).h=σ.h:=EZ (H':=σ.h)
    rw[this]
    show Upd ρ X.h σ.h ρ X1.h σ.h [] []
    rw[he];exact hu
   have b6u:∀ b:Bool,σ.t.getD s .any=.v (.bool b)->(match (generalizing:=false) I8 i,dst,HV c.GX c.tt X.h X.t sp s want i with
     |true,some u,some (p,v)=>if(Nat.blt u X.t.length&&!(Nat.beq u s))=true then cond (p||not (bEq b want)) (K ⟨X.t.set u .any,X.h⟩ ((u,s,want,v)::jM (some u) sp)) none else none
     |_,_,_=>cond b (Bp c d ok X sp dst s want i K true) (Bp c d ok X sp dst s want i K false))=some r->fI P (gx c.GX) d σ ⟨dst,some (s,want),i⟩ Q:=by
    clear hx
    intro b hg hx
    have hstep:fI P (gx c.GX) d σ ⟨dst,some (s,want),i⟩ Q=if b=want then fQ P (gx c.GX) d σ dst Q i else Q (σ.put dst und):=by
     simp only[fI,hg]
    rw[hstep]
    have NW:Bp c d ok X sp dst s want i K b=some r->if b=want then fQ P (gx c.GX) d σ dst Q i else Q (σ.put dst und):=by
     intro hy
     obtain⟨m1,m2⟩:=BD hS hsp hg
     unfold Bp at hy
     by_cases hw:b=want
     .rw[if_pos hw]
      rw[if_pos (by rw[hw];simp)]at hy
      refine Hz hc m1 m2 hy λτ hτ=>hQ τ ?_
      obtain⟨ρ',X',sp',a1,a2,⟨kl,tch,a3,a4,_⟩,a5⟩:=hτ
      exact⟨ρ',X',sp',a1,a2,⟨kl,tch,a3,λq=>by cases q⟩,a5⟩
     .rw[if_neg hw]
      rw[if_neg (by simpa using hw)]at hy
      exact skip ⟨sV s b sp X.t,X.h⟩ _ rfl m1 m2 hy
    split at hx
    .rename_i u p v hsi hxs
     split at hx
     case isFalse=>cases hx
     rename_i hub
     simp only[aB,iT]at hub
     have hul:=wG hub.1
     have hus:u≠s:=λq=>by subst q;simp at hub
     have Q8:u<σ.t.length:=by rw[<- hS.t.1];exact hul
     obtain⟨hcl,Qa⟩:=KM hsi
     cases hpb:(p||not (bEq b want)) with
     |false=>rw[hpb]at hx;cases hx
     |true =>
      rw[hpb]at hx
      have hx:K ⟨X.t.set u .any,X.h⟩ ((u,s,want,v)::jM (some u) sp)=some r:=hx
      by_cases hw:b=want
      .rw[if_pos hw]
       have hp:p=true:=by
        subst hw
        simpa[bEq]using hpb
       obtain⟨q,a,e1,e2,e4⟩:=NH hS hsp (by rw[hg,hw]) hcl hxs hp
       rw[zl Qa,e1]
       exact⟨e2,hQ _ ⟨ρ,_,_,qx (X:=X) (kl:=[]) hS.t hu (NS _) (some u),Ce hsp hS.h Q8 hus hg (.inl ⟨hw,e4⟩),⟨[],[],hu,λq=>by cases q⟩,hx⟩⟩
      .rw[if_neg hw]
       exact hQ _ ⟨ρ,_,_,qx (X:=X) (kl:=[]) hS.t hu (NS _) (some u),Ce hsp hS.h Q8 hus hg (.inr ⟨hw,rfl⟩),⟨[],[],hu,λq=>by cases q⟩,hx⟩
    .cases b with
     |true=>exact NW hx
     |false=>exact NW hx
   split at hx
   .rename_i b hb
    rw[hb]at hvs
    exact b6u b (tO hvs) hx
   .rename_i xs hb
    rw[hb]at hvs
    have hg:=Ga hvs
    have hstep:fI P (gx c.GX) d σ ⟨dst,some (s,want),i⟩ Q=Q (σ.put dst und):=by simp only[fI,hg]
    rw[hstep]
    exact skip X sp rfl hS hsp hx
   .split at hx
    .rename_i q hq
     have hvq:=rP hS.t q.2.1
     have go:∀b:Bool,σ.t.getD q.2.1 .any=.v (.bool b)->cond b (yH c d ok n ⟨sV q.2.1 true sp X.t,X.h⟩ (wo q.2.1 sp) K ⟨dst,some (s,want),i⟩) (yH c d ok n ⟨sV q.2.1 false sp X.t,X.h⟩ (wo q.2.1 sp) K ⟨dst,some (s,want),i⟩)=some r->fI P (gx c.GX) d σ ⟨dst,some (s,want),i⟩ Q:=by
      intro b hb hy
      obtain⟨m1,m2⟩:=BD hS hsp hb
      have hy':yH c d ok n ⟨sV q.2.1 b sp X.t,X.h⟩ (wo q.2.1 sp) K ⟨dst,some (s,want),i⟩=some r:=by cases b<;>exact hy
      refine ih _ _ Q m1 m2 hy' λτ hτ=>hQ τ ?_
      obtain⟨ρ',X',sp',a1,a2,⟨kl,tch,a3,a4⟩,a5⟩:=hτ
      exact⟨ρ',X',sp',a1,a2,⟨kl,tch,a3,λq=>by cases q⟩,a5⟩
     split at hx
     .rename_i b hb
      rw[hb]at hvq
      exact go b (tO hvq) hx
     .cases hx
    .cases hx
   .cases hx
theorem a4P(hc:pF P c){d:Bool}{K:XS->Option β}{H0:List aH}{ρ0:List Nat}:∀(l:List Ins) (X:XS) (sp:Sp) (ρ:List Nat) (σ:St),Sim ρ X σ->SpR ρ X.h σ sp->Frm H0 ρ0 ρ σ.h->a0U c d K l X sp=some r->tH P (gx c.GX) d (λτ=>∃ρ' X',Sim ρ' X' τ/\Frm H0 ρ0 ρ' τ.h/\K X'=some r) l σ:=by
 intro l
 induction l with
 |nil=>intro X sp ρ σ hS _ hF hx;exact⟨ρ,X,hS,hF,hx⟩
 |cons i l ih =>
  intro X sp ρ σ hS hsp hF hx
  refine Jt hc 8 X sp _ hS hsp hx ?_
  rintro τ ⟨ρ',X',sp',s1,s2,⟨kl,tch,u,_⟩,hK⟩
  exact ih X' sp' ρ' τ s1 s2 (hF.upd hS.h.rl u) hK
end
section
variable{P:Program}{c:Cfg}{ρ:List Nat}{X:XS}{h:List XO}{H:List aH}{σ:St}{β:Type}{r:β}{sp:Sp}{m N:Nat}{U:List Nat}{Gl:Nat->Option (List AV)}{rd:Opd->XV}
theorem a9H{v:XV}{a:AV}(hv:V1 ρ h v a)(hp:Ij v=true):bZ a=(kC v).map λid=>ρ.getD id 0:=by
 cases v with
 |d T x =>
  have hw:Wp a (Ty.enc T x):=hv
  have:=(EN hw []).2
  cases a with
  |agg cs=>rfl
  |_=>exact this
 |k y=>have:a=.v y:=hv;subst this;rfl
 |row id=>obtain⟨ty,T,fz,es,he,rfl⟩:=hv;rfl
 |sub id o l=>obtain⟨ty,T,fz,es,he,rfl⟩:=hv;rfl
 |_=>cases hp
theorem a9G{v:XV}{a:AV}(hv:VT ρ h v a)(hp:OC v=true):dU a=(fE v).map λid=>ρ.getD id 0:=by
 cases v with
 |agg cs =>
  obtain⟨as,rfl,hl⟩:=hv
  show as.flatMap bZ=(cs.flatMap kC).map _
  have hp':cs.all Ij=true:=hp
  clear hp
  induction cs generalizing as with
  |nil=>rw[hl.gT];rfl
  |cons c cs ih =>
   obtain⟨a,as',rfl,h1,h2⟩:=hl.cZ
   simp only[jT,aB]at hp'
   rw[dw,dw,aU,a9H h1 hp'.1,ih as' h2 hp'.2]
 |d T x=>exact(EN (show Wp a (Ty.enc T x) from hv) []).2
 |k y=>have:a=.v y:=hv;subst this;rfl
 |row id=>obtain⟨ty,T,fz,es,he,rfl⟩:=hv;rfl
 |sub id o l=>obtain⟨ty,T,fz,es,he,rfl⟩:=hv;rfl
 |_=>cases hp
theorem a9F:∀{vs:List XV} {as:List AV},bn (VT ρ h) vs as->vs.all OC=true->as.flatMap dU=(vs.flatMap fE).map λid=>ρ.getD id 0:=by
 intro vs
 induction vs with
 |nil=>intro as hl _;rw[hl.gT];rfl
 |cons v vs ih =>
  intro as hl hp
  obtain⟨a,as',rfl,h1,h2⟩:=hl.cZ
  simp only[jT,aB]at hp
  rw[dw,dw,aU,a9G h1 hp.1,ih h2 hp.2]
theorem RI{ok:Nat->Bool}(hrd:∀o,VT ρ h (rd o) (σ.val Gl o)){i:I}(hx:Q7 ok rd i=true):∀id∈i.ids Gl σ,∃j,id=ρ.getD j 0/\ok j=true/\j<h.length:=by
 have one:∀x:Opd,(match rd x with|.ptr id _ _=>ok id|.lp _ _ _=>true|_=>false)=true->∀id∈(match σ.val Gl x with|.ptr id _ _ _=>[id]|_=>[]),∃j,id=ρ.getD j 0/\ok j=true/\j<h.length:=by
  intro x hb id hid
  have hv:=hrd x
  split at hb
  .rename_i j i o hj
   rw[hj]at hv
   obtain⟨ob,he,ha⟩:=hv
   rw[ha]at hid
   simp only[aV]at hid
   exact⟨j,hid,hb,(aj.1 he).1⟩
  .rename_i T y o hj
   rw[hj]at hv
   obtain⟨cs,ha,_⟩:=hv
   rw[ha]at hid
   cases hid
  .cases hb
 have two:∀x:Opd,(match rd x with|.ptr id _ _=>ok id|_=>false)=true->(match rd x with|.ptr id _ _=>ok id|.lp _ _ _=>true|_=>false)=true:=by
  intro x hb
  split at hb
  .rename_i h1;rw[h1];exact hb
  .cases hb
 cases i with
 |load sz ag x=>exact one x hx
 |mQ b st n x k=>exact one x hx
 |b2s x =>
  intro id hid
  have hv:=hrd x
  simp only[Q7]at hx
  simp only[I.ids]at hid
  split at hx
  .rename_i j hj
   rw[hj]at hv
   obtain⟨ty,T,fz,es,he,ha⟩:=hv
   rw[ha]at hid
   simp only[aV]at hid
   exact⟨j,hid,hx,(aj.1 he).1⟩
  .rename_i j o l hj
   rw[hj]at hv
   obtain⟨ty,T,fz,es,he,ha⟩:=hv
   rw[ha]at hid
   simp only[aV]at hid
   exact⟨j,hid,hx,(aj.1 he).1⟩
  .rename_i T y hj
   rw[hj]at hv
   have hw:Wp (σ.val Gl x) (Ty.enc T y):=hv
   split at hid
   .rename_i q
    rw[q]at hw
    exfalso
    cases T<;>first|(cases hw;done)|(cases y<;>cases hw)
   .cases hid
  .rename_i v hj
   rw[hj]at hv
   rw[show σ.val Gl x=.v v from hv]at hid
   cases hid
  .cases hx
 |call fo args =>
  simp only[Q7,aB]at hx
  intro id hid
  simp only[I.ids]at hid
  rw[a9F (Ef (xs:=args) hrd) hx.1]at hid
  obtain⟨j,hj,rfl⟩:=bX.1 hid
  refine⟨j,rfl,aD.1 hx.2 j hj,?_⟩
  obtain⟨v,hv,hjv⟩:=iM.1 hj
  obtain⟨o,ho,rfl⟩:=bX.1 hv
  have hV:=hrd o
  have lt1:∀{v:XV} {a:AV},V1 ρ h v a->∀j∈kC v,j<h.length:=by
   intro v a hv j hj
   cases v with
   |row id=>obtain⟨ty,T,fz,es,he,_⟩:=hv;simp only[kC,aV]at hj;subst hj;exact(aj.1 he).1
   |sub id o l=>obtain⟨ty,T,fz,es,he,_⟩:=hv;simp only[kC,aV]at hj;subst hj;exact(aj.1 he).1
   |_=>cases hj
  generalize rd o=v at hV hjv
  cases v with
  |agg cs =>
   obtain⟨as,_,hl⟩:=hV
   obtain⟨c',hc',hj'⟩:=iM.1 hjv
   obtain⟨k,hk⟩:=List.getElem?_of_mem hc'
   obtain⟨b,_,hb⟩:=hl.lq hk
   exact lt1 hb j hj'
  |row id=>exact lt1 (show V1 ρ h (.row id) _ from hV) j hjv
  |sub id o l=>exact lt1 (show V1 ρ h (.sub id o l) _ from hV) j hjv
  |_=>cases hjv
 |_=>intro id hid;cases hid
theorem b1o{j:Nat}(h:(Nat.blt j m&&!(U.any (Nat.beq j)))=true):j<m/\j∉U:=by
 simp only[aB,iT]at h
 refine⟨wG h.1,λq=>?_⟩
 have:U.any (Nat.beq j)=true:=iO.2 ⟨j,q,Nat.beq_refl j⟩
 rw[this]at h;cases h.2
theorem b5G{j:Nat}(h:(Nat.ble m j||U.any (Nat.beq j))=true):m<=j\/j∈U:=by
 simp only[iI,iO]at h
 rcases h with q|⟨x,hx,q⟩
 .exact .inl (iZ q)
 .have:=beq_eq q;subst this;exact .inr hx
theorem getD_inj(hnd:ρ.Nodup){i j:Nat}(hi:i<ρ.length)(hj:j<ρ.length)(h:ρ.getD i 0=ρ.getD j 0):i=j:=by
 simp only[List.getD,ah hi,ah hj,gF]at h
 exact(List.getElem_inj hnd).1 h
theorem a8M(hc:pF P c){ok:Nat->Bool}(hS:Sim ρ X σ)(hsp:SpR ρ X.h σ sp){K:XS->Sp->Option β}{ins:Ins}{Q:St->Prop}(hcl:ins.i.cls<=1)(hx:xrd c ok X sp K ins=some r)
  (hQ:∀(X':XS) (sp':Sp) (τ:St),Sim ρ X' τ->SpR ρ X'.h τ sp'->X'.h=X.h->τ.h=σ.h->K X' sp'=some r->Q τ):(wants σ ins->∀id∈ins.i.ids (gx c.GX) σ,∃j,id=ρ.getD j 0/\ok j=true/\j<X.h.length)/\fI P (gx c.GX) true σ ins Q:=by
 have hu:=Upd.same hS.h
 obtain⟨dst,gd,i⟩:=ins
 cases gd with
 |none =>
  simp only[xrd]at hx
  split at hx
  case isFalse=>cases hx
  rename_i hid
  refine⟨λ_=>RI (Bv hS) hid,?_⟩
  show fQ P (gx c.GX) true σ dst Q i
  refine Hz hc hS hsp hx λτ hτ=>?_
  obtain⟨ρ',X',sp',a1,a2,⟨kl,tch,a3,_,a4⟩,a5⟩:=hτ
  obtain⟨rfl,e1,e2⟩:=a4 hcl rfl
  exact hQ X' sp' τ a1 a2 e1 e2 a5
 |some g =>
  obtain⟨s,want⟩:=g
  simp only[xrd]at hx
  have hvs:=rP hS.t s
  split at hx
  case h_2=>cases hx
  rename_i b hb
  change Bool at b
  rw[hb]at hvs
  have hg:=tO hvs
  split at hx
  case h_2=>cases hx
  rename_i u p v hsi hxs
  split at hx
  case isFalse=>cases hx
  rename_i hub
  simp only[aB,iT]at hub
  obtain⟨⟨hu1,hu2⟩,hid⟩:=hub
  have hul:=wG hu1
  have hus:u≠s:=λq=>by subst q;simp at hu2
  have Q8:u<σ.t.length:=by rw[<- hS.t.1];exact hul
  refine⟨λhw=>RI (λo=>zK hS hsp (by simp only[aV,forall_eq];exact hw) o) hid,?_⟩
  have hstep:fI P (gx c.GX) true σ ⟨some u,some (s,want),i⟩ Q=if b=want then fQ P (gx c.GX) true σ (some u) Q i else Q (St.put σ (some u) und):=by
   simp only[fI,hg]
  rw[hstep]
  cases hpb:(p||not (bEq b want)) with
  |false=>rw[hpb]at hx;cases hx
  |true =>
   rw[hpb]at hx
   have hx:K ⟨X.t.set u .any,X.h⟩ ((u,s,want,v)::jM (some u) sp)=some r:=hx
   obtain⟨_,Qa⟩:=KM hsi
   have hany:∀a,Sim ρ ⟨X.t.set u .any,X.h⟩ (St.put ⟨σ.t,σ.h⟩ (some u) a):=λa=>qx (X:=X) (kl:=[]) hS.t hu (NS a) (some u)
   by_cases hw:b=want
   .rw[if_pos hw]
    have hp:p=true:=by
     subst hw
     simpa[bEq]using hpb
    obtain⟨q,a,e1,e2,e4⟩:=NH hS hsp (by rw[hg,hw]) hcl hxs hp
    rw[zl Qa,e1]
    exact⟨e2,hQ _ _ (St.put ⟨σ.t,σ.h⟩ (some u) a) (hany a) (Ce hsp hS.h Q8 hus hg (.inl ⟨hw,e4⟩)) rfl rfl hx⟩
   .rw[if_neg hw]
    exact hQ _ _ (St.put ⟨σ.t,σ.h⟩ (some u) und) (hany und) (Ce hsp hS.h Q8 hus hg (.inr ⟨hw,rfl⟩)) rfl rfl hx
theorem a0T(hc:pF P c){K:XS->Option β}{H0:List aH}{ρ0:List Nat}{V:List Nat}:∀(l:List (Nat×Ins)) (X:XS) (sp:Sp) (ρ:List Nat) (σ:St),Sim ρ X σ->SpR ρ X.h σ sp->Frm H0 ρ0 ρ σ.h->(∀i,i<m->i<ρ.length->ρ.getD i 0<N/\(ρ.getD i 0∈V↔i∈U))->(∀i,m<=i->i<ρ.length->N<=ρ.getD i 0)->N<=σ.h.length->m<=X.h.length->
  qU c m U K l X sp=some r->fZ P (gx c.GX) N V (λτ=>∃ρ' X',Sim ρ' X' τ/\Frm H0 ρ0 ρ' τ.h/\K X'=some r) l σ:=by
 intro l
 induction l with
 |nil=>intro X sp ρ σ hS _ hF _ _ _ _ hx;exact⟨ρ,X,hS,hF,hx⟩
 |cons p l ih =>
  intro X sp ρ σ hS hsp hF hA hB hN hM hx
  obtain⟨mk,i⟩:=p
  have next:∀(ρ':List Nat) (X':XS) (sp':Sp) (τ:St) (kl tch:List Nat),Sim ρ' X' τ->SpR ρ' X'.h τ sp'->Upd ρ X.h σ.h ρ' X'.h τ.h kl tch->qU c m U K l X' sp'=some r->fZ P (gx c.GX) N V (λτ=>∃ρ' X',Sim ρ' X' τ/\Frm H0 ρ0 ρ' τ.h/\K X'=some r) l τ:=by
   intro ρ' X' sp' τ kl tch s1 s2 u hK
   obtain⟨n,e,q⟩:=u.ap
   have hml:m<=ρ.length:=by rw[hS.h.rl];exact hM
   refine ih X' sp' ρ' τ s1 s2 (hF.upd hS.h.rl u) (λj hj hj'=>?_) (λj hj hj'=>?_) (bF hN u.ge) (bF hM u.hl) hK
   .rw[e,lG (by omega)];exact hA j hj (by omega)
   .rcases bI j ρ.length with hl|hl
    .rw[e,lG hl];exact hB j hj hl
    .rw[e]at hj' ⊢
     simp only[ak]at hj'
     have:(ρ++n).getD j 0=n[j-ρ.length]'(by omega):=by
      simp only[List.getD]
      rw[aO hl,ah (by omega)];rfl
     rw[this]
     exact bF hN (q _ (jA _))
  match mk with
  |0 =>
   simp only[qU]at hx
   refine Jt hc 8 X sp _ hS hsp hx ?_
   rintro τ ⟨ρ',X',sp',s1,s2,⟨kl,tch,u,_⟩,hK⟩
   exact next ρ' X' sp' τ kl tch s1 s2 u hK
  |1 =>
   simp only[qU]at hx
   split at hx
   case isFalse=>cases hx
   rename_i hcl
   obtain⟨k1,k2⟩:=a8M (Q:=fZ P (gx c.GX) N V (λτ=>∃ρ' X',Sim ρ' X' τ/\Frm H0 ρ0 ρ' τ.h/\K X'=some r) l) hc hS hsp (iZ hcl) hx (λX' sp' τ s1 s2 he hh hK=>ih X' sp' ρ τ s1 s2 (by rw[hh];exact hF) hA hB (by rw[hh];exact hN) (by rw[he];exact hM) hK)
   refine⟨λhw id hid=>?_,k2⟩
   obtain⟨j,rfl,hok,hj⟩:=k1 hw id hid
   obtain⟨o1,o2⟩:=b1o hok
   have:=hA j o1 (by rw[hS.h.rl];exact hj)
   exact⟨this.1,λq=>o2 (this.2.1 q)⟩
  |k+2 =>
   show fI P (gx c.GX) false σ i (λρ=>agree N V σ.h ρ.h/\fZ P (gx c.GX) N V _ l ρ)
   have fin:∀(ρ':List Nat) (X':XS) (sp':Sp) (τ:St) (kl tch:List Nat),Sim ρ' X' τ->SpR ρ' X'.h τ sp'->Upd ρ X.h σ.h ρ' X'.h τ.h kl tch->(∀id∈tch,(Nat.ble m id||U.any (Nat.beq id))=true)->qU c m U K l X' sp'=some r->agree N V σ.h τ.h/\fZ P (gx c.GX) N V (λτ=>∃ρ' X',Sim ρ' X' τ/\Frm H0 ρ0 ρ' τ.h/\K X'=some r) l τ:=by
    intro ρ' X' sp' τ kl tch s1 s2 u hlv hK
    refine⟨?_,next ρ' X' sp' τ kl tch s1 s2 u hK⟩
    intro j hj hjV
    refine u.fr j (by omega) (λid hid hil q=>?_)
    have a2p:id<ρ.length:=by rw[hS.h.rl];exact hil
    rcases b5G (hlv id hid) with r1|r1
    .have:=hB id r1 a2p;omega
    .rcases bI id m with r2|r2
     .exact hjV (q▸(hA id r2 a2p).2.2 r1)
     .have:=hB id r2 a2p;omega
   obtain⟨dst,gd,ii⟩:=i
   cases gd with
   |none =>
    have hx:(if leaves (λid=>Nat.ble m id||U.any (Nat.beq id)) (rdG c.GX X.t) ii=true then yH c false (λid=>Nat.ble m id||U.any (Nat.beq id)) 8 X sp (λX' sp'=>qU c m U K l X' sp') ⟨dst,none,ii⟩ else none)=some r:=hx
    split at hx
    case isFalse=>cases hx
    rename_i hb
    refine Jt hc 8 X sp _ hS hsp hx ?_
    rintro τ ⟨ρ',X',sp',s1,s2,⟨kl,tch,u,hlv⟩,hK⟩
    exact fin ρ' X' sp' τ kl tch s1 s2 u (hlv rfl hb) hK
   |some g =>
    obtain⟨s,want⟩:=g
    have hx:(match X.t.getD s .any with
     |.d .bool b=>cond b (xwr c (λid=>Nat.ble m id||U.any (Nat.beq id)) X sp dst s want ii (λX' sp'=>qU c m U K l X' sp') true) (xwr c (λid=>Nat.ble m id||U.any (Nat.beq id)) X sp dst s want ii (λX' sp'=>qU c m U K l X' sp') false)
     |_=>none)=some r:=hx
    have hvs:=rP hS.t s
    split at hx
    case h_2=>cases hx
    rename_i b hb
    change Bool at b
    rw[hb]at hvs
    have hg:=tO hvs
    have hw:xwr c (λid=>Nat.ble m id||U.any (Nat.beq id)) X sp dst s want ii (λX' sp'=>qU c m U K l X' sp') b=some r:=by
     cases b<;>exact hx
    obtain⟨m1,m2⟩:=BD hS hsp hg
    have hstep:∀Q,fI P (gx c.GX) false σ ⟨dst,some (s,want),ii⟩ Q=if b=want then fQ P (gx c.GX) false σ dst Q ii else Q (σ.put dst und):=by
     intro Q;simp only[fI,hg]
    rw[hstep]
    unfold xwr at hw
    by_cases hbw:b=want
    .rw[if_pos hbw]
     rw[if_pos (by rw[hbw];simp)]at hw
     split at hw
     case isFalse=>cases hw
     rename_i hlv
     refine Hz hc m1 m2 hw λτ hτ=>?_
     obtain⟨ρ',X',sp',a1,a2,⟨kl,tch,a3,a4,_⟩,a5⟩:=hτ
     exact fin ρ' X' sp' τ kl tch a1 a2 a3 (a4 hlv) a5
    .rw[if_neg hbw]
     rw[if_neg (by simpa using hbw)]at hw
     have hu1:=Upd.same m1.h
     refine fin ρ _ _ _ [] [] (qx (X:=⟨sV s b sp X.t,X.h⟩) (kl:=[]) m1.t hu1 (show VT ρ X.h kU und from rfl) dst) (BI (kl:=[]) m2 hu1 dst und) ?_ (λid q=>by simp at q) hw
     have:(σ.put dst und).h=σ.h:=EZ (H':=σ.h)
     show Upd ρ X.h σ.h ρ X.h (σ.put dst und).h [] []
     rw[this];exact Upd.same hS.h
end
end
end
end Abs
end Go.Proofs.YtnhgeocdffhkjaaGreatDoor
