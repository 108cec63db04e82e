/- Merged and trimmed by a program: Abs0 Abs1 Abs2 Abs3 Abs4 Abs5 Abs6 AbsE. -/
import Derived.WalkKit
import Derived.Below
import Derived.Orders
import Derived.Laws.AppendOwn
import Derived.Laws.StructEq
import Derived.Laws.MakeOwn
import Derived.Lib.AppendStr
import Derived.Laws.BytesString
import Derived.Lib.ConvBytes
set_option linter.unusedVariables false
set_option linter.unusedSimpArgs false
set_option linter.defProp false
namespace Go.Proofs.YtnhgeocdffhkjaaGreatDoor
namespace Abs
noncomputable section
section
open Go.RowKit
inductive AV where
 |any
 |v (x:Value)
 |list (sz:Nat) (xs:List AV)
 |bO (cs:List AV)
 |row (id G sz off len:Nat)
 |iX (id G sz len:Nat)
 |ptr (id G i off:Nat)
 |mp (id:Nat)
 |clo (f:Nat) (cs:List AV)
 |agg (cs:List AV)
 |tup (vs:List AV)
 deriving Inhabited
def AV.cells:AV->List AV
 |.agg cs=>cs
 |a=>[a]
structure Ent where
 g:Option Nat
 G:Nat
 sz:Nat
 cap:Nat
structure ah where
 ty:Nat
 sz:Nat
 fz:Nat
 pr:Bool
 es:List AV
 deriving Inhabited
structure St where
 t:List AV
 h:List ah
inductive RP (F:Addr->Option Value):Value->AV->Prop
 |any (x:Value):RP F x .any
 |v (x:Value):RP F x (.v x)
 |nil (sz:Nat):RP F (.slice none 0 0) (.list sz [])
 | list (ad:Addr) (n cap sz:Nat) (xs:List AV) (cv:Nat->Value) (hn:xs.length=n) (hc:n<=cap) (hz:∀ (i:Nat) (e:AV),xs[i]?=some e->e.cells.length=sz)
   (hF:∀(i j:Nat) (e a:AV),xs[i]?=some e->e.cells[j]?=some a->F (ad.add (i*sz+j))=some (cv (i*sz+j))/\(cv (i*sz+j)).oneCell'=true)
   (hR:∀(i j:Nat) (e a:AV),xs[i]?=some e->e.cells[j]?=some a->RP F (cv (i*sz+j)) a):RP F (.slice (some ad) n cap) (.list sz xs)
 | bO (ad:Addr) (cs:List AV) (cv:Nat->Value) (hF:∀ (j:Nat) (a:AV),cs[j]?=some a->F (ad.add j)=some (cv j)/\(cv j).oneCell'=true)
   (hR:∀(j:Nat) (a:AV),cs[j]?=some a->RP F (cv j) a):RP F (.pointer (some ad)) (.bO cs)
 |agg (xs:Array Value) (cs:List AV) (hl:xs.size=cs.length) (h1:∀(j:Nat) (x:Value),xs[j]?=some x->x.oneCell'=true) (hR:∀(j:Nat) (x:Value) (a:AV),xs[j]?=some x->cs[j]?=some a->RP F x a):RP F (.agg xs) (.agg cs)
 |tup (xs:Array Value) (cs:List AV) (hl:xs.size=cs.length) (hR:∀(j:Nat) (x:Value) (a:AV),xs[j]?=some x->cs[j]?=some a->RP F x a):RP F (.tuple xs) (.tup cs)
inductive R (F:Addr->Option Value) (own:List Ent):Value->AV->Prop
 |pure {x:Value} {a:AV} (h:RP F x a):R F own x a
 |row (x:Value) (id G sz off len:Nat) (e:Ent) (he:own[id]?=some e) (hG:G<=e.G) (hs:∃a cap,x=.slice a len cap/\len<=cap/\(0<len\/off≠0->a.isSome=true)) (hx:G=e.G->sz=e.sz/\off+len<=G/\(0<len\/off=0->∃cp,off+cp<=e.cap/\x=.slice (e.g.map λg=>⟨g,off*sz,none⟩) len cp)) (hz:0<e.sz):R F own x (.row id G sz off len)
 |iX (x:Value) (id G sz len:Nat) (e:Ent) (he:own[id]?=some e) (hG:G<=e.G) (hs:∃a,x=.slice a len len/\(0<len->a.isSome=true)) (hx:G=e.G->sz=e.sz/\len<=G/\x=.slice (e.g.map λg=>⟨g,0,none⟩) len len) (hz:0<e.sz):R F own x (.iX id G sz len)
 |ptr (x:Value) (id G i off:Nat) (e:Ent) (he:own[id]?=some e) (hG:G<=e.G) (hs:∃a,x=.pointer (some a)) (hx:G=e.G->∃g,e.g=some g/\x=.pointer (some ⟨g,i*e.sz+off,none⟩)) (hz:0<e.sz):R F own x (.ptr id G i off)
 |mp (x:Value) (id:Nat) (e:Ent) (he:own[id]?=some e) (h0:e.sz=0) (hx:∃g,e.g=some g/\x=.map (some g)):R F own x (.mp id)
 |clo (f:Nat) (xs:Array Value) (cs:List AV) (hl:xs.size=cs.length) (hR:∀(j:Nat) (x:Value) (a:AV),xs[j]?=some x->cs[j]?=some a->R F own x a):R F own (.func (.func f) #[] xs) (.clo f cs)
 |agg (xs:Array Value) (cs:List AV) (hl:xs.size=cs.length) (h1:∀(j:Nat) (x:Value),xs[j]?=some x->x.oneCell'=true) (hR:∀(j:Nat) (x:Value) (a:AV),xs[j]?=some x->cs[j]?=some a->R F own x a):R F own (.agg xs) (.agg cs)
 |tup (xs:Array Value) (cs:List AV) (hl:xs.size=cs.length) (hR:∀(j:Nat) (x:Value) (a:AV),xs[j]?=some x->cs[j]?=some a->R F own x a):R F own (.tuple xs) (.tup cs)
def RC(F:Addr->Option Value)(own:List Ent)(pr:Bool)(y:Value)(a:AV):Prop:=if pr=true then RP F y a else R F own y a
def EF(fr:Nat×Nat)(n:Nat):Prop:=∀j,j<n->¬(fr.1<=j/\j<fr.2)
def a2G(fr:Nat×Nat)(n:Nat)(_:Bool)(fz len:Nat):Prop:=EF fr n\/(fz=len/\0<len)
def aW:Value->AV
 |.agg cs=>.agg (cs.toList.map .v)
 |z=>.v z
def uo(F:Addr->Option Value)(en:MapEntry)(x:AV):Prop:=∃a,x=.agg ((aW en.key).cells++[a])/\(∀cs,en.key=.agg cs->cs.size≠1)/\en.val.oneCell'=true/\RP F en.val a
def a9b(F:Addr->Option Value)(w:World)(e:Ent)(o:ah):Prop :=
 e.sz=0/\o.pr=true/\∃g,e.g=some g/\∃(es:Array MapEntry) (clock:Nat),w.heap[g]?=some (.map es clock)/\es.size=o.es.length/\(∀(i:Nat) (en:MapEntry) (x:AV),es[i]?=some en->o.es[i]?=some x->uo F en x)/\∀j,F ⟨g,j,none⟩=none
def iO(F:Addr->Option Value)(own:List Ent)(w:World)(e:Ent)(o:ah):Prop :=
 e.G=o.es.length/\e.sz=o.sz/\0<o.sz/\e.G<=e.cap/\(e.cap<=maxLen/\(o.pr=false->e.cap=o.es.length))/\o.fz<=o.es.length/\(∀(i:Nat) (x:AV),o.es[i]?=some x->x.cells.length=o.sz)/\
 match e.g with
 |none=>e.cap=0
 | some g=>∃ cs:Array Value,(∃ fr,w.heap[g]?=some (.cells cs o.ty fr)/\a2G fr cs.size o.pr o.fz o.es.length)/\cs.size=e.cap * o.sz /\
   (∀(i j:Nat) (x a:AV),o.es[i]?=some x->x.cells[j]?=some a->∃y,cs[i*o.sz+j]?=some y/\y.oneCell'=true/\RC F own o.pr y a)/\
   (∀j,o.fz*o.sz<=j->F ⟨g,j,none⟩=none)
def iN(F:Addr->Option Value)(own:List Ent)(w:World)(e:Ent)(o:ah):Prop:=(0<o.sz/\iO F own w e o)\/(o.sz=0/\a9b F w e o)
def JY(Gl:Nat->Option (List AV))(F:Addr->Option Value):Prop:=∀g cs,Gl g=some cs->RP F (.pointer (some ⟨g,0,none⟩)) (.bO cs)
def GlW(Gl:Nat->Option (List AV))(B:Nat)(w:World):Prop:=∀g cs,Gl g=some cs->g<B/\∃vs ty fr,w.heap[g]?=some (.cells vs ty fr)/\vs.size=cs.length
structure PdE where
 obj:Obj
 e:Ent
 ob:ah
 ok:∀(F:Addr->Option Value) (own:List Ent) (w:World),(∀g,e.g=some g->w.heap[g]?=some obj/\∀j,F ⟨g,j,none⟩=none)->iN F own w e ob
structure W0 where
 w:World
 F:Addr->Option Value
 N:Nat
 fr:List (Nat×Value×AV)
 hfr:∀q∈fr,q.1<=N
 pd:List PdE
 pdn:pd.Pairwise λa b=>∀g,a.e.g=some g->b.e.g≠some g
 df:List Deferred
def qR(own:List Ent)(g:Nat):Prop:=∀(id:Nat) (e:Ent),own[id]?=some e->e.g≠some g
def yQ(B:Nat)(l:List PdE)(F:Addr->Option Value)(own:List Ent)(w:World):Prop:=∀q∈l,∀g,q.e.g=some g->w.heap[g]?=some q.obj/\(∀j,F ⟨g,j,none⟩=none)/\qR own g/\B<=g
structure Inv (Gl:Nat->Option (List AV)) (F:Addr->Option Value) (own:List Ent) (B:Nat) (w0:W0) (σ:St) (act:Act) (w:World):Prop where
 tl:act.tmps.size=σ.t.length
 tr:∀(i:Nat) (x:Value) (a:AV),act.tmps[i]?=some x->σ.t[i]?=some a->R F own x a
 defers:act.defers=w0.df
 sub:∀a x,F a=some x->w.cell? a=some x
 hl:own.length=σ.h.length
 objs:∀(id:Nat) (e:Ent) (o:ah),own[id]?=some e->σ.h[id]?=some o->iN F own w e o
 inj:∀(i j:Nat) (e e':Ent) (g:Nat),own[i]?=some e->own[j]?=some e'->e.g=some g->e'.g=some g->i=j
 below:Below B w0.w w
 base:∀(id:Nat) (e:Ent) (g:Nat),own[id]?=some e->e.g=some g->B<=g
 gl:JY Gl F
 gw:GlW Gl B w0.w
 room:B<=w0.w.heap.size
 ext:∀(ad:Addr) (y:Value),F ad=some y->w0.F ad=some y\/B<=ad.block
 dW:∀(ad:Addr) (y:Value),w0.F ad=some y->F ad=some y
 nl:w0.N<=σ.h.length
 fr:∀q∈w0.fr,R F (own.take q.1) q.2.1 q.2.2
 pd:yQ B w0.pd F own w
inductive Opd where
 |t (i:Nat)
 |k (x:Value)
 |g (i:Nat)
 deriving Inhabited
@[reducible] def Opd.fn (f:FuncId):Opd:=.k (.func (.func f) #[] #[])
inductive KT where
 |int (k:IntKind)
 |str
 |arr (n:Nat) (k:IntKind)
 deriving Inhabited
def KT.n:KT->Nat
 |.arr n _=>n
 |_=>1
def okI(k:IntKind):AV->Bool
 |.v (.int k' _)=>decide (k'=k)
 |_=>false
def KT.ok:KT->List AV->Bool
 |.int k,[a]=>okI k a
 |.str,[.v (.string _)]=>true
 |.arr n k,cs=>Nat.beq cs.length n&&cs.all (okI k)
 |_,_=>false
def O7:AV->Bool
 |.agg cs=>!(Nat.beq cs.length 1)
 |_=>true
def eqC:AV->AV->Bool
 |.v (.int _ a),.v (.int _ b)=>a==b
 |.v (.string a),.v (.string b)=>a.toList==b.toList
 |_,_=>false
def kZ:List AV->List AV->Bool
 |[],[]=>true
 |a::as,b::bs=>eqC a b&&kZ as bs
 |_,_=>false
def KT.uK(kt:KT):AV->Bool
 |.agg cs=>Nat.beq cs.length (kt.n+1)&&kt.ok (cs.take kt.n)
 |_=>false
def jE(n:Nat)(k:List AV):List AV->Nat->Option (Nat×AV)
 |[],_=>none
 |.agg cs::es,i=>if kZ k (cs.take n)=true then some (i,cs.getD n .any) else jE n k es (i+1)
 |_::es,i=>jE n k es (i+1)
inductive I where
 |mov (x:Opd)
 |pick (c a b:Opd)
 |bin (op:BinOp) (x y:Opd)
 |beq (neg:Bool) (x y:Opd)
 |qy (neg:Bool) (x:Opd)
 |aeq (neg:Bool) (fs:List (Nat×Nat)) (x y:Opd)
 |un (op:UnOp) (x:Opd)
 |conv (k:IntKind) (x:Opd)
 |fld (off sz:Nat) (ag:Bool) (x:Opd)
 |ext (i:Nat) (x:Opd)
 |nu (off:Nat) (x:Opd)
 |jD (sz:Nat) (x i:Opd)
 |load (sz:Nat) (ag:Bool) (x:Opd)
 |store (sz:Nat) (x y:Opd)
 |slice (sz:Nat) (x:Opd) (lo hi:Option Opd)
 |slice3 (sz:Nat) (x hi mx:Opd)
 |jw (x:Opd) (lo hi:Option Opd)
 |len (x:Opd)
 |qd (x:Opd)
 |nck (x:Opd)
 |idx (x i:Opd)
 |rV (sz:Nat) (ag:Bool) (n:Nat) (x i:Opd)
 |app (ty sz bytes:Nat) (s x:Opd)
 |apps (ty bytes:Nat) (s x:Opd)
 |b2s (x:Opd)
 |s2b (ty:Nat) (x:Opd)
 |gI (ty sz:Nat) (xs:List Opd)
 |sJ (ty sz:Nat) (xs:List Opd)
 |uZ (ty:Nat) (xs:List Opd)
 |bsc (ty:Nat) (xs:List Opd)
 |build (zero:List Value) (parts:List (Nat×Nat×Opd))
 |box (ty sz:Nat) (x:Opd)
 |alloc (ty:Nat) (zero:Value)
 |mk (ty sz bytes:Nat) (zero:Value) (n:Opd)
 |alloca (ty sz n:Nat) (zero:Value)
 |jf (bsz st n:Nat) (x i:Opd)
 |aslice (bsz n:Nat) (x:Opd) (lo hi:Option Opd)
 |om (n:Nat) (x:Opd) (lo hi:Option Opd)
 |copy (sz:Nat) (d s:Opd)
 |mk2 (ty sz bytes:Nat) (zero:Value) (l c:Opd)
 |mmk (ty:Nat) (hint:Option Opd)
 |og (kt:KT) (ok:Bool) (zero:Value) (m k:Opd)
 |mJ (kt:KT) (m k v:Opd)
 |min2 (x y:Opd)
 |max2 (x y:Opd)
 |clo (f:FuncId) (xs:List Opd)
 |vg (ty sz:Nat) (k:IntKind) (x:Opd)
 |call (fn:Opd) (args:List Opd)
 deriving Inhabited
structure Ins where
 dst:Option Nat
 gd:Option (Nat×Bool)
 i:I
 deriving Inhabited
inductive C where
 |skip
 |ops (draw:Bool) (l:List Ins)
 |kD (l:List (Nat×Ins))
 |seq (a b:C)
 |cond (c:Opd) (a b:C)
 |block (id:Nat) (b:C)
 |loop (b:C)
 |exit (id:Nat)
 |ret
 deriving Inhabited
def St.val(Gl:Nat->Option (List AV))(σ:St):Opd->AV
 |.t i=>σ.t.getD i .any
 |.k x=>.v x
 |.g i=>match Gl i with
  |some cs=>.bO cs
  |none=>.any
def St.put(σ:St)(d:Option Nat)(a:AV):St :=
 match d with
 |some i=>{ σ with t:=σ.t.set i a }
 |none=>σ
def sc1:AV->Bool
 |.v x=>x.oneCell'
 |_=>false
def lT:BinOp->Value->Value->Option (Prop×Value)
 |.add,.int k a,.int k' b=>if k=k' then some (True,.int k (k.wrap (a+b))) else none
 |.sub,.int k a,.int k' b=>if k=k' then some (True,.int k (k.wrap (a-b))) else none
 |.mul,.int k a,.int k' b=>if k=k' then some (True,.int k (k.wrap (a*b))) else none
 |.quo,.int k a,.int k' b=>if k=k' then some (b≠0,.int k (k.wrap (a.tdiv b))) else none
 |.rem,.int k a,.int k' b=>if k=k' then some (b≠0,.int k (a.tmod b)) else none
 |.and,.int k a,.int k' b=>if k=k' then some (True,.int k (k.wrap (BitVec.ofInt k.bits a&&& BitVec.ofInt k.bits b).toNat)) else none
 |.or,.int k a,.int k' b=>if k=k' then some (True,.int k (k.wrap (BitVec.ofInt k.bits a||| BitVec.ofInt k.bits b).toNat)) else none
 |.xor,.int k a,.int k' b=>if k=k' then some (True,.int k (k.wrap (BitVec.ofInt k.bits a ^^^ BitVec.ofInt k.bits b).toNat)) else none
 |.shl,.int k a,.int _ b=>some (0<=b,.int k (k.wrap (a*2^(min b.toNat k.bits))))
 |.shr,.int k a,.int _ b=>some (0<=b,.int k (a.fdiv (2^(min b.toNat k.bits))))
 |.eql,.int k a,.int k' b=>if k=k' then some (True,.bool (a==b)) else none
 |.neq,.int k a,.int k' b=>if k=k' then some (True,.bool (a != b)) else none
 |.lss,.int k a,.int k' b=>if k=k' then some (True,.bool (a<b)) else none
 |.leq,.int k a,.int k' b=>if k=k' then some (True,.bool (a<=b)) else none
 |.gtr,.int k a,.int k' b=>if k=k' then some (True,.bool (b<a)) else none
 |.geq,.int k a,.int k' b=>if k=k' then some (True,.bool (b<=a)) else none
 |.add,.string a,.string b=>some (a.size+b.size<=9223372036854775807,.string (a++b))
 |.eql,.string a,.string b=>some (True,.bool (a.toList==b.toList))
 |.neq,.string a,.string b=>some (True,.bool !(a.toList==b.toList))
 |.lss,.string a,.string b=>some (True,.bool (Op.bytesLess a.toList b.toList))
 |.leq,.string a,.string b=>some (True,.bool (Op.bytesLess a.toList b.toList||a.toList==b.toList))
 |.gtr,.string a,.string b=>some (True,.bool !(Op.bytesLess a.toList b.toList||a.toList==b.toList))
 |.geq,.string a,.string b=>some (True,.bool !(Op.bytesLess a.toList b.toList))
 |_,_,_=>none
def eq1:Nat->AV->AV->Option Bool
 |1,.v (.int k a),.v (.int k' b)=>if k=k' then some (a==b) else none
 |2,.v (.bool a),.v (.bool b)=>some (a==b)
 |3,.v (.string a),.v (.string b)=>some (a.toList==b.toList)
 |_,_,_=>none
def eqA(xs ys:List AV):List (Nat×Nat)->Option Bool
 |[]=>some true
 | (i,c) :: fs=>if c=0 then eqA xs ys fs else match eq1 c (xs.getD i .any) (ys.getD i .any),eqA xs ys fs with
   |some a,some b=>some (a&&b)
   |_,_=>none
def unV:UnOp->Value->Option Value
 |.neg,.int k n=>some (.int k (k.wrap (0-n)))
 |.not,.bool b=>some (.bool !b)
 |_,_=>none
def setCells(e:AV)(o:Nat)(cs:List AV):AV :=
 match e with
 |.agg es=>.agg (es.take o++cs++es.drop (o+cs.length))
 |_=>cs.headD .any
def st1(pr:Bool):AV->Bool
 |.v x=>x.oneCell'
 |.list _ _|.bO _=>true
 |.row ..|.ptr ..|.mp ..|.clo ..=>!pr
 |_=>false
def bJ(pr:Bool):AV->Option (List AV)
 |.agg cs=>if cs.all (st1 pr) then some cs else none
 |a=>if st1 pr a then some [a] else none
def iM(h:List ah):AV->Option AV
 |.any=>none
 |.v x=>if x.oneCell' then some (.v x) else none
 |.list sz xs=>some (.list sz xs)
 |.bO cs=>some (.bO cs)
 |.row id G sz off len=>match h[id]? with
  |some o=>if o.es.length=G/\o.sz=sz/\o.pr=true then some (.list sz ((o.es.drop off).take len)) else none
  |none=>none
 |_=>none
def gu(h:List ah):List AV->Option (List AV)
 |[]=>some []
 |a::l=>match iM h a,gu h l with
  |some b,some m=>some (b::m)
  |_,_=>none
def dN(h:List ah):AV->Option AV
 |.agg cs=>(gu h cs).map .agg
 |a=>iM h a
def aX(h:List ah):List AV->Option (List AV)
 |[]=>some []
 |a::l=>match dN h a,aX h l with
  |some b,some m=>some (b::m)
  |_,_=>none
def qP(h:List ah):AV->Option AV
 |.tup vs=>(aX h vs).map .tup
 |a=>dN h a
def jc:AV->List Nat
 |.row id _ _ _ _=>[id]
 |_=>[]
def aR:AV->List Nat
 |.agg cs=>cs.flatMap jc
 |a=>jc a
def freeze(h:List ah)(ids:List Nat):List ah:=ids.foldl (λh id=>match h[id]? with|some o=>h.set id { o with fz:=o.es.length }|none=>h) h
def dh(h:List ah)(sz:Nat):AV->Option (List AV)
 |.list sz' xs=>if sz'=sz then some xs else none
 |.v (.slice none 0 0)=>some []
 |.row id G sz' off len=>match h[id]? with
  |some o=>if o.es.length=G/\sz'=sz/\o.sz=sz/\o.pr=true then some ((o.es.drop off).take len) else none
  |none=>none
 |_=>none
def asN:AV->Option Int
 |.v (.int _ n)=>some n
 |_=>none
def fB(n:Nat)(lo hi:Option AV):Option (Prop×Int×Int) :=
 match(match lo with|none=>some 0|some a=>asN a),(match hi with|none=>some (n:Int)|some a=>asN a) with
 |some l,some h=>some (0<=l/\l<=h/\h<=n,l,h)
 |_,_=>none
def kJ:AV->Bool
 |.v _=>true
 |_=>false
def scalar:AV->Bool
 |.v _=>true
 |.agg cs=>cs.all kJ
 |.tup vs=>vs.all λa=>match a with|.v _=>true|.agg cs=>cs.all kJ|_=>false
 |_=>false
def iJ(Gl:Nat->Option (List AV))(σ:St):List AV->List (Nat×Nat×Opd)->Option (List AV)
 |cs,[]=>some cs
 |cs,(off,sz,x)::r=>match bJ false (σ.val Gl x) with
  |some vs=>if vs.length=sz/\off+sz<=cs.length then iJ Gl σ (cs.take off++vs++cs.drop (off+sz)) r else none
  |none=>none
def fu:Nat:=140737488355328
def bN(s:ByteArray):List AV:=s.data.toList.map λc=>.v (.int .u8 c.toNat)
def byteOf:AV->Option UInt8
 |.v (.int .u8 n)=>some (UInt8.ofNat n.toNat)
 |_=>none
def bytesOf:List AV->Option (List UInt8)
 |[]=>some []
 |a::l=>match byteOf a,bytesOf l with
  |some b,some m=>some (b::m)
  |_,_=>none
def nL(h:List ah)(ty sz bytes:Nat)(a:AV)(ys:List AV):Option (Prop×AV×List ah) :=
 match a with
 |.v (.slice none 0 0)=>some (ys.length*bytes<=fu/\ys.length<=4611686018427387904,.row h.length ys.length sz 0 ys.length,h++[⟨ty,sz,0,true,ys⟩])
 |.row id G sz' off len=>match h[id]? with
  | some ob=>if ob.es.length=G/\sz'=sz/\ob.ty=ty/\ob.sz=sz/\off=0/\ob.pr=true/\ob.fz=0 then
    some (len=G/\(G+ys.length)*bytes<=fu/\G+ys.length<=4611686018427387904,.row id (G+ys.length) sz 0 (G+ys.length),h.set id { ob with es:=ob.es++ys })
   else none
  |none=>none
 |.iX id G sz' len=>match h[id]? with
  | some ob=>if ob.es.length=G/\sz'=sz/\ob.sz=sz/\ob.pr=true then
    if ys.isEmpty then some (True,.row id G sz 0 len,h)
    else some ((len+ys.length)*bytes<=fu/\len+ys.length<=4611686018427387904,.row h.length (len+ys.length) sz 0 (len+ys.length),h++[⟨ty,sz,0,true,ob.es.take len++ys⟩])
   else none
  |none=>none
 |_=>none
def step(Gl:Nat->Option (List AV))(σ:St):I->Option (Prop×AV×List ah)
 |.mov x=>some (True,σ.val Gl x,σ.h)
 |.pick c a b=>match σ.val Gl c with
  |.v (.bool t)=>some (True,if t then σ.val Gl a else σ.val Gl b,σ.h)
  |_=>none
 |.bin op x y=>match σ.val Gl x,σ.val Gl y with
  |.v a,.v b=>(lT op a b).map fun(p,r)=>(p,.v r,σ.h)
  |_,_=>none
 |.beq neg x y=>match σ.val Gl x,σ.val Gl y with
  |.v (.bool a),.v (.bool b)=>some (True,.v (.bool (if neg then !(a==b) else a==b)),σ.h)
  |_,_=>none
 |.qy neg x=>match σ.val Gl x with
  |.list _ xs=>some (xs≠[],.v (.bool neg),σ.h)
  |.v (.slice none 0 0)=>some (True,.v (.bool !neg),σ.h)
  |.row _ _ _ _ len=>some (0<len,.v (.bool neg),σ.h)
  |_=>none
 |.aeq neg fs x y=>match σ.val Gl x,σ.val Gl y with
  |.agg xs,.agg ys=>(eqA xs ys fs).map λb=>(True,.v (.bool (if neg then !b else b)),σ.h)
  |_,_=>none
 |.un op x=>match σ.val Gl x with
  |.v a=>(unV op a).map λr=>(True,.v r,σ.h)
  |_=>none
 |.conv k x=>match σ.val Gl x with
  |.v (.int _ n)=>some (True,.v (.int k (k.wrap n)),σ.h)
  |_=>none
 |.fld off sz ag x=>match σ.val Gl x with
  |.agg cs=>if ag then(if off+sz<=cs.length then some (True,.agg ((cs.drop off).take sz),σ.h) else none) else(cs[off]?).map λa=>(True,a,σ.h)
  |_=>none
 |.ext i x=>match σ.val Gl x with
  |.tup vs=>(vs[i]?).map λa=>(True,a,σ.h)
  |_=>none
 |.nu off x=>match σ.val Gl x with
  |.ptr id G i o=>some (True,.ptr id G i (o+off),σ.h)
  |.bO cs=>some (True,.bO (cs.drop off),σ.h)
  |_=>none
 |.jD sz x i=>match σ.val Gl x,σ.val Gl i with
  |.list sz' xs,.v (.int _ n)=>if sz'=sz then some (0<=n/\n<xs.length,.bO (xs.getD n.toNat .any).cells,σ.h) else none
  |.row id G sz' off len,.v (.int _ n)=>if sz'=sz then some (0<=n/\n<len,.ptr id G (off+n.toNat) 0,σ.h) else none
  |_,_=>none
 |.load sz ag x=>match σ.val Gl x with
  |.bO cs=>if ag then(if sz<=cs.length then some (True,.agg (cs.take sz),σ.h) else none) else cs.head?.map λa=>(True,a,σ.h)
  |.ptr id G i o=>match σ.h[id]? with
   | some ob=>if ob.es.length=G then
     if ag then some (o+sz<=ob.sz/\i<G,.agg (((ob.es.getD i .any).cells.drop o).take sz),σ.h)
     else some (o<ob.sz/\i<G,(ob.es.getD i .any).cells.getD o .any,σ.h)
    else none
   |none=>none
  |_=>none
 |.store sz x y=>match σ.val Gl x with
  |.ptr id G i o=>match σ.h[id]? with
   | some ob=>if ob.es.length=G then
     match bJ ob.pr (σ.val Gl y) with
     |some cs=>if cs.length=sz then some (o+sz<=ob.sz/\i<G/\ob.fz<=i,.any,σ.h.set id { ob with es:=ob.es.set i (setCells (ob.es.getD i .any) o cs) }) else none
     |none=>match dN σ.h (σ.val Gl y),(freeze σ.h (aR (σ.val Gl y)))[id]? with
      |some b,some oc=>match bJ oc.pr b with
       |some cs=>if cs.length=sz then some (o+sz<=oc.sz/\i<G/\oc.fz<=i,.any,(freeze σ.h (aR (σ.val Gl y))).set id { oc with es:=oc.es.set i (setCells (oc.es.getD i .any) o cs) }) else none
       |none=>none
      |_,_=>none
    else none
   |none=>none
  |_=>none
 |.slice sz x lo hi=>match σ.val Gl x with
  |.list sz' xs=>if sz'=sz then(fB xs.length (lo.map (σ.val Gl)) (hi.map (σ.val Gl))).map fun(p,l,h)=>(p,.list sz ((xs.take h.toNat).drop l.toNat),σ.h) else none
  |.v (.slice none 0 0)=>(fB 0 (lo.map (σ.val Gl)) (hi.map (σ.val Gl))).map fun(p,_,_)=>(p,.v (.slice none 0 0),σ.h)
  |.row id G sz' off len=>if sz'=sz then(fB len (lo.map (σ.val Gl)) (hi.map (σ.val Gl))).map fun(p,l,h)=>(p,.row id G sz (off+l.toNat) (h-l).toNat,σ.h) else none
  |_=>none
 |.slice3 sz x hi mx=>match σ.val Gl x,σ.val Gl hi,σ.val Gl mx with
  |.row id G sz' off len,.v (.int _ n),.v (.int _ m)=>if sz'=sz/\off=0 then some (0<=n/\n<=len/\m=n,.iX id G sz n.toNat,σ.h) else none
  |_,_,_=>none
 |.jw x lo hi=>match σ.val Gl x with
  |.v (.string s)=>(fB s.size (lo.map (σ.val Gl)) (hi.map (σ.val Gl))).map fun(p,l,h)=>(p,.v (.string (s.extract l.toNat h.toNat)),σ.h)
  |_=>none
 |.len x=>match σ.val Gl x with
  |.list _ xs=>some (True,.v (.int .i64 xs.length),σ.h)
  |.row _ _ _ _ len=>some (True,.v (.int .i64 len),σ.h)
  |.v (.slice none 0 0)=>some (True,.v (.int .i64 0),σ.h)
  |_=>none
 |.nck x=>match σ.val Gl x with
  |.ptr id G i o=>some (True,.ptr id G i o,σ.h)
  |.bO cs=>some (True,.bO cs,σ.h)
  |_=>none
 |.qd x=>match σ.val Gl x with
  |.v (.string s)=>some (True,.v (.int .i64 s.size),σ.h)
  |_=>none
 |.idx x i=>match σ.val Gl x,σ.val Gl i with
  |.v (.string s),.v (.int _ n)=>some (0<=n/\n<s.size,.v (.int .u8 (s.data.getD n.toNat 0).toNat),σ.h)
  |_,_=>none
 |.rV sz ag n x i=>match σ.val Gl x,σ.val Gl i with
  |.agg cs,.v (.int _ m)=>if cs.length=n*sz then(if ag=true then some (0<=m/\m<n,.agg ((cs.drop (m.toNat*sz)).take sz),σ.h) else some ((0<=m/\m<n)/\m.toNat*sz<cs.length,cs.getD (m.toNat*sz) .any,σ.h)) else none
  |_,_=>none
 |.app ty sz bytes s x=>match dh σ.h sz (σ.val Gl x) with
  |some ys=>nL σ.h ty sz bytes (σ.val Gl s) ys
  |none=>none
 |.apps ty bytes s x=>match σ.val Gl x with
  |.v (.string b)=>nL σ.h ty 1 bytes (σ.val Gl s) (bN b)
  |_=>none
 |.b2s x=>match dh σ.h 1 (σ.val Gl x) with
  |some ys=>(bytesOf ys).map λl=>(True,.v (.string ⟨l.toArray⟩),σ.h)
  |none=>none
 |.s2b ty x=>match σ.val Gl x with
  |.v (.string b)=>some (b.size<=4611686018427387904,.row σ.h.length b.size 1 0 b.size,σ.h++[⟨ty,1,0,true,bN b⟩])
  |_=>none
 |.gI ty sz xs=>match aX σ.h (xs.map (σ.val Gl)) with
  | some ys=>if ys.all (fun y=>y.cells.length == sz) then
    some (True,.row σ.h.length ys.length sz 0 ys.length,freeze σ.h ((xs.map (σ.val Gl)).flatMap aR)++[⟨ty,sz,0,true,ys⟩]) else none
  |none=>none
 |.sJ _ sz xs=>match aX σ.h (xs.map (σ.val Gl)) with
  |some ys=>if ys.all (λy=>y.cells.length==sz)&&(xs.map (σ.val Gl)).all (λa=>(aR a).isEmpty) then some (True,.list sz ys,σ.h) else none
  |none=>none
 |.uZ ty xs=>if(xs.map (σ.val Gl)).all (st1 false) then some (True,.row σ.h.length xs.length 1 0 xs.length,σ.h++[⟨ty,1,0,false,xs.map (σ.val Gl)⟩]) else none
 |.bsc ty xs=>if(xs.map (σ.val Gl)).all sc1=true then some (True,.row σ.h.length xs.length 1 0 xs.length,σ.h++[⟨ty,1,0,true,xs.map (σ.val Gl)⟩]) else none
 |.build zero parts=>(iJ Gl σ (zero.map .v) parts).map λcs=>(True,.agg cs,σ.h)
 |.box ty sz x=>match bJ false (σ.val Gl x) with
  |some cs=>if cs.length=sz then some (True,.ptr σ.h.length 1 0 0,σ.h++[⟨ty,sz,0,false,[σ.val Gl x]⟩]) else none
  |none=>none
 |.alloc ty zero=>some (True,.ptr σ.h.length 1 0 0,σ.h++[⟨ty,zero.cells.size,0,false,[aW zero]⟩])
 |.mk ty sz bytes zero n=>match σ.val Gl n with
  |.v (.int .i64 n)=>some (0<=n/\n*bytes<=fu/\n<=4611686018427387904,.row σ.h.length n.toNat sz 0 n.toNat,σ.h++[⟨ty,sz,0,true,List.replicate n.toNat (aW zero)⟩])
  |_=>none
 |.alloca ty sz n zero=>some (True,.ptr σ.h.length n 0 0,σ.h++[⟨ty,sz,0,true,List.replicate n (aW zero)⟩])
 |.jf bsz st n x i=>match σ.val Gl x,σ.val Gl i with
  |.ptr id G j o,.v (.int _ m)=>match σ.h[id]? with
   |some ob=>if o=0/\ob.sz=bsz then some (0<=m/\m<n,.ptr id G (j+m.toNat*st) 0,σ.h) else if st=1/\bsz=1 then some (0<=m/\m<n,.ptr id G j (o+m.toNat),σ.h) else none
   |none=>none
  |.bO cs,.v (.int _ m)=>some (0<=m/\m<n,.bO ((cs.drop (m.toNat*(st*bsz))).take (st*bsz)),σ.h)
  |_,_=>none
 |.aslice bsz n x lo hi=>match σ.val Gl x with
  |.ptr id G j o=>match σ.h[id]? with
   |some ob=>if o=0/\ob.sz=bsz then(fB n (lo.map (σ.val Gl)) (hi.map (σ.val Gl))).map fun(p,l,u)=>(p/\j+n<=G,.row id G bsz (j+l.toNat) (u-l).toNat,σ.h)
    else if bsz=1/\ob.es.length=G/\ob.es.all (λe=>e.cells.all kJ)=true/\ob.pr=true/\ob.fz=ob.es.length then(fB n (lo.map (σ.val Gl)) (hi.map (σ.val Gl))).map fun(p,l,u)=>(p/\o+n<=ob.sz/\j<G,.list 1 ((((ob.es.getD j .any).cells.drop o).take u.toNat).drop l.toNat),σ.h) else none
   |none=>none
  |_=>none
 |.om n x lo hi=>match σ.val Gl x with
  |.ptr id G j o=>match σ.h[id]? with
   |some ob=>if ob.es.length=G/\ob.es.all (λe=>e.cells.all kJ)=true then(fB n (lo.map (σ.val Gl)) (hi.map (σ.val Gl))).map fun(p,l,u)=>(p/\o+n<=ob.sz/\j<G,.list 1 ((((ob.es.getD j .any).cells.drop o).take u.toNat).drop l.toNat),σ.h.set id { ob with pr:=true,fz:=ob.es.length }) else none
   |none=>none
  |_=>none
 |.copy sz d s=>match dh σ.h sz (σ.val Gl s) with
  |some ys=>match σ.val Gl d with
   |.row id G sz' off len=>match σ.h[id]? with
    | some ob=>if ob.es.length=G/\sz'=sz/\ob.sz=sz/\ob.pr=true/\ob.fz=0 then
      some (ob.fz<=off,.v (.int .i64 (min ys.length len:Nat)),σ.h.set id { ob with es:=ob.es.take off++ys.take len++ob.es.drop (off+(ys.take len).length) })
     else none
    |none=>none
   |_=>none
  |none=>none
 |.mk2 ty sz bytes zero l c=>match σ.val Gl l,σ.val Gl c with
  |.v (.int .i64 l),.v (.int .i64 c)=>some (0<=l/\l<=c/\c*bytes<=fu/\c<=4611686018427387904,.row σ.h.length l.toNat sz 0 l.toNat,σ.h++[⟨ty,sz,0,true,List.replicate l.toNat (aW zero)⟩])
  |_,_=>none
 |.mmk ty hint=>match hint.map (σ.val Gl) with
  |none=>some (True,.mp σ.h.length,σ.h++[⟨ty,0,0,true,[]⟩])
  |some (.v (.int _ _))=>some (True,.mp σ.h.length,σ.h++[⟨ty,0,0,true,[]⟩])
  |_=>none
 |.og kt ok zero m k=>match σ.val Gl m with
  |.mp id=>match σ.h[id]? with
   | some ob=>if ob.sz=0/\kt.ok (σ.val Gl k).cells=true/\ob.es.all kt.uK=true/\O7 (σ.val Gl k)=true then match jE kt.n (σ.val Gl k).cells ob.es 0 with
     |some (_,v)=>some (True,if ok=true then .tup [v,.v (.bool true)] else v,σ.h)
     |none=>some (True,if ok=true then .tup [.v zero,.v (.bool false)] else .v zero,σ.h)
    else none
   |none=>none
  |_=>none
 |.mJ kt m k v=>match σ.val Gl m with
  |.mp id=>match σ.h[id]? with
   | some ob=>if ob.sz=0/\kt.ok (σ.val Gl k).cells=true/\ob.es.all kt.uK=true/\st1 true (σ.val Gl v)=true/\O7 (σ.val Gl k)=true then match jE kt.n (σ.val Gl k).cells ob.es 0 with
     |some (i,_)=>some (True,.any,σ.h.set id { ob with es:=ob.es.set i (.agg ((σ.val Gl k).cells++[σ.val Gl v])),pr:=true })
     |none=>some (True,.any,σ.h.set id { ob with es:=ob.es++[.agg ((σ.val Gl k).cells++[σ.val Gl v])],pr:=true })
    else none
   |none=>none
  |_=>none
 |.min2 x y=>match σ.val Gl x,σ.val Gl y with
  |.v (.int k a),.v (.int _ b)=>some (True,.v (.int k (min a b)),σ.h)
  |_,_=>none
 |.max2 x y=>match σ.val Gl x,σ.val Gl y with
  |.v (.int k a),.v (.int _ b)=>some (True,.v (.int k (max a b)),σ.h)
  |_,_=>none
 |.clo f xs=>some (True,.clo f (xs.map (σ.val Gl)),σ.h)
 |.vg ty sz _ x=>match σ.val Gl x with
  |.agg cs=>if cs.length=sz/\2<=sz/\cs.all kJ=true then some (True,.ptr σ.h.length 1 0 0,σ.h++[⟨ty,sz,1,true,[.agg cs]⟩]) else none
  |_=>none
 |.call _ _=>none
theorem RP.mono{F F':Addr->Option Value}{x:Value}{a:AV}(h:RP F x a)(hF:∀ad y,F ad=some y->F' ad=some y):RP F' x a:=by
 induction h with
 |any x=>exact .any x
 |v x=>exact .v x
 |nil sz=>exact .nil sz
 |list ad n cap sz xs cv hn hc hz hf _ ih=>exact .list ad n cap sz xs cv hn hc hz (λi j e a h1 h2=>⟨hF _ _ (hf i j e a h1 h2).1,(hf i j e a h1 h2).2⟩) ih
 |bO ad cs cv hf _ ih=>exact .bO ad cs cv (λj a h=>⟨hF _ _ (hf j a h).1,(hf j a h).2⟩) ih
 |agg xs cs hl h1 _ ih=>exact .agg xs cs hl h1 ih
 |tup xs cs hl _ ih=>exact .tup xs cs hl ih
def Le(own own':List Ent):Prop:=∀(id:Nat) (e:Ent),own[id]?=some e->∃e',own'[id]?=some e'/\(e'=e\/(e.G<e'.G/\0<e.sz/\0<e'.sz))
theorem Le.refl(own:List Ent):Le own own:=λ_ e h=>⟨e,h,.inl rfl⟩
theorem Le.snoc(own l:List Ent):Le own (own++l):=λid e h=>⟨e,by
 have:=(List.getElem?_eq_some_iff.1 h).1
 rw[List.getElem?_append_left this];exact h,.inl rfl⟩
theorem Le.len{a b:List Ent}(h:Le a b):a.length<=b.length:=by
 rcases Nat.lt_or_ge b.length a.length with q|q
 .obtain⟨e,he,_⟩:=h b.length a[b.length] (List.getElem?_eq_getElem q)
  rw[List.getElem?_eq_none (Nat.le_refl _)]at he
  cases he
 .exact q
theorem Le.take{a b:List Ent}(h:Le a b)(n:Nat):Le (a.take n) (b.take n):=λid e he=>by
 rw[List.getElem?_take]at he
 split at he
 .rename_i hid
  obtain⟨e',h1,h2⟩:=h id e he
  exact⟨e',by rw[List.getElem?_take,if_pos hid];exact h1,h2⟩
 .cases he
theorem Le.DR(a:List Ent)(n:Nat):Le (a.take n) a:=λid e he=>by
 rw[List.getElem?_take]at he
 split at he
 .exact⟨e,he,.inl rfl⟩
 .cases he
theorem Le.trans{a b c:List Ent}(h:Le a b)(k:Le b c):Le a c:=λid e he=>by
 obtain⟨e',h1,h2⟩:=h id e he
 obtain⟨e'',h3,h4⟩:=k id e' h1
 refine⟨e'',h3,?_⟩
 rcases h2 with rfl|h2<;>rcases h4 with rfl|h4
 .exact .inl rfl
 .exact .inr h4
 .exact .inr h2
 .exact .inr ⟨by omega,h2.2.1,h4.2.2⟩
theorem R.mono{F F':Addr->Option Value}{own own':List Ent}{x:Value}{a:AV}(h:R F own x a)(hF:∀ad y,F ad=some y->F' ad=some y)(ho:Le own own'):R F' own' x a:=by
 induction h with
 |pure h=>exact .pure (h.mono hF)
 |row x id G sz off len e he hG hs hx hz =>
  obtain⟨e',h1,h2⟩:=ho id e he
  rcases h2 with rfl|h2
  .exact .row x id G sz off len _ h1 hG hs hx hz
  .exact .row x id G sz off len _ h1 (by omega) hs (λq=>by omega) h2.2.2
 |iX x id G sz len e he hG hs hx hz =>
  obtain⟨e',h1,h2⟩:=ho id e he
  rcases h2 with rfl|h2
  .exact .iX x id G sz len _ h1 hG hs hx hz
  .exact .iX x id G sz len _ h1 (by omega) hs (λq=>by omega) h2.2.2
 |ptr x id G i off e he hG hs hx hz =>
  obtain⟨e',h1,h2⟩:=ho id e he
  rcases h2 with rfl|h2
  .exact .ptr x id G i off _ h1 hG hs hx hz
  .exact .ptr x id G i off _ h1 (by omega) hs (λq=>by omega) h2.2.2
 |mp x id e he h0 hx =>
  obtain⟨e',h1,h2⟩:=ho id e he
  rcases h2 with rfl|h2
  .exact .mp x id _ h1 h0 hx
  .omega
 |clo f xs cs hl _ ih=>exact .clo f xs cs hl ih
 |agg xs cs hl h1 _ ih=>exact .agg xs cs hl h1 ih
 |tup xs cs hl _ ih=>exact .tup xs cs hl ih
section
variable{F:Addr->Option Value}{own:List Ent}{x:Value}
theorem R.aH{y:Value}(h:R F own x (.v y)):x=y:=by
 cases h with|pure h=>cases h;rfl
theorem R.dw{sz:Nat}{xs:List AV}(h:R F own x (.list sz xs)):RP F x (.list sz xs):=by
 cases h with|pure h=>exact h
theorem R.jM{cs:List AV}(h:R F own x (.bO cs)):RP F x (.bO cs):=by
 cases h with|pure h=>exact h
theorem R.fP{id G sz off len:Nat}(h:R F own x (.row id G sz off len)):∃e,own[id]?=some e/\G<=e.G/\(∃a cap,x=.slice a len cap/\len<=cap/\(0<len\/off≠0->a.isSome=true))/\(G=e.G->sz=e.sz/\off+len<=G/\(0<len\/off=0->∃cp,off+cp<=e.cap/\x=.slice (e.g.map λg=>⟨g,off*sz,none⟩) len cp)):=by
 cases h with
 |pure h=>cases h
 |row _ _ _ _ _ _ e he hG hs hx=>exact⟨e,he,hG,hs,hx⟩
theorem R.Bb{id G sz len:Nat}(h:R F own x (.iX id G sz len)):∃e,own[id]?=some e/\G<=e.G/\(∃a,x=.slice a len len/\(0<len->a.isSome=true))/\(G=e.G->sz=e.sz/\len<=G/\x=.slice (e.g.map λg=>⟨g,0,none⟩) len len):=by
 cases h with
 |pure h=>cases h
 |iX _ _ _ _ _ e he hG hs hx=>exact⟨e,he,hG,hs,hx⟩
theorem R.iT{id G i off:Nat}(h:R F own x (.ptr id G i off)):∃e,own[id]?=some e/\G<=e.G/\(∃a,x=.pointer (some a))/\(G=e.G->∃g,e.g=some g/\x=.pointer (some ⟨g,i*e.sz+off,none⟩)):=by
 cases h with
 |pure h=>cases h
 |ptr _ _ _ _ _ e he hG hs hx=>exact⟨e,he,hG,hs,hx⟩
theorem R.iG{id G sz off len:Nat}(h:R F own x (.row id G sz off len)){e:Ent}(he:own[id]?=some e):0<e.sz:=by
 cases h with
 |pure h=>cases h
 |row _ _ _ _ _ _ e' he' hG hs hx hz=>rw[he]at he';cases he';exact hz
theorem R.lG{id G sz len:Nat}(h:R F own x (.iX id G sz len)){e:Ent}(he:own[id]?=some e):0<e.sz:=by
 cases h with
 |pure h=>cases h
 |iX _ _ _ _ _ e' he' hG hs hx hz=>rw[he]at he';cases he';exact hz
theorem R.gH{id G i off:Nat}(h:R F own x (.ptr id G i off)){e:Ent}(he:own[id]?=some e):0<e.sz:=by
 cases h with
 |pure h=>cases h
 |ptr _ _ _ _ _ e' he' hG hs hx hz=>rw[he]at he';cases he';exact hz
theorem R.vG{id:Nat}(h:R F own x (.mp id)):∃e,own[id]?=some e/\e.sz=0/\∃g,e.g=some g/\x=.map (some g):=by
 cases h with
 |pure h=>cases h
 |mp _ _ e he h0 hx=>exact⟨e,he,h0,hx⟩
theorem R.bB{cs:List AV}(h:R F own x (.agg cs)):∃xs,x=.agg xs/\xs.size=cs.length/\(∀(j:Nat) (x:Value),xs[j]?=some x->x.oneCell'=true)/\(∀(j:Nat) (x:Value) (a:AV),xs[j]?=some x->cs[j]?=some a->R F own x a):=by
 cases h with
 |pure h=>cases h with|agg xs cs hl h1 hR=>exact⟨xs,rfl,hl,h1,λj x a p q=>.pure (hR j x a p q)⟩
 |agg xs cs hl h1 hR=>exact⟨xs,rfl,hl,h1,hR⟩
theorem R.mY{cs:List AV}(h:R F own x (.tup cs)):∃xs,x=.tuple xs/\xs.size=cs.length/\(∀(j:Nat) (x:Value) (a:AV),xs[j]?=some x->cs[j]?=some a->R F own x a):=by
 cases h with
 |pure h=>cases h with|tup xs cs hl hR=>exact⟨xs,rfl,hl,λj x a p q=>.pure (hR j x a p q)⟩
 |tup xs cs hl hR=>exact⟨xs,rfl,hl,hR⟩
theorem R.sQ{f:Nat}{cs:List AV}(h:R F own x (.clo f cs)):∃xs,x=.func (.func f) #[] xs/\xs.size=cs.length/\(∀(j:Nat) (x:Value) (a:AV),xs[j]?=some x->cs[j]?=some a->R F own x a):=by
 cases h with
 |pure h=>cases h
 |clo f xs cs hl hR=>exact⟨xs,rfl,hl,hR⟩
def AV.one:AV->Bool
 |.v x=>x.oneCell'
 |.list _ _|.bO _=>true
 |_=>false
end
theorem RC.mono{F F':Addr->Option Value}{own own':List Ent}{pr:Bool}{x:Value}{a:AV}(h:RC F own pr x a)(hF:∀ad y,F ad=some y->F' ad=some y)(ho:Le own own'):RC F' own' pr x a:=by
 unfold RC at *
 split
 .rename_i q;rw[if_pos q]at h;exact h.mono hF
 .rename_i q;rw[if_neg q]at h;exact h.mono hF ho
theorem RC.r{F:Addr->Option Value}{own:List Ent}{pr:Bool}{x:Value}{a:AV}(h:RC F own pr x a):R F own x a:=by
 unfold RC at h
 split at h
 .exact .pure h
 .exact h
theorem iO.mono {F F':Addr->Option Value} {own own':List Ent} {w w':World} {e:Ent} {o:ah} (h:iO F own w e o) (hF:∀ ad y,F ad=some y->F' ad=some y) (ho:Le own own')
  (hb:∀g,e.g=some g->w'.heap[g]?=w.heap[g]?) (hf:∀g j,e.g=some g->o.fz*o.sz<=j->F' ⟨g,j,none⟩=none):iO F' own' w' e o:=by
 obtain⟨h1,h2,h3,h4,h5,h5',h6,h7⟩:=h
 refine⟨h1,h2,h3,h4,h5,h5',h6,?_⟩
 cases hg:e.g with
 |none=>rw[hg]at h7;exact h7
 |some g =>
  rw[hg]at h7
  obtain⟨cs,k1,k2,k3,k4⟩:=h7
  obtain⟨fr,k1,kf⟩:=k1
  refine⟨cs,⟨fr,(hb g hg).trans k1,kf⟩,k2,λi j x a p q=>?_,λj hj=>hf g j hg hj⟩
  obtain⟨y,a1,a2,a3⟩:=k3 i j x a p q
  exact⟨y,a1,a2,a3.mono hF ho⟩
theorem uo.mono{F F':Addr->Option Value}{en:MapEntry}{x:AV}(h:uo F en x)(hF:∀ad y,F ad=some y->F' ad=some y):uo F' en x:=by
 obtain⟨a,h1,h2,h3,h4⟩:=h
 exact⟨a,h1,h2,h3,h4.mono hF⟩
theorem iN.mono {F F':Addr->Option Value} {own own':List Ent} {w w':World} {e:Ent} {o:ah} (h:iN F own w e o) (hF:∀ ad y,F ad=some y->F' ad=some y) (ho:Le own own')
  (hb:∀g,e.g=some g->w'.heap[g]?=w.heap[g]?) (hf:∀g j,e.g=some g->o.fz*o.sz<=j->F' ⟨g,j,none⟩=none):iN F' own' w' e o:=by
 rcases h with⟨h0,h⟩|⟨h0,h1,h2,g,hg,es,clock,k1,k2,k3,k4⟩
 .exact .inl ⟨h0,h.mono hF ho hb hf⟩
 .exact .inr ⟨h0,h1,h2,g,hg,es,clock,(hb g hg).trans k1,k2,λi en x p q=>(k3 i en x p q).mono hF,λj=>hf g j hg (by rw[h0];omega)⟩
theorem iN.fz{F:Addr->Option Value}{own:List Ent}{w:World}{o:ah}{e:Ent}(h:iN F own w e o){g:Nat}(hg:e.g=some g){j:Nat}(hj:o.fz*o.sz<=j):F ⟨g,j,none⟩=none:=by
 rcases h with⟨_,h⟩|⟨_,_,_,g',hg',es,clock,_,_,_,k4⟩
 .have:=h.2.2.2.2.2.2.2
  rw[hg]at this
  obtain⟨_,_,_,_,k⟩:=this
  exact k j hj
 .rw[hg]at hg'
  cases hg'
  exact k4 j
theorem iN.c{F:Addr->Option Value}{own:List Ent}{w:World}{e:Ent}{o:ah}(h:iN F own w e o)(h0:0<o.sz):iO F own w e o:=by
 rcases h with⟨_,h⟩|⟨h1,_⟩
 .exact h
 .omega
theorem iO.r{F:Addr->Option Value}{own:List Ent}{w:World}{e:Ent}{o:ah}(h:iO F own w e o):iN F own w e o:=.inl ⟨h.2.2.1,h⟩
theorem iN.esz{F:Addr->Option Value}{own:List Ent}{w:World}{e:Ent}{o:ah}(h:iN F own w e o):e.sz=o.sz:=by
 rcases h with⟨_,h⟩|⟨h1,h2,_⟩
 .exact h.2.1
 .rw[h1,h2]
theorem iO.fz{F:Addr->Option Value}{own:List Ent}{w:World}{o:ah}{e:Ent}(h:iO F own w e o){g:Nat}(hg:e.g=some g){j:Nat}(hj:o.fz*o.sz<=j):F ⟨g,j,none⟩=none:=h.r.fz hg hj
theorem iN.qx{F:Addr->Option Value}{own:List Ent}{w:World}{e:Ent}{o:ah}(h:iN F own w e o)(h0:0<e.sz):iO F own w e o:=h.c (by rw[<- h.esz];exact h0)
section
variable{Gl:Nat->Option (List AV)}{F F':Addr->Option Value}{own own':List Ent}{B:Nat}{w0:W0}{σ:St}{act:Act}{w w':World}
theorem Inv.eval(h:Inv Gl F own B w0 σ act w)(x:Operand)(y:Opd)(hxy:(match x with|.tmp t=>some (Opd.t t)|.const v=>some (.k v)|.global g=>some (.g g)|.func f=>some (.k (.func (.func f) #[] #[])))=some y):R F own (act.eval x) (σ.val Gl y):=by
 cases x with
 |tmp t =>
  obtain rfl:=Option.some.inj hxy
  show R F own (act.tmps.getD t undef) (σ.t.getD t .any)
  by_cases ht:t<act.tmps.size
  .have ht':t<σ.t.length:=by rw[<- h.tl];exact ht
   have e1:act.tmps[t]?=some (act.tmps.getD t undef):=by simp[Array.getD,ht]
   have e2:σ.t[t]?=some (σ.t.getD t .any):=by simp[List.getD,List.getElem?_eq_getElem ht']
   exact h.tr t _ _ e1 e2
  .have ht':¬t<σ.t.length:=by rw[<- h.tl];exact ht
   have e2:σ.t.getD t .any=.any:=by simp[List.getD,List.getElem?_eq_none (Nat.le_of_not_lt ht')]
   rw[e2]
   exact .pure (.any _)
 |const v =>
  obtain rfl:=Option.some.inj hxy
  exact .pure (.v v)
 |global g =>
  obtain rfl:=Option.some.inj hxy
  show R F own (.pointer (some ⟨g,0,none⟩)) (match Gl g with|some cs=>.bO cs|none=>.any)
  cases hg:Gl g with
  |none=>exact .pure (.any _)
  |some cs=>exact .pure (h.gl g cs hg)
 |func f =>
  obtain rfl:=Option.some.inj hxy
  exact .pure (.v _)
theorem Inv.put(h:Inv Gl F own B w0 σ act w){x:Value}{a:AV}(hx:R F own x a)(d:Option Nat):Inv Gl F own B w0 (σ.put d a) (act.put d x) w:=by
 cases d with
 |none=>exact h
 |some i =>
  have e:(act.put (some i) x).tmps=act.tmps.setIfInBounds i x:=rfl
  refine{ h with tl:=?_,tr:=?_ }
  .show(act.tmps.setIfInBounds i x).size=(σ.t.set i a).length
   simp[h.tl]
  .intro j y b hy hb
   rw[e,Array.getElem?_setIfInBounds]at hy
   have hb':(σ.t.set i a)[j]?=some b:=hb
   rw[List.getElem?_set]at hb'
   by_cases hij:i=j
   .subst hij
    rw[if_pos rfl]at hb' hy
    split at hy
    .split at hb'
     .obtain rfl:=Option.some.inj hy
      obtain rfl:=Option.some.inj hb'
      exact hx
     .cases hb'
    .cases hy
   .rw[if_neg hij]at hb' hy
    exact h.tr j y b hy hb'
theorem yQ.turn {l:List PdE} (h:yQ B l F own w) (hw:∀ g,g < w.heap.size->qR own g->w'.heap[g]?=w.heap[g]?) (hF:∀ g j y,F' ⟨g,j,none⟩=some y->F ⟨g,j,none⟩=some y\/¬ qR own g\/w.heap.size<=g)
  (ho:∀(id:Nat) (e:Ent) (g:Nat),own'[id]?=some e->e.g=some g->¬qR own g\/w.heap.size<=g):yQ B l F' own' w':=by
 intro q hq g hg
 obtain⟨h1,h2,h3,h4⟩:=h q hq g hg
 have hlt:g<w.heap.size:=(Array.getElem?_eq_some_iff.1 h1).1
 refine⟨(hw g hlt h3).trans h1,λj=>?_,λid e he hg'=>?_,h4⟩
 .cases hf:F' ⟨g,j,none⟩with
  |none=>rfl
  |some y =>
   rcases hF g j y hf with r|r|r
   .rw[h2 j]at r;cases r
   .exact absurd h3 r
   .omega
 .rcases ho id e g he hg' with r|r
  .exact absurd h3 r
  .omega
theorem Inv.turn (h : Inv Gl F own B w0 σ act w) {h' : List ah} (hF : ∀ ad y, F ad = some y -> F' ad = some y) (ho : Le own own') (hs : ∀ a x, F' a = some x -> w'.cell? a = some x) (hl : own'.length = h'.length)
    (hob:∀(id:Nat) (e:Ent) (o:ah),own'[id]?=some e->h'[id]?=some o->iN F' own' w' e o)
    (hij:∀(i j:Nat) (e e':Ent) (g:Nat),own'[i]?=some e->own'[j]?=some e'->e.g=some g->e'.g=some g->i=j) (hb:Below B w0.w w')
    (hbs:∀(id:Nat) (e:Ent) (g:Nat),own'[id]?=some e->e.g=some g->B<=g) (hex:∀(ad:Addr) (y:Value),F' ad=some y->F ad=some y\/B<=ad.block:=by exact λ_ _ q=>.inl q)
    (hpw:∀g,g<w.heap.size->qR own g->w'.heap[g]?=w.heap[g]?:=by exact λ_ _ _=>rfl) (hpF:∀g j y,F' ⟨g,j,none⟩=some y->F ⟨g,j,none⟩=some y\/¬qR own g\/w.heap.size<=g:=by exact λ_ _ _ q=>.inl q)
    (hpo:∀(id:Nat) (e:Ent) (g:Nat),own'[id]?=some e->e.g=some g->¬qR own g\/w.heap.size<=g:=by exact λid e g p q=>.inl λr=>r id e p q):Inv Gl F' own' B w0 ⟨σ.t,h'⟩ act w' :=
  { tl:=h.tl,tr:=λi x a p q=>(h.tr i x a p q).mono hF ho,defers:=h.defers,sub:=hs,hl:=hl,objs:=hob,inj:=hij,below:=hb,base:=hbs,gl:=λg cs q=>(h.gl g cs q).mono hF,gw:=h.gw,room:=h.room,ext:=λad y q=>(hex ad y q).elim (h.ext ad y) .inr,dW:=λad y q=>hF ad y (h.dW ad y q),nl:=by have:=h.nl;have:=ho.len;have:=h.hl;simp only;omega,fr:=λq hq=>(h.fr q hq).mono hF (ho.take _),pd:=yQ.turn h.pd hpw hpF hpo }
theorem Inv.same(h:Inv Gl F own B w0 σ act w)(hw:w'.heap=w.heap)(h1:w'.os=w.os)(h2:w'.tape=w.tape)(h3:w'.output=w.output):Inv Gl F own B w0 σ act w':=by
 have hc:∀a,w'.cell? a=w.cell? a:=λa=>by unfold World.cell?;rw[hw]
 refine h.turn (h':=σ.h) (λ_ _ q=>q) (Le.refl _) (λa x q=>(hc a).trans (h.sub a x q)) h.hl (λid e o p q=>(h.objs id e o p q).mono (λ_ _ r=>r) (Le.refl _) (λg _=>by rw[hw]) (λg j hg hj=>?_)) h.inj ?_ h.base (hpw:=λ_ _ _=>by rw[hw])
 .exact(h.objs id e o p q).fz hg hj
 .exact⟨h1.trans h.below.os,h2.trans h.below.tape,h3.trans h.below.output,by rw[hw];exact h.below.size,λk hk=>by rw[hw];exact h.below.block k hk⟩
theorem MS(n:Nat):EF (0,0) n:=λj _ q=>by have:=q.2;simp at this
theorem iO.yM {o : ah} {e : Ent} (h : iO F own w e o) {g : Nat} (hg : e.g = some g) : ∃ (cs : Array Value) (fr : Nat × Nat), w.heap[g]? = some (.cells cs o.ty fr) /\ a2G fr cs.size o.pr o.fz o.es.length /\ cs.size = e.cap * o.sz /\
      (∀(i j:Nat) (x a:AV),o.es[i]?=some x->x.cells[j]?=some a->∃y,cs[i*o.sz+j]?=some y/\y.oneCell'=true/\RC F own o.pr y a):=by
  have:=h.2.2.2.2.2.2.2
  rw[hg]at this
  obtain⟨cs,⟨fr,a,q⟩,b,c,_⟩:=this
  exact⟨cs,fr,a,q,b,c⟩
theorem iO.blk {o : ah} {e : Ent} (h : iO F own w e o) {g : Nat} (hg : e.g = some g) (hop : o.fz = 0 \/ o.fz ≠ o.es.length) : ∃ (cs : Array Value) (fr : Nat × Nat), w.heap[g]? = some (.cells cs o.ty fr) /\ EF fr cs.size /\ cs.size = e.cap * o.sz /\
      (∀(i j:Nat) (x a:AV),o.es[i]?=some x->x.cells[j]?=some a->∃y,cs[i*o.sz+j]?=some y/\y.oneCell'=true/\RC F own o.pr y a):=by
  obtain⟨cs,fr,a,q,b,c⟩:=h.yM hg
  refine⟨cs,fr,a,?_,b,c⟩
  rcases q with q|⟨q1,q2⟩
  .exact q
  · rcases hop with r | r
    .omega
    .exact absurd q1 r
theorem iN.lt{o:ah}{e:Ent}(h:iN F own w e o){g:Nat}(hg:e.g=some g):g<w.heap.size:=by
 rcases h with⟨_,h⟩|⟨_,_,_,g',hg',es,clock,a,_⟩
 .obtain⟨cs,fr,a,_⟩:=h.yM hg
  exact(Array.getElem?_eq_some_iff.1 a).1
 .rw[hg]at hg'
  cases hg'
  exact(Array.getElem?_eq_some_iff.1 a).1
theorem iO.lt{o:ah}{e:Ent}(h:iO F own w e o){g:Nat}(hg:e.g=some g):g<w.heap.size:=h.r.lt hg
theorem Inv.lD(h:Inv Gl F own B w0 σ act w){id:Nat}{e:Ent}(he:own[id]?=some e):∃o,σ.h[id]?=some o/\iN F own w e o:=by
 have hlt:=(List.getElem?_eq_some_iff.1 he).1
 have hlt':id<σ.h.length:=by rw[<- h.hl];exact hlt
 exact⟨σ.h[id],List.getElem?_eq_getElem hlt',h.objs id e _ he (List.getElem?_eq_getElem hlt')⟩
theorem Inv.vE(h:Inv Gl F own B w0 σ act w){id:Nat}{o:ah}(ho:σ.h[id]?=some o):∃e,own[id]?=some e/\iN F own w e o:=by
 have hlt:=(List.getElem?_eq_some_iff.1 ho).1
 have hlt':id<own.length:=by rw[h.hl];exact hlt
 exact⟨own[id],List.getElem?_eq_getElem hlt',h.objs id _ o (List.getElem?_eq_getElem hlt') ho⟩
theorem Inv.tN(h:Inv Gl F own B w0 σ act w){id:Nat}{e:Ent}{g:Nat}(he:own[id]?=some e)(hg:e.g=some g):g<w.heap.size:=by
 obtain⟨o,_,k⟩:=h.lD he
 exact k.lt hg
theorem Inv.qK(h:Inv Gl F own B w0 σ act w){a:Addr}{x:Value}(hx:F a=some x):a.block<w.heap.size:=World.block_lt_of_cell? w a (h.sub a x hx)
theorem Ah{e0:Ent}{n:Nat}(hn:∀g,e0.g=some g->n<=g):∀(id:Nat) (e:Ent) (g:Nat),(own++[e0])[id]?=some e->e.g=some g->¬qR own g\/n<=g:=λid e g p q=>by
 rcases Nat.lt_or_ge id own.length with hid|hid
 .rw[List.getElem?_append_left hid]at p
  exact .inl λr=>r id e p q
 .rw[List.getElem?_append_right hid]at p
  have h0:id-own.length=0:=by
   rcases Nat.eq_zero_or_pos (id-own.length) with h0|h0
   .exact h0
   .rw[List.getElem?_eq_none (by simp;omega)]at p;cases p
  rw[h0]at p
  simp at p
  subst p
  exact .inr (hn g q)
theorem Inv.new (h:Inv Gl F own B w0 σ act w) (cs:Array Value) (o:ah) (cap:Nat) (hsz:0 < o.sz) (hfz:o.fz=0) (hcap:o.es.length<=cap) (hm:cap<=maxLen) (hes:∀ (i:Nat) (x:AV),o.es[i]?=some x->x.cells.length=o.sz)
  (hcs:cs.size=cap*o.sz) (hR:∀(i j:Nat) (x a:AV),o.es[i]?=some x->x.cells[j]?=some a->∃y,cs[i*o.sz+j]?=some y/\y.oneCell'=true/\RC F own o.pr y a) (hbx:o.pr=false->cap=o.es.length:=by intro q;first|rfl|(cases q;done)|(simp;done)) :
  Inv Gl F (own++[⟨some w.heap.size,o.es.length,o.sz,cap⟩]) B w0 ⟨σ.t,σ.h++[o]⟩ act (w.alloc (.cells cs o.ty)):=by
 have hnew:=heap_alloc_new w (.cells cs o.ty)
 refine h.turn (λ_ _ q=>q) (Le.snoc _ _) (λa x q=>?_) (by simp[h.hl]) (λid e o' p q=>?_) (λi j e e' g p q r s=>?_) (h.below.alloc (Nat.le_trans h.room h.below.size) _) (λid e g p q=>?_) (hpw:=λg hg _=>Below.heap_alloc _ _ _ hg) (hpo:=Ah λg q=>by cases q;exact Nat.le_refl _)
 .rw[World.cell?_alloc_lt _ _ _ (h.qK q)];exact h.sub a x q
 .rcases Nat.lt_or_ge id own.length with hid|hid
  .rw[List.getElem?_append_left hid]at p
   rw[List.getElem?_append_left (by rw[<- h.hl];exact hid)]at q
   have k:=h.objs id e o' p q
   exact k.mono (λ_ _ r=>r) (Le.snoc _ _) (λg hg=>Below.heap_alloc _ _ _ (k.lt hg)) (λg j hg hj=>k.fz hg hj)
  .rw[List.getElem?_append_right hid]at p
   rw[List.getElem?_append_right (by rw[<- h.hl];exact hid),<- h.hl]at q
   have h0:id-own.length=0:=by
    rcases Nat.eq_zero_or_pos (id-own.length) with h0|h0
    .exact h0
    .rw[List.getElem?_eq_none (by simp;omega)]at p;cases p
   rw[h0]at p q
   simp at p q
   subst p q
   refine iO.r ⟨rfl,rfl,hsz,hcap,⟨hm,hbx⟩,by omega,hes,⟨cs,⟨_,hnew,.inl (MS _)⟩,hcs,λi j x a p q=>?_,λj _=>?_⟩⟩
   .obtain⟨y,a1,a2,a3⟩:=hR i j x a p q
    exact⟨y,a1,a2,a3.mono (λ_ _ r=>r) (Le.snoc _ _)⟩
   .rcases hF:F ⟨w.heap.size,j,none⟩with _|y
    .rfl
    .have:=h.qK hF;simp at this
 ·have key:∀ (i:Nat) (e:Ent),(own ++ [(⟨some w.heap.size,o.es.length,o.sz,cap⟩:Ent)])[i]?=some e->e.g=some g->(i < own.length/\own[i]?=some e/\g < w.heap.size)\/(i=own.length/\g=w.heap.size):=by
   intro i e p r
   rcases Nat.lt_or_ge i own.length with hid|hid
   .rw[List.getElem?_append_left hid]at p
    exact .inl ⟨hid,p,h.tN p r⟩
   .rw[List.getElem?_append_right hid]at p
    have h0:i-own.length=0:=by
     rcases Nat.eq_zero_or_pos (i-own.length) with h0|h0
     .exact h0
     .rw[List.getElem?_eq_none (by simp;omega)]at p;cases p
    rw[h0]at p
    simp at p
    subst p
    simp at r
    exact .inr ⟨by omega,r.symm⟩
  rcases key i e p r with⟨a1,a2,a3⟩|⟨a1,a2⟩<;>rcases key j e' q s with⟨b1,b2,b3⟩|⟨b1,b2⟩
  .exact h.inj i j e e' g a2 b2 r s
  .omega
  .omega
  .omega
 .rcases Nat.lt_or_ge id own.length with hid|hid
  .rw[List.getElem?_append_left hid]at p
   exact h.base id e g p q
  .rw[List.getElem?_append_right hid]at p
   have h0:id-own.length=0:=by
    rcases Nat.eq_zero_or_pos (id-own.length) with h0|h0
    .exact h0
    .rw[List.getElem?_eq_none (by simp;omega)]at p;cases p
   rw[h0]at p
   simp at p
   subst p
   simp at q
   subst q
   exact Nat.le_trans h.room h.below.size
theorem Inv.mark (h:Inv Gl F own B w0 σ act w) {w':World} {g:Nat} (h1:w'.os=w.os) (h2:w'.tape=w.tape) (h3:w'.output=w.output) (hoth:∀ k,k ≠ g->w'.heap[k]?=w.heap[k]?)
  (hg:∃cs ty fr fr',w.heap[g]?=some (.cells cs ty fr)/\w'.heap[g]?=some (.cells cs ty fr')/\EF fr' cs.size/\w.heap.size=w'.heap.size) (hB:B<=g) (hgo:¬qR own g):Inv Gl F own B w0 σ act w':=by
 obtain⟨cs,ty,fr,fr',e1,e2,e3,e4⟩:=hg
 have hc:∀a,w'.cell? a=w.cell? a:=λa=>by
  unfold World.cell?
  by_cases q:a.block=g
  .rw[q,e1,e2]
  .rw[hoth _ q]
 refine h.turn (h':=σ.h) (λ_ _ q=>q) (Le.refl _) (λa x q=>(hc a).trans (h.sub a x q)) h.hl (λid e o p q=>?_) h.inj ?_ h.base (hpw:=λk _ hk=>hoth k λq=>hgo (q▸hk))
 .rcases h.objs id e o p q with⟨k0,k⟩|⟨k0,m1,m2,g',m3,es,clock,m4,m5⟩
  case inr =>
   refine .inr ⟨k0,m1,m2,g',m3,es,clock,?_,m5⟩
   by_cases hgg:g'=g
   .subst hgg;rw[e1]at m4;cases m4
   .rw[hoth _ hgg];exact m4
  obtain⟨k1,k2,k3,k4,k5,k6,k7,k8⟩:=k
  refine .inl ⟨k0,k1,k2,k3,k4,k5,k6,k7,?_⟩
  cases hge:e.g with
  |none=>rw[hge]at k8;exact k8
  |some g' =>
   rw[hge]at k8
   obtain⟨cs',⟨fr1,a1,af⟩,a2,a3,a4⟩:=k8
   by_cases hgg:g'=g
   .subst hgg
    rw[e1]at a1;cases a1
    exact⟨cs,⟨fr',e2,.inl e3⟩,a2,a3,a4⟩
   .exact⟨cs',⟨fr1,by rw[hoth _ hgg];exact a1,af⟩,a2,a3,a4⟩
 .exact⟨h1.trans h.below.os,h2.trans h.below.tape,h3.trans h.below.output,by rw[<- e4];exact h.below.size,λk hk=>by rw[hoth k (by omega)];exact h.below.block k hk⟩
end
def ak:Operand->Opd
 |.tmp t=>.t t
 |.const v=>.k v
 |.global g=>.g g
 |.func f=>.k (.func (.func f) #[] #[])
def agT(P:Program)(t:TypeId):Option (Bool×Nat) :=
 match P.underlying t,P.info? t with
 |some d,some i=>some (match d with|.struct _|.array _ _=>true|_=>false,i.size)
 |_,_=>none
section
variable{P:Program}{Gl:Nat->Option (List AV)}{F:Addr->Option Value}{own:List Ent}{B:Nat}{w0:W0}{σ:St}{act:Act}{w:World}
def Ok1(P:Program)(Gl:Nat->Option (List AV))(B:Nat)(w0:W0)(σ:St)(act:Act)(w:World)(o:Oper)(a:AV)(h':List ah):Prop :=
 ∃nx x w' F' own',(execOp act.eval o).run P w=.ok nx w'/\(nx=.value x\/(nx=.skip/\x=undef))/\Inv Gl F' own' B w0 ⟨σ.t,h'⟩ act w'/\R F' own' x a
theorem Inv.ev(h:Inv Gl F own B w0 σ act w)(x:Operand):R F own (act.eval x) (σ.val Gl (ak x)):=h.eval x (ak x) (by cases x<;>rfl)
theorem Ok1.mk(h:Inv Gl F own B w0 σ act w){o:Oper}{x:Value}{a:AV}(hr:(execOp act.eval o).run P w=.ok (.value x) w)(hR:R F own x a):Ok1 P Gl B w0 σ act w o a σ.h :=
 ⟨_,x,w,F,own,hr,.inl rfl,h,hR⟩
theorem Ok1.v(h:Inv Gl F own B w0 σ act w){o:Oper}{x:Value}(hr:(execOp act.eval o).run P w=.ok (.value x) w):Ok1 P Gl B w0 σ act w o (.v x) σ.h :=
 Ok1.mk h hr (.pure (.v x))
theorem a1c (h : Inv Gl F own B w0 σ act w) {o : Oper} {op : BinOp} {xt yt : TypeId} {x y : Operand} (ho : o.op = .binOp op xt x y yt) {a b : Value} (hx : σ.val Gl (ak x) = .v a) (hy : σ.val Gl (ak y) = .v b)
    {p:Prop} {r:Value} (hb:lT op a b=some (p,r)) (hp:p):Ok1 P Gl B w0 σ act w o (.v r) σ.h:=by
  have ex:act.eval x=a:=by have:=h.ev x;rw[hx]at this;exact this.aH
  have ey:act.eval y=b:=by have:=h.ev y;rw[hy]at this;exact this.aH
  refine Ok1.v h ?_
  unfold execOp
  simp only[ho,ex,ey]
  unfold lT at hb
  split at hb <;> first
    |(cases hb;done)
    | (split at hb
       · rename_i hk
         subst hk
         obtain⟨rfl,rfl⟩:=Prod.mk.inj (Option.some.inj hb)
         simp[eqGuard,binOp,Op.intArith,Op.intDiv,Op.intBits,Op.intCmp,hp]<;>done
       .cases hb)
    | (obtain ⟨rfl,rfl⟩:=Prod.mk.inj (Option.some.inj hb)
       have hp':=hp
       simp[eqGuard,binOp,Op.shift,Op.stringOp,Int.not_lt.2 hp']<;>done)
    | (obtain ⟨rfl,rfl⟩:=Prod.mk.inj (Option.some.inj hb)
       have hp':=hp
       have hm:IntKind.i64.max=9223372036854775807:=by decide
       simp[eqGuard,binOp,Op.stringOp,hm]<;>omega)
theorem a3X (h:Inv Gl F own B w0 σ act w) {o:Oper} {op:UnOp} {xt:TypeId} {x:Operand} (ho:o.op=.unOp op xt x) {a:Value} (hx:σ.val Gl (ak x)=.v a) {r:Value} (hb:unV op a=some r):Ok1 P Gl B w0 σ act w o (.v r) σ.h:=by
  have ex:act.eval x=a:=by have:=h.ev x;rw[hx]at this;exact this.aH
  refine Ok1.v h ?_
  unfold execOp
  simp only[ho,ex]
  unfold unV at hb
  split at hb <;> first
    |(cases hb;done)
    | (obtain rfl:=Option.some.inj hb
       simp[Op.unary,Op.intArith])
theorem Y7 (h:Inv Gl F own B w0 σ act w) {o:Oper} {s d:TypeId} {x:Operand} (ho:o.op=.convert s d x) {sd:TypeDesc} {k k':IntKind} {n:Int} (hs:P.underlying s=some sd) (hd:P.underlying d=some (.int k)) (hx:σ.val Gl (ak x)=.v (.int k' n)) :
  Ok1 P Gl B w0 σ act w o (.v (.int k (k.wrap n))) σ.h:=by
 have ex:act.eval x=.int k' n:=by have:=h.ev x;rw[hx]at this;exact this.aH
 refine Ok1.v h ?_
 unfold execOp
 simp only[ho,ex]
 simp[convert,run_underlying hs,run_underlying hd,Conv.intToInt]
theorem Jy(d:Nat)(t:TypeId)(a b:Bool)(ht:P.underlying t=some .bool):(Op.equalIn (d+1) t (.bool a) (.bool b)).run P w=.ok (a==b) w:=run_equalIn_bool w d t a b ht
theorem YF(d:Nat)(t e:TypeId)(a:Option Addr)(n c:Nat)(ht:P.underlying t=some (.slice e)):(Op.equalIn (d+1) t (.slice a n c) (.slice none 0 0)).run P w=.ok a.isNone w:=by
 cases a<;>simp[Op.equalIn,run_underlying ht]
theorem Oa(t:TypeId)(x y:Value){b:Bool}(h:(Op.equalIn (9999+1) t x y).run P w=.ok b w):(Op.equal t x y).run P w=.ok b w:=h
theorem a1d (h:Inv Gl F own B w0 σ act w) {o:Oper} {neg:Bool} {xt yt:TypeId} {x y:Operand} (ho:o.op=.binOp (if neg then .neq else .eql) xt x y yt) (ht:P.underlying xt=some .bool) {a b:Bool} (hx:σ.val Gl (ak x)=.v (.bool a)) (hy:σ.val Gl (ak y)=.v (.bool b)) :
  Ok1 P Gl B w0 σ act w o (.v (.bool (if neg then !(a==b) else a==b))) σ.h:=by
 have ex:act.eval x=.bool a:=by have:=h.ev x;rw[hx]at this;exact this.aH
 have ey:act.eval y=.bool b:=by have:=h.ev y;rw[hy]at this;exact this.aH
 refine Ok1.v h ?_
 unfold execOp
 have hq:=Oa (P:=P) (w:=w) xt _ _ (Jy 9999 xt a b ht)
 cases neg<;>simp only[ho,ex,ey,if_true,if_false,Bool.false_eq_true]<;>simp[eqGuard,binOp,hq]
theorem Y2 (h:Inv Gl F own B w0 σ act w) {o:Oper} {neg:Bool} {xt yt:TypeId} {x:Operand} (ho:o.op=.binOp (if neg then .neq else .eql) xt x (.const (.slice none 0 0)) yt) {et:TypeId} (ht:P.underlying xt=some (.slice et))
  {p:Prop} {r:AV} {h':List ah} (hs:step Gl σ (.qy neg (ak x))=some (p,r,h')) (hp:p):Ok1 P Gl B w0 σ act w o r h':=by
 have he:=h.ev x
 simp only[step]at hs
 have run:∀(a:Option Addr) (n c:Nat),act.eval x=.slice a n c->(execOp act.eval o).run P w=.ok (.value (.bool (if neg then a.isSome else a.isNone))) w:=by
  intro a n c ex
  unfold execOp
  have hq:=Oa (P:=P) (w:=w) xt _ _ (YF 9999 xt et a n c ht)
  cases neg<;>simp only[ho,ex,if_true,if_false,Bool.false_eq_true]<;>simp[eqGuard,binOp,hq,Act.eval]<;>cases a<;>simp
 split at hs
 .rename_i sz xs hv
  rw[hv]at he
  obtain⟨rfl,h2⟩:=Prod.mk.inj (Option.some.inj hs)
  obtain⟨rfl,rfl⟩:=Prod.mk.inj h2
  have hq:=he.dw
  generalize hv':act.eval x=v at hq
  cases hq with
  |nil=>exact absurd rfl hp
  |list ad n cap sz xs cv hn hc hz hF hR=>exact Ok1.mk h (run _ _ _ hv') (by cases neg<;>exact .pure (.v _))
 .rename_i hv
  rw[hv]at he
  obtain⟨rfl,h2⟩:=Prod.mk.inj (Option.some.inj hs)
  obtain⟨rfl,rfl⟩:=Prod.mk.inj h2
  exact Ok1.mk h (run _ _ _ he.aH) (by cases neg<;>exact .pure (.v _))
 .rename_i id G sz off len hv
  rw[hv]at he
  obtain⟨rfl,h2⟩:=Prod.mk.inj (Option.some.inj hs)
  obtain⟨rfl,rfl⟩:=Prod.mk.inj h2
  obtain⟨e,_,_,⟨a,cap,hx,_,ha⟩,_⟩:=he.fP
  have h1:=ha (.inl hp)
  cases a with
  |none=>cases h1
  |some a=>exact Ok1.mk h (run _ _ _ hx) (by cases neg<;>exact .pure (.v _))
 .cases hs
theorem Lg(d:Nat)(t:TypeId)(k k':IntKind)(a b:Int)(h:P.underlying t=some (.int k')):(Op.equalIn (d+1) t (.int k a) (.int k b)).run P w=.ok (a==b) w:=run_equalIn_int w d t k k' a b h
def jF(P:Program)(fs:List Field):Option (List (Nat×Nat)) :=
 match fs with
 |[]=>some []
 |f::fs=>match jF P fs with
  |none=>none
  |some r=>if f.name= "_" then some ((f.offset,0) :: r) else match P.underlying f.type with
   |some (.int _)=>some ((f.offset,1)::r)
   |some .bool=>some ((f.offset,2)::r)
   |some .string=>some ((f.offset,3)::r)
   |_=>none
theorem Fz (h:Inv Gl F own B w0 σ act w) (d:Nat) {xs ys:Array Value} {as bs:List AV} (hx:R F own (.agg xs) (.agg as)) (hy:R F own (.agg ys) (.agg bs)) :
  ∀(fs:List Field) (l:List (Nat×Nat)) (r:Bool),jF P fs=some l->eqA as bs l=some r->(Op.eqFields (d+1) xs ys fs).run P w=.ok r w:=by
 obtain⟨xs',ex,lx,_,rx⟩:=hx.bB
 obtain rfl:xs=xs':=by injection ex
 obtain⟨ys',ey,ly,_,ry⟩:=hy.bB
 obtain rfl:ys=ys':=by injection ey
 have at_:∀(zs:Array Value) (cs:List AV),zs.size=cs.length->(∀(j:Nat) (x:Value) (a:AV),zs[j]?=some x->cs[j]?=some a->R F own x a)->∀i v,cs.getD i .any=.v v->zs[i]?=some v:=by
  intro zs cs hl hr i v hv
  by_cases hi:i<cs.length
  ·have e2:cs[i]?=some (.v v):=by
    rw[<- hv];simp[List.getD,List.getElem?_eq_getElem hi]
   have e1:zs[i]?=some (zs[i]'(by omega)):=Array.getElem?_eq_getElem (by omega)
   have:=(hr i _ _ e1 e2).aH
   rw[e1,this]
  .simp[List.getD,List.getElem?_eq_none (Nat.le_of_not_lt hi)]at hv
 have hpart:∀(t:TypeId) (zs:Array Value) (i:Nat) (v:Value) (dd:TypeDesc),P.underlying t=some dd->(match dd with|.struct _|.array _ _=>true|_=>false)=false->zs[i]?=some v->(part t zs i).run P w=.ok v w:=by
  intro t zs i v dd ht hd hz
  unfold part isAgg
  simp only[Sem.run_bind,run_underlying ht,Result.andThen_ok]
  cases dd<;>first|(cases hd;done)|simp[hz]
 intro fs
 induction fs with
 |nil=>intro l r hc he;cases hc;cases he;rfl
 |cons f fs ih =>
  intro l r hc he
  unfold jF at hc
  cases hr:jF P fs with
  |none=>rw[hr]at hc;cases hc
  |some r' =>
   rw[hr]at hc
   simp only at hc
   unfold Op.eqFields
   by_cases hn:f.name= "_"
   .rw[if_pos hn]at hc
    cases hc
    simp only[eqA,if_true]at he
    rw[if_neg (by simp[hn])]
    exact ih r' r hr he
   .rw[if_neg hn]at hc
    rw[if_pos hn]
    have key:∀ (c:Nat) (dd:TypeDesc),c ≠ 0->P.underlying f.type=some dd->(match dd with | .struct _ | .array _ _=>true | _=>false)=false->some ((f.offset,c) :: r')=some l ->
      (∀u v b,eq1 c (.v u) (.v v)=some b->(Op.equalIn (d+1) f.type u v).run P w=.ok b w)->(do
       let a <- part f.type xs f.offset
       let b <- part f.type ys f.offset
       let r <- Op.equalIn (d+1) f.type a b
       if(!r)=true then pure false else Op.eqFields (d+1) xs ys fs:Sem Bool).run P w=.ok r w:=by
     intro c dd hc0 hdd hag hl heq
     cases hl
     simp only[eqA,if_neg hc0]at he
     cases h1:eq1 c (as.getD f.offset .any) (bs.getD f.offset .any) with
     |none=>rw[h1]at he;cases he
     |some b1 =>
      rw[h1]at he
      cases h2:eqA as bs r' with
      |none=>rw[h2]at he;cases he
      |some b2 =>
       rw[h2]at he
       cases he
       obtain⟨u,hu⟩:∃u,as.getD f.offset .any=.v u:=by
        unfold eq1 at h1;split at h1<;>first|(cases h1;done)|exact⟨_,by assumption⟩
       obtain⟨v,hv⟩:∃v,bs.getD f.offset .any=.v v:=by
        unfold eq1 at h1;split at h1<;>first|(cases h1;done)|exact⟨_,by assumption⟩
       rw[hu,hv]at h1
       have p1:=hpart f.type xs f.offset u dd hdd hag (at_ xs as lx rx _ _ hu)
       have p2:=hpart f.type ys f.offset v dd hdd hag (at_ ys bs ly ry _ _ hv)
       simp only[Sem.run_bind,p1,p2,Result.andThen_ok,heq u v b1 h1]
       cases b1
       .simp
       .simpa using ih r' b2 hr h2
    split at hc
    .rename_i k hk
     refine key 1 _ (by decide) hk rfl hc (λu v b hb=>?_)
     unfold eq1 at hb
     split at hb
     .split at hb
      .cases hb
       rename_i e1 e2 hkk
       cases e1;cases e2;subst hkk
       exact Lg d f.type _ k _ _ hk
      .cases hb
     .rename_i q _ _;cases q
     .rename_i q _ _;cases q
     .cases hb
    .rename_i hk
     refine key 2 _ (by decide) hk rfl hc (λu v b hb=>?_)
     unfold eq1 at hb
     split at hb
     .rename_i q _ _;cases q
     .cases hb;rename_i e1 e2;cases e1;cases e2
      exact Jy d f.type _ _ hk
     .rename_i q _ _;cases q
     .cases hb
    .rename_i hk
     refine key 3 _ (by decide) hk rfl hc (λu v b hb=>?_)
     unfold eq1 at hb
     split at hb
     .rename_i q _ _;cases q
     .rename_i q _ _;cases q
     .cases hb;rename_i e1 e2;cases e1;cases e2
      exact run_equalIn_string w d f.type _ _ hk
     .cases hb
    .cases hc
def qI(P:Program)(fs:List Field):Option (List (Nat×Nat)) :=
 match fs with
 |[]=>some []
 |f::fs=>match qI P fs with
  |none=>none
  |some r=>if f.name= "_" then some ((f.offset,0) :: r) else match P.underlying f.type with
   |some (.int _)=>some ((f.offset,1)::r)
   |some .bool=>some ((f.offset,2)::r)
   |some .string=>some ((f.offset,3)::r)
   |some (.struct gs)=>match jF P gs.toList,P.info? f.type with
    |some l,some i=>if P.stoodInHeld f.type=false/\l.all (λq=>decide (q.1<i.size))=true then some (l.map (λq=>(f.offset+q.1,q.2))++r) else none
    |_,_=>none
   |_=>none
theorem YH (as bs:List AV):∀ (l m:List (Nat × Nat)),eqA as bs (l ++ m)=match eqA as bs l,eqA as bs m with
  |some a,some b=>some (a&&b)
  |_,_=>none:=by
 intro l
 induction l with
 |nil=>intro m;simp only[List.nil_append,eqA];cases eqA as bs m<;>rfl
 |cons q l ih =>
  intro m
  obtain⟨i,c⟩:=q
  simp only[List.cons_append,eqA]
  split
  .rw[ih]
  .rw[ih]
   cases eq1 c (as.getD i .any) (bs.getD i .any)<;>cases eqA as bs l<;>cases eqA as bs m<;>simp[Bool.and_assoc]
theorem R4(as bs:List AV)(o n:Nat):∀(l:List (Nat×Nat)),l.all (λq=>decide (q.1<n))=true->eqA as bs (l.map λq=>(o+q.1,q.2))=eqA ((as.drop o).take n) ((bs.drop o).take n) l:=by
 intro l
 induction l with
 |nil=>intro _;rfl
 |cons q l ih =>
  intro h
  obtain⟨i,c⟩:=q
  simp only[List.all_cons,Bool.and_eq_true,decide_eq_true_eq]at h
  have e:∀zs:List AV,((zs.drop o).take n).getD i .any=zs.getD (o+i) .any:=λzs=>by
   simp only[List.getD,List.getElem?_take,if_pos h.1,List.getElem?_drop]
  simp only[List.map_cons,eqA,e,ih h.2]
theorem YG (h:Inv Gl F own B w0 σ act w) (d:Nat) {xs ys:Array Value} {as bs:List AV} (hx:R F own (.agg xs) (.agg as)) (hy:R F own (.agg ys) (.agg bs)) :
  ∀(fs:List Field) (l:List (Nat×Nat)) (r:Bool),qI P fs=some l->eqA as bs l=some r->(Op.eqFields (d+2) xs ys fs).run P w=.ok r w:=by
 have hx0:=hx
 have hy0:=hy
 obtain⟨xs',ex,lx,ox,rx⟩:=hx.bB
 obtain rfl:xs=xs':=by injection ex
 obtain⟨ys',ey,ly,oy,ry⟩:=hy.bB
 obtain rfl:ys=ys':=by injection ey
 intro fs
 induction fs with
 |nil=>intro l r hc he;cases hc;cases he;rfl
 |cons f fs ih =>
  intro l r hc he
  unfold qI at hc
  cases hr:qI P fs with
  |none=>rw[hr]at hc;cases hc
  |some r' =>
   rw[hr]at hc
   simp only at hc
   by_cases hn:f.name= "_"
   .rw[if_pos hn]at hc
    cases hc
    simp only[eqA,if_true]at he
    unfold Op.eqFields
    rw[if_neg (by simp[hn])]
    exact ih r' r hr he
   .rw[if_neg hn]at hc
    have one:∀c,c≠0->some ((f.offset,c)::r')=some l->jF P [f]=some [(f.offset,c)]->(Op.eqFields (d+2) xs ys (f::fs)).run P w=.ok r w:=by
     intro c hc0 hl hcf
     cases hl
     simp only[eqA,if_neg hc0]at he
     cases h1:eq1 c (as.getD f.offset .any) (bs.getD f.offset .any) with
     |none=>rw[h1]at he;cases he
     |some b1 =>
      rw[h1]at he
      cases h2:eqA as bs r' with
      |none=>rw[h2]at he;cases he
      |some b2 =>
       rw[h2]at he
       cases he
       have k:=Fz h (d+1) hx0 hy0 [f] _ b1 hcf (by simp only[eqA,if_neg hc0,h1,Bool.and_true])
       have k2:=ih r' b2 hr h2
       simp only[Op.eqFields,if_pos hn]at k ⊢
       simp only[Sem.run_bind]at k ⊢
       generalize (part f.type xs f.offset).run P w=q1 at k ⊢
       cases q1 with
       |halt s w1=>cases k
       |ok a w1 =>
        simp only[Result.andThen_ok]at k ⊢
        generalize (part f.type ys f.offset).run P w1=q2 at k ⊢
        cases q2 with
        |halt s w2=>cases k
        |ok b w2 =>
         simp only[Result.andThen_ok]at k ⊢
         generalize (Op.equalIn (d+2) f.type a b).run P w2=q3 at k ⊢
         cases q3 with
         |halt s w3=>cases k
         |ok c1 w3 =>
          simp only[Result.andThen_ok]at k ⊢
          cases c1
          .simp only[Bool.not_false,if_true,Sem.run_pure]at k ⊢
           cases k
           rfl
          .simp only[Bool.not_true,Bool.false_eq_true,if_false,Sem.run_pure]at k ⊢
           cases k
           rw[k2];rfl
    split at hc
    .rename_i k hk;exact one 1 (by decide) hc (by simp only[jF,if_neg hn,hk])
    .rename_i hk;exact one 2 (by decide) hc (by simp only[jF,if_neg hn,hk])
    .rename_i hk;exact one 3 (by decide) hc (by simp only[jF,if_neg hn,hk])
    .rename_i gs hk
     split at hc
     case h_2=>cases hc
     rename_i l1 i hl1 hi
     split at hc
     case isFalse=>cases hc
     rename_i hcond
     cases hc
     rw[YH,R4 as bs f.offset i.size l1 hcond.2]at he
     cases h1:eqA ((as.drop f.offset).take i.size) ((bs.drop f.offset).take i.size) l1 with
     |none=>rw[h1]at he;cases he
     |some b1 =>
      rw[h1]at he
      cases h2:eqA as bs r' with
      |none=>rw[h2]at he;cases he
      |some b2 =>
       rw[h2]at he
       cases he
       have hpart:∀zs:Array Value,(part f.type zs f.offset).run P w=.ok (.agg (zs.extract f.offset (f.offset+i.size))) w:=λzs=>by
        unfold part isAgg
        simp only[Sem.run_bind,run_underlying hk,Result.andThen_ok]
        simp[sizeOf,typeInfo,hi]
       have ZL:∀(zs:Array Value) (cs:List AV),zs.size=cs.length->(∀(j:Nat) (x:Value),zs[j]?=some x->x.oneCell'=true)->(∀(j:Nat) (x:Value) (a:AV),zs[j]?=some x->cs[j]?=some a->R F own x a)->R F own (.agg (zs.extract f.offset (f.offset+i.size))) (.agg ((cs.drop f.offset).take i.size)):=by
        intro zs cs hl h1 hR
        refine .agg _ _ (by simp;omega) (λj y hy=>?_) (λj y a hy ha'=>?_)
        .rw[Array.getElem?_extract]at hy
         split at hy
         .exact h1 _ _ hy
         .cases hy
        .rw[Array.getElem?_extract]at hy
         split at hy
         .rw[List.getElem?_take]at ha'
          split at ha'
          .rw[List.getElem?_drop]at ha';exact hR _ _ _ hy ha'
          .cases ha'
         .cases hy
       have hfs:P.fieldsOf f.type=gs:=by unfold Program.fieldsOf;rw[hk]
       have k:=Fz h d (ZL xs as lx ox rx) (ZL ys bs ly oy ry) gs.toList l1 b1 hl1 h1
       have q:=run_equalIn_agg (P:=P) w (d+1) f.type (xs.extract f.offset (f.offset+i.size)) (ys.extract f.offset (f.offset+i.size)) (by rw[hfs];exact hk) hcond.1
       rw[hfs,k]at q
       have k2:=ih r' b2 hr h2
       unfold Op.eqFields
       rw[if_pos hn]
       simp only[Sem.run_bind,hpart,Result.andThen_ok,q]
       cases b1
       .simp
       .simpa using k2
    .cases hc
theorem a1g (h:Inv Gl F own B w0 σ act w) {o:Oper} {neg:Bool} {xt yt:TypeId} {x y:Operand} (ho:o.op=.binOp (if neg then .neq else .eql) xt x y yt) {fs:Array Field} {l:List (Nat × Nat)} (ht:P.underlying xt=some (.struct fs)) (hl:qI P fs.toList=some l)
  (hm:P.eqGuardType P.depth xt=false) (hh:P.stoodInHeld xt=false) {as bs:List AV} (hx:σ.val Gl (ak x)=.agg as) (hy:σ.val Gl (ak y)=.agg bs) {r:Bool} (hr:eqA as bs l=some r) :
  Ok1 P Gl B w0 σ act w o (.v (.bool (if neg then !r else r))) σ.h:=by
 have rx:=h.ev x;rw[hx]at rx
 have ry:=h.ev y;rw[hy]at ry
 obtain⟨xs,ex,_⟩:=rx.bB
 obtain⟨ys,ey,_⟩:=ry.bB
 rw[ex]at rx;rw[ey]at ry
 have hf:P.fieldsOf xt=fs:=by unfold Program.fieldsOf;rw[ht]
 have k:=YG h 9997 rx ry fs.toList l r hl hr
 have q:=run_equalIn_agg (P:=P) w 9999 xt xs ys (by rw[hf];exact ht) hh
 rw[hf,k]at q
 have hq:=Oa (P:=P) (w:=w) xt _ _ q
 refine Ok1.v h ?_
 unfold execOp
 cases neg<;>simp only[ho,ex,ey,if_true,if_false,Bool.false_eq_true]<;>simp[run_eqGuard_agg w _ xt _ _ _ _ hm,binOp,hq]
end
theorem uh(a:Addr)(i j:Nat):(a.add i).add j=a.add (i+j):=by
 unfold Addr.add
 by_cases hi:i=0<;>by_cases hj:j=0<;>simp[hi,hj,Nat.add_assoc]
theorem ru(a:Addr):a.add 0=a:=by simp[Addr.add]
theorem zV{α:Type}(n:Nat)(p:Nat->α->Prop)(h:∀j,j<n->∃y,p j y):∃ys:List α,ys.length=n/\∀(j:Nat) (y:α),ys[j]?=some y->p j y:=by
 induction n with
 |zero=>exact⟨[],rfl,λj y hy=>by simp at hy⟩
 |succ n ih =>
  obtain⟨ys,hl,hp⟩:=ih (λj hj=>h j (by omega))
  obtain⟨y,hy⟩:=h n (by omega)
  refine⟨ys++[y],by simp[hl],λj z hz=>?_⟩
  rcases Nat.lt_or_ge j n with q|q
  .rw[List.getElem?_append_left (by omega)]at hz;exact hp j z hz
  .rw[List.getElem?_append_right (by omega)]at hz
   have:j=n:=by
    rcases Nat.lt_or_ge n j with q'|q'
    .rw[List.getElem?_eq_none (by simp;omega)]at hz;cases hz
    .omega
   subst this
   simp[hl]at hz
   subst hz
   exact hy
section
variable{P:Program}{Gl:Nat->Option (List AV)}{F:Addr->Option Value}{own:List Ent}{B:Nat}{w0:W0}{σ:St}{act:Act}{w:World}
theorem kC{t:TypeId}{ag:Bool}{sz:Nat}(h:agT P t=some (ag,sz))(w:World):(isAgg t).run P w=.ok ag w/\(sizeOf t).run P w=.ok sz w:=by
 unfold agT at h
 split at h
 .rename_i d i hd hi
  obtain⟨rfl,rfl⟩:=Prod.mk.inj (Option.some.inj h)
  refine⟨?_,by simp[sizeOf,typeInfo,hi]⟩
  unfold isAgg
  simp only[Sem.run_bind,run_underlying hd,Result.andThen_ok]
  cases d<;>rfl
 .cases h
theorem a09 (h:Inv Gl F own B w0 σ act w) {o:Oper} {t:TypeId} {x:Operand} {f:Nat} (ho:o.op=.field t x f) {fs:Array Field} {fd:Field} {ag:Bool} {sz:Nat} (ht:P.underlying t=some (.struct fs)) (hf:fs[f]?=some fd) (ha:agT P fd.type=some (ag,sz))
  {p:Prop} {r:AV} {h':List ah} (hs:step Gl σ (.fld fd.offset sz ag (ak x))=some (p,r,h')) (hp:p):Ok1 P Gl B w0 σ act w o r h':=by
 have he:=h.ev x
 have hag:=kC ha
 simp only[step]at hs
 split at hs
 .rename_i cs hv
  rw[hv]at he
  obtain⟨xs,ex,hl,h1,hR⟩:=he.bB
  cases ag with
  |true =>
   simp only[if_true]at hs
   split at hs
   .rename_i hle
    obtain⟨_,h2⟩:=Prod.mk.inj (Option.some.inj hs)
    obtain⟨rfl,rfl⟩:=Prod.mk.inj h2
    refine Ok1.mk h (x:=.agg (xs.extract fd.offset (fd.offset+sz))) ?_ ?_
    .unfold execOp
     simp only[ho,ex]
     simp[Instr.field,run_underlying ht,hf,asAgg,part,hag]
    .refine .agg _ _ (by simp;omega) (λj y hy=>?_) (λj y a hy ha'=>?_)
     .rw[Array.getElem?_extract]at hy
      split at hy
      .exact h1 _ _ hy
      .cases hy
     .rw[Array.getElem?_extract]at hy
      split at hy
      .rename_i hj
       rw[List.getElem?_take]at ha'
       split at ha'
       .rw[List.getElem?_drop]at ha';exact hR _ _ _ hy ha'
       .cases ha'
      .cases hy
   .cases hs
  |false =>
   simp only[Bool.false_eq_true,if_false]at hs
   cases hc:cs[fd.offset]? with
   |none=>rw[hc]at hs;cases hs
   |some a =>
    rw[hc]at hs
    obtain⟨_,h2⟩:=Prod.mk.inj (Option.some.inj hs)
    obtain⟨rfl,rfl⟩:=Prod.mk.inj h2
    have hlt:fd.offset<xs.size:=by rw[hl];exact(List.getElem?_eq_some_iff.1 hc).1
    refine Ok1.mk h (x:=xs[fd.offset]) ?_ (hR _ _ _ (Array.getElem?_eq_getElem hlt) hc)
    unfold execOp
    simp only[ho,ex]
    simp[Instr.field,run_underlying ht,hf,asAgg,part,hag,Array.getElem?_eq_getElem hlt]
 .cases hs
theorem a1a (h:Inv Gl F own B w0 σ act w) {o:Oper} {x:Operand} {i:Nat} (ho:o.op=.extract x i)
  {p:Prop} {r:AV} {h':List ah} (hs:step Gl σ (.ext i (ak x))=some (p,r,h')) (hp:p):Ok1 P Gl B w0 σ act w o r h':=by
 have he:=h.ev x
 simp only[step]at hs
 split at hs
 .rename_i cs hv
  rw[hv]at he
  obtain⟨xs,ex,hl,hR⟩:=he.mY
  cases hc:cs[i]? with
  |none=>rw[hc]at hs;cases hs
  |some a =>
   rw[hc]at hs
   obtain⟨_,h2⟩:=Prod.mk.inj (Option.some.inj hs)
   obtain⟨rfl,rfl⟩:=Prod.mk.inj h2
   have hlt:i<xs.size:=by rw[hl];exact(List.getElem?_eq_some_iff.1 hc).1
   refine Ok1.mk h (x:=xs[i]) ?_ (hR _ _ _ (Array.getElem?_eq_getElem hlt) hc)
   unfold execOp
   simp only[ho,ex]
   simp[Instr.extract,Array.getElem?_eq_getElem hlt]
 .cases hs
theorem Qj(h:Inv Gl F own B w0 σ act w){o:Oper}{x:Operand}(ho:o.op=.move x\/o.op=.assign x):Ok1 P Gl B w0 σ act w o (σ.val Gl (ak x)) σ.h:=by
 refine Ok1.mk h ?_ (h.ev x)
 unfold execOp
 rcases ho with ho|ho<;>simp only[ho]<;>rfl
theorem a03 (h:Inv Gl F own B w0 σ act w) {o:Oper} {x:Operand} (ho:o.op=.nilCheck x)
  {p:Prop} {r:AV} {h':List ah} (hs:step Gl σ (.nck (ak x))=some (p,r,h')) (hp:p):Ok1 P Gl B w0 σ act w o r h':=by
 have he:=h.ev x
 simp only[step]at hs
 split at hs
 .rename_i id G i o' hv
  rw[hv]at he
  obtain⟨_,h2⟩:=Prod.mk.inj (Option.some.inj hs)
  obtain⟨rfl,rfl⟩:=Prod.mk.inj h2
  obtain⟨e,he1,hG,⟨a,hx0⟩,hx⟩:=he.iT
  refine Ok1.mk h ?_ he
  unfold execOp
  simp only[ho,hx0]
  rfl
 .rename_i cs hv
  rw[hv]at he
  obtain⟨_,h2⟩:=Prod.mk.inj (Option.some.inj hs)
  obtain⟨rfl,rfl⟩:=Prod.mk.inj h2
  have hq:=he.jM
  refine Ok1.mk h ?_ he
  generalize hv':act.eval x=v at hq
  cases hq with
  |bO ad cs cv hF hR =>
   unfold execOp
   simp only[ho,hv']
   rfl
 .cases hs
theorem Y1 (h:Inv Gl F own B w0 σ act w) {o:Oper} {c a b:Operand} (ho:o.op=.pick c a b)
  {p:Prop} {r:AV} {h':List ah} (hs:step Gl σ (.pick (ak c) (ak a) (ak b))=some (p,r,h')) (hp:p):Ok1 P Gl B w0 σ act w o r h':=by
 have he:=h.ev c
 simp only[step]at hs
 split at hs
 .rename_i t hv
  rw[hv]at he
  have ec:=he.aH
  obtain⟨_,h2⟩:=Prod.mk.inj (Option.some.inj hs)
  obtain⟨rfl,rfl⟩:=Prod.mk.inj h2
  refine Ok1.mk h (x:=if t then act.eval a else act.eval b) ?_ ?_
  .unfold execOp
   simp only[ho,ec]
   simp[asBool]
  .cases t
   .exact h.ev b
   .exact h.ev a
 .cases hs
theorem Ud (h:Inv Gl F own B w0 σ act w) {o:Oper} {t:TypeId} {x:Operand} {f:Nat} (ho:o.op=.fieldAddr t x f) {fs:Array Field} {fd:Field} {ag:Bool} {sz:Nat} (ht:P.underlying t=some (.struct fs)) (hf:fs[f]?=some fd) (ha:agT P fd.type=some (ag,sz)) (h0:sz ≠ 0)
  {p:Prop} {r:AV} {h':List ah} (hs:step Gl σ (.nu fd.offset (ak x))=some (p,r,h')) (hp:p):Ok1 P Gl B w0 σ act w o r h':=by
 have he:=h.ev x
 have hag:=kC ha
 have run:∀a,act.eval x=.pointer (some a)->(execOp act.eval o).run P w=.ok (.value (.pointer (some (a.add fd.offset)))) w:=by
  intro a ex
  unfold execOp
  simp only[ho,ex]
  simp[Instr.fieldAt,run_underlying ht,hf,Instr.sureAddr,fieldPlace,hag,h0]
 simp only[step]at hs
 split at hs
 .rename_i id G i o' hv
  rw[hv]at he
  obtain⟨_,h2⟩:=Prod.mk.inj (Option.some.inj hs)
  obtain⟨rfl,rfl⟩:=Prod.mk.inj h2
  obtain⟨e,he1,hG,⟨a,ea⟩,hx⟩:=he.iT
  refine Ok1.mk h (run a ea) (.ptr _ _ _ _ _ e he1 hG ⟨_,rfl⟩ (λq=>?_) (by first|exact he.gH he1|exact he.iG he1|exact he.lG he1))
  obtain⟨g,hg,hx'⟩:=hx q
  rw[ea]at hx'
  cases hx'
  exact⟨g,hg,by simp[Addr.add_lit,Nat.add_assoc]⟩
 .rename_i cs hv
  rw[hv]at he
  obtain⟨_,h2⟩:=Prod.mk.inj (Option.some.inj hs)
  obtain⟨rfl,rfl⟩:=Prod.mk.inj h2
  have hq:=he.jM
  generalize hv':act.eval x=v at hq
  cases hq with
  |bO ad cs cv hF hR =>
   refine Ok1.mk h (run ad hv') (.pure (.bO _ _ (λj=>cv (fd.offset+j)) (λj a q=>?_) (λj a q=>?_)))
   .rw[List.getElem?_drop]at q;rw[uh];exact hF _ _ q
   .rw[List.getElem?_drop]at q;exact hR _ _ q
 .cases hs
theorem Uc (h:Inv Gl F own B w0 σ act w) {o:Oper} {t:TypeId} {x ix:Operand} (ho:o.op=.indexAddr t x ix) {et:TypeId} {ag:Bool} {sz:Nat} (ht:P.underlying t=some (.slice et)) (ha:agT P et=some (ag,sz))
  {p:Prop} {r:AV} {h':List ah} (hs:step Gl σ (.jD sz (ak x) (ak ix))=some (p,r,h')) (hp:p):Ok1 P Gl B w0 σ act w o r h':=by
 have he:=h.ev x
 have hi:=h.ev ix
 have hag:=kC ha
 have run:∀a n c k (m:Int),act.eval x=.slice (some a) n c->act.eval ix=.int k m->0<=m->m<n->(execOp act.eval o).run P w=.ok (.value (.pointer (some (a.add (m.toNat*sz))))) w:=by
  intro a n c k m ex ei h0 h1
  unfold execOp
  simp only[ho,ex,ei]
  simp[Instr.indexAt,asIntOf,run_underlying ht,hag,h0,h1]
 simp only[step]at hs
 split at hs
 .rename_i sz' xs k n hv hvi
  rw[hv]at he
  rw[hvi]at hi
  split at hs
  .rename_i hsz
   subst hsz
   obtain⟨rfl,h2⟩:=Prod.mk.inj (Option.some.inj hs)
   obtain⟨rfl,rfl⟩:=Prod.mk.inj h2
   have hq:=he.dw
   generalize hv':act.eval x=v at hq
   have hlt:n.toNat<xs.length:=by omega
   have hg:xs[n.toNat]?=some (xs.getD n.toNat .any):=by simp[List.getD,List.getElem?_eq_getElem hlt]
   cases hq with
   |nil=>simp at hlt
   |list ad n' cap sz xs cv hn hc hz hF hR =>
    refine Ok1.mk h (run ad _ _ _ n hv' hi.aH hp.1 (by omega)) (.pure (.bO _ _ (λj=>cv (n.toNat*sz'+j)) (λj a q=>?_) (λj a q=>?_)))
    .rw[uh];exact hF _ _ _ _ hg q
    .exact hR _ _ _ _ hg q
  .cases hs
 .rename_i id G sz' off len k n hv hvi
  rw[hv]at he
  rw[hvi]at hi
  split at hs
  .rename_i hsz
   subst hsz
   obtain⟨rfl,h2⟩:=Prod.mk.inj (Option.some.inj hs)
   obtain⟨rfl,rfl⟩:=Prod.mk.inj h2
   obtain⟨e,he1,hG,⟨a,cap,hx0,hl,ha'⟩,hx⟩:=he.fP
   have hsome:=ha' (.inl (by omega))
   cases a with
   |none=>cases hsome
   |some a =>
    refine Ok1.mk h (run a _ _ _ n hx0 hi.aH hp.1 (by omega)) (.ptr _ _ _ _ _ e he1 hG ⟨_,rfl⟩ (λq=>?_) (by first|exact he.gH he1|exact he.iG he1|exact he.lG he1))
    obtain⟨q1,q2,qe⟩:=hx q
    obtain⟨cp,qc,q3⟩:=qe (.inl (by omega))
    rw[hx0]at q3
    injection q3 with q3
    cases hg:e.g with
    |none=>rw[hg]at q3;cases q3
    |some g =>
     rw[hg]at q3
     simp at q3
     refine⟨g,rfl,?_⟩
     rw[q3,Addr.add_lit,<- q1,Nat.add_mul]
     rfl
  .cases hs
 .cases hs
theorem a07 (h:Inv Gl F own B w0 σ act w) {o:Oper} {t:TypeId} {x:Operand} (ho:o.op=.call { callee:=.builtin .len,args:=#[x],argTypes:=#[t] }) {et:TypeId} (ht:P.underlying t=some (.slice et))
  {p:Prop} {r:AV} {h':List ah} (hs:step Gl σ (.len (ak x))=some (p,r,h')) (hp:p):Ok1 P Gl B w0 σ act w o r h':=by
 have he:=h.ev x
 have run:∀a n c et,P.underlying t=some (.slice et)->act.eval x=.slice a n c->(execOp act.eval o).run P w=.ok (.value (.int .i64 n)) w:=by
  intro a n c et ht ex
  unfold execOp
  simp only[ho]
  simp[resolve,invoke,builtin,ex,Builtin.len_,run_underlying ht,goInt]
 simp only[step]at hs
 split at hs
 .rename_i sz xs hv
  rw[hv]at he
  obtain⟨_,h2⟩:=Prod.mk.inj (Option.some.inj hs)
  obtain⟨rfl,rfl⟩:=Prod.mk.inj h2
  have hq:=he.dw
  generalize hv':act.eval x=v at hq
  cases hq with
  |nil=>exact Ok1.v h (run _ _ _ _ ht hv')
  |list ad n' cap sz xs cv hn hc hz hF hR=>subst hn;exact Ok1.v h (run _ _ _ _ ht hv')
 .rename_i id G sz off len hv
  rw[hv]at he
  obtain⟨_,h2⟩:=Prod.mk.inj (Option.some.inj hs)
  obtain⟨rfl,rfl⟩:=Prod.mk.inj h2
  obtain⟨e,he1,hG,⟨a,cap,hx0,hl,ha'⟩,hx⟩:=he.fP
  exact Ok1.v h (run _ _ _ _ ht hx0)
 .rename_i hv
  rw[hv]at he
  obtain⟨_,h2⟩:=Prod.mk.inj (Option.some.inj hs)
  obtain⟨rfl,rfl⟩:=Prod.mk.inj h2
  exact Ok1.v h (run _ _ _ _ ht he.aH)
 .cases hs
theorem Y0 (h:Inv Gl F own B w0 σ act w) {o:Oper} {t:TypeId} {x:Operand} (ho:o.op=.call { callee:=.builtin .len,args:=#[x],argTypes:=#[t] }) (ht:P.underlying t=some .string)
  {p:Prop} {r:AV} {h':List ah} (hs:step Gl σ (.qd (ak x))=some (p,r,h')) (hp:p):Ok1 P Gl B w0 σ act w o r h':=by
 have he:=h.ev x
 simp only[step]at hs
 split at hs
 .rename_i s hv
  rw[hv]at he
  obtain⟨_,h2⟩:=Prod.mk.inj (Option.some.inj hs)
  obtain⟨rfl,rfl⟩:=Prod.mk.inj h2
  refine Ok1.v h ?_
  unfold execOp
  simp only[ho]
  simp[resolve,invoke,builtin,he.aH,Builtin.len_,run_underlying ht,goInt]
 .cases hs
theorem a08 (h:Inv Gl F own B w0 σ act w) {o:Oper} {t:TypeId} {x ix:Operand} (ho:o.op=.index t x ix) (ht:P.underlying t=some .string)
  {p:Prop} {r:AV} {h':List ah} (hs:step Gl σ (.idx (ak x) (ak ix))=some (p,r,h')) (hp:p):Ok1 P Gl B w0 σ act w o r h':=by
 have he:=h.ev x
 have hi:=h.ev ix
 simp only[step]at hs
 split at hs
 .rename_i s k n hv hvi
  rw[hv]at he
  rw[hvi]at hi
  obtain⟨rfl,h2⟩:=Prod.mk.inj (Option.some.inj hs)
  obtain⟨rfl,rfl⟩:=Prod.mk.inj h2
  refine Ok1.v h ?_
  have hlt:n.toNat<s.size:=by omega
  have hd:s.data.getD n.toNat 0=s[n.toNat]:=by
   have hlt':n.toNat<s.data.size:=hlt
   unfold Array.getD
   rw[dif_pos hlt']
   rfl
  have hg:s[n.toNat]?=some s[n.toNat]:=getElem?_pos s n.toNat hlt
  unfold execOp
  simp only[ho,he.aH,hi.aH]
  simp only[Instr.index,asIntOf,Sem.run_bind,Sem.run_pure,Result.andThen_ok,run_underlying ht,hp.1,if_true,hg,hd]
 .cases hs
theorem ET (h : Inv Gl F own B w0 σ act w) {o : Oper} {ts : Array TypeId} {x y : Operand} {mx : Bool} (ho : o.op = .call { callee := .builtin (if mx then .max else .min), args := #[x, y], argTypes := ts })
    {p:Prop} {r:AV} {h':List ah} (hs:step Gl σ (if mx then .max2 (ak x) (ak y) else .min2 (ak x) (ak y))=some (p,r,h')) (hp:p):Ok1 P Gl B w0 σ act w o r h':=by
  have he:=h.ev x
  have hi:=h.ev y
  cases mx <;> simp only [if_true,if_false,Bool.false_eq_true,step] at hs ho <;> split at hs <;> first
    |(cases hs;done)
    | (rename_i k a k' b hv hvi
       rw[hv]at he
       rw[hvi]at hi
       obtain⟨_,h2⟩:=Prod.mk.inj (Option.some.inj hs)
       obtain⟨rfl,rfl⟩:=Prod.mk.inj h2
       refine Ok1.v h ?_
       unfold execOp
       simp only[ho]
       simp[resolve,invoke,builtin,he.aH,hi.aH,Builtin.min_,Builtin.max_,Builtin.min2,Builtin.max2]
       first|(split<;>omega)|omega)
theorem xM{t:TypeId}{sz:Nat}(ha:agT P t=some (true,sz))(ad:Addr)(ys:List Value)(hl:ys.length=sz)(hc:∀(j:Nat) (y:Value),ys[j]?=some y->w.cell? (ad.add j)=some y):(loadVar t ad).run P w=.ok (.agg ys.toArray) w:=by
 have hag:=kC ha
 have:=run_loadCells_list (P:=P) w ad ys hc
 rw[hl]at this
 simp[loadVar,hag,this]
theorem xL{t:TypeId}{sz:Nat}(ha:agT P t=some (false,sz))(ad:Addr)(y:Value)(hc:w.cell? ad=some y):(loadVar t ad).run P w=.ok y w:=by
 have hag:=kC ha
 simp[loadVar,hag,hc]
theorem J6 (h:Inv Gl F own B w0 σ act w) {t:TypeId} {x:Operand} {ag:Bool} {sz:Nat} (ha:agT P t=some (ag,sz))
  {p:Prop} {r:AV} {h':List ah} (hs:step Gl σ (.load sz ag (ak x))=some (p,r,h')) (hp:p):∃a y,act.eval x=.pointer (some a)/\(loadVar t a).run P w=.ok y w/\R F own y r/\h'=σ.h:=by
 have he:=h.ev x
 simp only[step]at hs
 split at hs
 .rename_i cs hv
  rw[hv]at he
  have hq:=he.jM
  generalize hv':act.eval x=v at hq
  cases hq with
  |bO ad cs cv hF hR =>
   cases ag with
   |true =>
    simp only[if_true]at hs
    split at hs
    .rename_i hle
     obtain⟨_,h2⟩:=Prod.mk.inj (Option.some.inj hs)
     obtain⟨rfl,rfl⟩:=Prod.mk.inj h2
     have hat:∀j,j<sz->cs[j]?=some (cs.getD j .any):=λj hj=>by simp[List.getD,List.getElem?_eq_getElem (show j<cs.length by omega)]
     have hys:∀(j:Nat) (y:Value),((List.range sz).map cv)[j]?=some y->j<sz/\y=cv j:=λj y hy=>by
      have hj:j<sz:=by have:=(List.getElem?_eq_some_iff.1 hy).1;simpa using this
      simp[List.getElem?_eq_getElem,hj]at hy
      exact⟨hj,hy.symm⟩
     refine⟨ad,_,rfl,xM ha ad ((List.range sz).map cv) (by simp) (λj y hy=>?_),?_,rfl⟩
     .obtain⟨hj,rfl⟩:=hys j y hy
      exact h.sub _ _ (hF j _ (hat j hj)).1
     .refine .agg _ _ (by simp;omega) (λj y hy=>?_) (λj y a hy hb=>?_)
      .obtain⟨hj,rfl⟩:=hys j y (by simpa using hy)
       exact(hF j _ (hat j hj)).2
      .obtain⟨hj,rfl⟩:=hys j y (by simpa using hy)
       rw[List.getElem?_take,if_pos hj]at hb
       exact .pure (hR j a hb)
    .cases hs
   |false =>
    simp only[Bool.false_eq_true,if_false]at hs
    cases cs with
    |nil=>cases hs
    |cons a cs =>
     obtain⟨_,h2⟩:=Prod.mk.inj (Option.some.inj hs)
     obtain⟨rfl,rfl⟩:=Prod.mk.inj h2
     have h0:=(hF 0 a rfl).1
     rw[ru]at h0
     exact⟨ad,_,rfl,xL ha ad (cv 0) (h.sub _ _ h0),.pure (hR 0 a rfl),rfl⟩
 .rename_i id G i off hv
  rw[hv]at he
  obtain⟨e,he1,hG,hst,hx⟩:=he.iT
  obtain⟨ob,hob,hO⟩:=h.lD he1
  have hO:=hO.qx (he.gH he1)
  rw[hob]at hs
  simp only at hs
  split at hs
  .rename_i hlen
   obtain⟨g,hg,ex⟩:=hx (by rw[hO.1,hlen])
   obtain⟨cs,fr,hblk,_,hsz,hcell⟩:=hO.yM hg
   have hcl:=hO.2.2.2.2.2.2.1
   have hsz':e.sz=ob.sz:=hO.2.1
   have WQ:∀(j:Nat) (y:Value),cs[i*ob.sz+(off+j)]?=some y->w.cell? ((⟨g,i*e.sz+off,none⟩:Addr).add j)=some y:=λj y hy=>by
    rw[Addr.add_lit,cell_of_row w g _ cs ob.ty fr hblk,<- hy,hsz',Nat.add_assoc]
   cases ag with
   |true =>
    simp only[if_true]at hs
    obtain⟨rfl,h2⟩:=Prod.mk.inj (Option.some.inj hs)
    obtain⟨rfl,rfl⟩:=Prod.mk.inj h2
    have hel:ob.es[i]?=some (ob.es.getD i .any):=by simp[List.getD,List.getElem?_eq_getElem (show i<ob.es.length by omega)]
    have hc1:=hcl i _ hel
    obtain⟨ys,hyl,hyp⟩:=zV sz (λj y=>cs[i*ob.sz+(off+j)]?=some y/\y.oneCell'=true/\∀a,(ob.es.getD i .any).cells[off+j]?=some a->R F own y a) (λj hj=>by
     have:off+j<(ob.es.getD i .any).cells.length:=by omega
     obtain⟨y,h1,h2,h3⟩:=hcell i (off+j) _ _ hel (List.getElem?_eq_getElem this)
     exact⟨y,h1,h2,λa ha'=>by rw[List.getElem?_eq_getElem this]at ha';cases ha';exact h3.r⟩)
    refine⟨_,_,ex,xM ha _ ys hyl (λj y hy=>WQ j y (hyp j y hy).1),?_,rfl⟩
    generalize ob.es.getD i .any=E at *
    refine .agg _ _ (by simp;omega) (λj y hy=>(hyp j y (by simpa using hy)).2.1) (λj y a hy hb=>?_)
    rw[List.getElem?_take]at hb
    split at hb
    .rw[List.getElem?_drop]at hb
     exact(hyp j y (by simpa using hy)).2.2 a hb
    .cases hb
   |false =>
    simp only[Bool.false_eq_true,if_false]at hs
    obtain⟨rfl,h2⟩:=Prod.mk.inj (Option.some.inj hs)
    obtain⟨rfl,rfl⟩:=Prod.mk.inj h2
    have hel:ob.es[i]?=some (ob.es.getD i .any):=by simp[List.getD,List.getElem?_eq_getElem (show i<ob.es.length by omega)]
    have hc1:=hcl i _ hel
    have hlt:off<(ob.es.getD i .any).cells.length:=by omega
    generalize ob.es.getD i .any=E at *
    have hge:E.cells[off]?=some (E.cells.getD off .any):=by simp[List.getD,List.getElem?_eq_getElem hlt]
    obtain⟨y,h1,h2,h3⟩:=hcell i off _ _ hel hge
    have hw:=WQ 0 y (by simpa using h1)
    rw[ru]at hw
    exact⟨_,_,ex,xL ha _ y hw,h3.r,rfl⟩
  .cases hs
 .cases hs
theorem Y4 (h:Inv Gl F own B w0 σ act w) {o:Oper} {t:TypeId} {x:Operand} (ho:o.op=.load t x) {ag:Bool} {sz:Nat} (ha:agT P t=some (ag,sz))
  {p:Prop} {r:AV} {h':List ah} (hs:step Gl σ (.load sz ag (ak x))=some (p,r,h')) (hp:p):Ok1 P Gl B w0 σ act w o r h':=by
 obtain⟨a,y,ex,hy,hR,rfl⟩:=J6 h ha hs hp
 refine Ok1.mk h ?_ hR
 unfold execOp
 simp only[ho,ex]
 simp[Instr.loadAt,Instr.sureAddr,hy]
theorem kL{n:Nat}{lo hi:Option AV}{p:Prop}{l u:Int}(h:fB n lo hi=some (p,l,u)):p=(0<=l/\l<=u/\u<=n)/\((lo=none/\l=0)\/∃k,lo=some (.v (.int k l)))/\((hi=none/\u=n)\/∃k,hi=some (.v (.int k u))):=by
 unfold fB at h
 split at h
 .rename_i l' u' h1 h2
  cases h
  have asn:∀{a:AV} {m:Int},asN a=some m->∃k,a=.v (.int k m):=by
   intro a m q
   unfold asN at q
   split at q
   .cases q;exact⟨_,rfl⟩
   .cases q
  refine⟨rfl,?_,?_⟩
  .cases lo with
   |none=>cases h1;exact .inl ⟨rfl,rfl⟩
   |some a=>obtain⟨k,rfl⟩:=asn h1;exact .inr ⟨k,rfl⟩
  .cases hi with
   |none=>cases h2;exact .inl ⟨rfl,rfl⟩
   |some a=>obtain⟨k,rfl⟩:=asn h2;exact .inr ⟨k,rfl⟩
 .cases h
theorem kW (h:Inv Gl F own B w0 σ act w) {lo hi:Option Operand} {n cap:Nat} {p:Prop} {l u:Int} (hc:fB n ((lo.map ak).map (σ.val Gl)) ((hi.map ak).map (σ.val Gl))=some (p,l,u)) (hp:p) (hn:n<=cap) (b:Bool) :
  (Instr.sliceBounds b n cap (lo.map act.eval) (hi.map act.eval) none).run P w=.ok (l.toNat,u.toNat,cap) w:=by
 obtain⟨rfl,h1,h2⟩:=kL hc
 have s2:∀x code,hi=some x->(Instr.sliceBound (act.eval x) cap code).run P w=.ok u.toNat w:=by
  rintro x code rfl
  rcases h2 with⟨q,_⟩|⟨k,q⟩
  .cases q
  .have he:=h.ev x
   rw[show σ.val Gl (ak x)=.v (.int k u) from by simpa using q]at he
   simp[he.aH,Instr.sliceBound,asIntOf,show(0:Int)<=u from by omega,show u<=cap from by omega]
 have s1:∀x code,lo=some x->(Instr.sliceBound (act.eval x) u.toNat code).run P w=.ok l.toNat w:=by
  rintro x code rfl
  rcases h1 with⟨q,_⟩|⟨k,q⟩
  .cases q
  .have he:=h.ev x
   rw[show σ.val Gl (ak x)=.v (.int k l) from by simpa using q]at he
   have:(0:Int)<=l/\l<=((u.toNat:Nat):Int):=by omega
   simp only[he.aH,Instr.sliceBound,asIntOf,Sem.run_bind,Sem.run_pure,Result.andThen_ok,if_pos this]
 have hu:hi=none->u.toNat=n:=by
  rintro rfl
  rcases h2 with⟨_,q⟩|⟨k,q⟩
  .omega
  .cases q
 have hl:lo=none->l.toNat=0:=by
  rintro rfl
  rcases h1 with⟨_,q⟩|⟨k,q⟩
  .omega
  .cases q
 cases hi with
 |none =>
  cases lo with
  |none=>simp[Instr.sliceBounds,hu rfl,hl rfl]
  |some x =>
   have:=s1 x .sliceB rfl
   rw[hu rfl]at this
   simp[Instr.sliceBounds,hu rfl,this]
 |some y =>
  cases lo with
  |none=>simp[Instr.sliceBounds,s2 y _ rfl,hl rfl]
  |some x=>simp[Instr.sliceBounds,s2 y _ rfl,s1 x _ rfl]
theorem Qh (h:Inv Gl F own B w0 σ act w) {o:Oper} {t:TypeId} {x:Operand} {lo hi:Option Operand} (ho:o.op=.slice t x lo hi none) (ht:P.underlying t=some .string)
  {p:Prop} {r:AV} {h':List ah} (hs:step Gl σ (.jw (ak x) (lo.map ak) (hi.map ak))=some (p,r,h')) (hp:p):Ok1 P Gl B w0 σ act w o r h':=by
 have he:=h.ev x
 simp only[step]at hs
 split at hs
 .rename_i s hv
  rw[hv]at he
  cases hc:fB s.size ((lo.map ak).map (σ.val Gl)) ((hi.map ak).map (σ.val Gl)) with
  |none=>rw[hc]at hs;cases hs
  |some q =>
   obtain⟨p',l,u⟩:=q
   rw[hc]at hs
   obtain⟨rfl,h2⟩:=Prod.mk.inj (Option.some.inj hs)
   obtain⟨rfl,rfl⟩:=Prod.mk.inj h2
   have hb:=kW (P:=P) h hc hp (Nat.le_refl _) false
   refine Ok1.v h ?_
   unfold execOp
   simp only[ho,he.aH]
   simp[Instr.sliceAt,Instr.slice,run_underlying ht,hb]
 .cases hs
theorem ok_slice (h:Inv Gl F own B w0 σ act w) {o:Oper} {t et:TypeId} {x:Operand} {lo hi:Option Operand} (ho:o.op=.slice t x lo hi none) {ag:Bool} {sz:Nat} (ht:P.underlying t=some (.slice et)) (ha:agT P et=some (ag,sz))
  {p:Prop} {r:AV} {h':List ah} (hs:step Gl σ (.slice sz (ak x) (lo.map ak) (hi.map ak))=some (p,r,h')) (hp:p):Ok1 P Gl B w0 σ act w o r h':=by
 have he:=h.ev x
 have hag:=kC ha
 have run:∀a n c l u,act.eval x=.slice a n c->(Instr.sliceBounds true n c (lo.map act.eval) (hi.map act.eval) none).run P w=.ok (l,u,c) w->(execOp act.eval o).run P w=.ok (.value (.slice (if c=l then a else a.map (·.add (l*sz))) (u-l) (c-l))) w:=by
  intro a n c l u ex hb
  unfold execOp
  simp only[ho,ex]
  simp[Instr.sliceAt,Instr.slice,run_underlying ht,hb,hag]
 simp only[step]at hs
 split at hs
 .rename_i sz' xs hv
  rw[hv]at he
  split at hs
  .rename_i hsz
   subst hsz
   cases hc:fB xs.length ((lo.map ak).map (σ.val Gl)) ((hi.map ak).map (σ.val Gl)) with
   |none=>rw[hc]at hs;cases hs
   |some q =>
    obtain⟨p',l,u⟩:=q
    rw[hc]at hs
    obtain⟨rfl,h2⟩:=Prod.mk.inj (Option.some.inj hs)
    obtain⟨rfl,rfl⟩:=Prod.mk.inj h2
    have hp':=hp
    rw[(kL hc).1]at hp'
    have hq:=he.dw
    generalize hv':act.eval x=v at hq
    cases hq with
    |nil =>
     have hb:=kW (P:=P) (cap:=0) h hc hp (by simp) true
     have hl0:l.toNat=0:=by have:=hp';simp at this;omega
     have hu0:u.toNat=0:=by have:=hp';simp at this;omega
     have:=run _ _ _ _ _ hv' hb
     rw[hl0,hu0]at this
     refine Ok1.mk h (by simpa using this) ?_
     simp
     exact .pure (.nil _)
    |list ad n cap sz xs cv hn hcap hz hF hR =>
     have hb:=kW (P:=P) (cap:=cap) h hc hp (by omega) true
     rw[hn]at hb
     refine Ok1.mk h (run _ _ _ _ _ hv' hb) ?_
     have hlen:((xs.take u.toNat).drop l.toNat).length=u.toNat-l.toNat:=by simp;omega
     by_cases hcl:cap=l.toNat
     .rw[if_pos hcl]
      have h0:u.toNat-l.toNat=0:=by omega
      have hnil:(xs.take u.toNat).drop l.toNat=[]:=List.eq_nil_of_length_eq_zero (by omega)
      rw[hnil,h0]
      exact .pure (.list ad 0 _ _ [] cv rfl (by omega) (λi e q=>by simp at q) (λi j e a q=>by simp at q) (λi j e a q=>by simp at q))
     .rw[if_neg hcl]
      have key:∀(i:Nat) (e:AV),((xs.take u.toNat).drop l.toNat)[i]?=some e->xs[l.toNat+i]?=some e:=λi e q=>by
       rw[List.getElem?_drop,List.getElem?_take]at q
       split at q
       .exact q
       .cases q
      refine .pure (.list (ad.add (l.toNat*sz')) _ _ _ _ (λj=>cv (l.toNat*sz'+j)) hlen (by omega) (λi e q=>hz _ _ (key i e q)) (λi j e a q q'=>?_) (λi j e a q q'=>?_))
      .have:=hF _ j _ _ (key i e q) q'
       rw[uh]
       rw[Nat.add_mul,Nat.add_assoc]at this
       exact this
      .have:=hR _ j _ _ (key i e q) q'
       rw[Nat.add_mul,Nat.add_assoc]at this
       exact this
  .cases hs
 .rename_i hv
  rw[hv]at he
  cases hc:fB 0 ((lo.map ak).map (σ.val Gl)) ((hi.map ak).map (σ.val Gl)) with
  |none=>rw[hc]at hs;cases hs
  |some q =>
   obtain⟨p',l,u⟩:=q
   rw[hc]at hs
   obtain⟨rfl,h2⟩:=Prod.mk.inj (Option.some.inj hs)
   obtain⟨rfl,rfl⟩:=Prod.mk.inj h2
   have hp':=hp
   rw[(kL hc).1]at hp'
   have hb:=kW (P:=P) (cap:=0) h hc hp (by simp) true
   have hl0:l.toNat=0:=by have:=hp';simp at this;omega
   have hu0:u.toNat=0:=by have:=hp';simp at this;omega
   have:=run _ _ _ _ _ he.aH hb
   rw[hl0,hu0]at this
   exact Ok1.v h (by simpa using this)
 .rename_i id G sz' off len hv
  rw[hv]at he
  split at hs
  .rename_i hsz
   subst hsz
   cases hc:fB len ((lo.map ak).map (σ.val Gl)) ((hi.map ak).map (σ.val Gl)) with
   |none=>rw[hc]at hs;cases hs
   |some q =>
    obtain⟨p',l,u⟩:=q
    rw[hc]at hs
    simp only[Option.map_some]at hs
    obtain⟨rfl,h2⟩:=Prod.mk.inj (Option.some.inj hs)
    obtain⟨rfl,rfl⟩:=Prod.mk.inj h2
    have hp':=hp
    rw[(kL hc).1]at hp'
    obtain⟨e,he1,hG,⟨a,cap,hx0,hl,ha'⟩,hx⟩:=he.fP
    have hb:=kW (P:=P) (cap:=cap) h hc hp hl true
    have hr:=run _ _ _ _ _ hx0 hb
    have hul:u.toNat-l.toNat=(u-l).toNat:=by omega
    rw[hul]at hr
    refine Ok1.mk h hr (.row _ _ _ _ _ _ e he1 hG ⟨_,_,rfl,by omega,λq=>?_⟩ (λq=>?_) (by first|exact he.gH he1|exact he.iG he1|exact he.lG he1))
    .have:=ha' (by omega)
     cases a with
     |none=>cases this
     |some a=>split<;>rfl
    .obtain⟨q1,q2,qe⟩:=hx q
     clear hx
     refine⟨q1,(by clear qe;omega),λhne=>?_⟩
     have hne':0<len\/off=0:=by clear qe;omega
     obtain⟨cp,qc,q3⟩:=qe hne'
     clear qe
     have NV:(if cap=l.toNat then a else a.map (·.add (l.toNat*sz')))=a.map (·.add (l.toNat*sz')):=by
      rcases hne with h0|hlt
      .rw[if_neg (by omega)]
      .have:l.toNat=0:=by omega
       rw[this,Nat.zero_mul]
       split
       .cases a<;>simp[ru]
       .rfl
     rw[NV]
     rw[hx0]at q3
     injection q3 with q3 q4 q5
     refine⟨cp-l.toNat,by omega,?_⟩
     rw[q3,q5]
     cases hg:e.g with
     |none=>simp
     |some g=>simp[Addr.add_lit,Nat.add_mul]
  .cases hs
 .cases hs
theorem Qi (h:Inv Gl F own B w0 σ act w) {o:Oper} {t et:TypeId} {x y z:Operand} (ho:o.op=.slice t x none (some y) (some z)) {ag:Bool} {sz:Nat} (ht:P.underlying t=some (.slice et)) (ha:agT P et=some (ag,sz))
  {p:Prop} {r:AV} {h':List ah} (hs:step Gl σ (.slice3 sz (ak x) (ak y) (ak z))=some (p,r,h')) (hp:p):Ok1 P Gl B w0 σ act w o r h':=by
 have he:=h.ev x
 have hey:=h.ev y
 have hez:=h.ev z
 have hag:=kC ha
 simp only[step]at hs
 split at hs
 .rename_i id G sz' off len k n k' m hv hvy hvz
  rw[hv]at he
  rw[hvy]at hey
  rw[hvz]at hez
  split at hs
  .rename_i hsz
   obtain⟨rfl,rfl⟩:=hsz
   obtain⟨rfl,h2⟩:=Prod.mk.inj (Option.some.inj hs)
   obtain⟨rfl,rfl⟩:=Prod.mk.inj h2
   obtain⟨e,he1,hG,⟨a,cap,hx0,hl,ha'⟩,hx⟩:=he.fP
   have hy:=hey.aH
   have hz:=hez.aH
   obtain⟨hp1,hp2,hmn⟩:=hp
   rw[hmn]at hz
   have hb:(Instr.sliceBounds true len cap none (some (act.eval y)) (some (act.eval z))).run P w=.ok (0,n.toNat,n.toNat) w:=by
    have s1:∀(k:IntKind) (c:Nat) code,n<=c->(Instr.sliceBound (.int k n) c code).run P w=.ok n.toNat w:=λk c code hc=>by
     simp[Instr.sliceBound,asIntOf,hp1,hc]
    rw[hz,hy]
    simp[Instr.sliceBounds,s1 k' cap _ (by omega),s1 k n.toNat _ (by omega)]
   have hr:(execOp act.eval o).run P w=.ok (.value (.slice a n.toNat n.toNat)) w:=by
    unfold execOp
    simp only[ho,hx0]
    simp only[Option.map_some,Option.map_none]
    simp[Instr.sliceAt,Instr.slice,run_underlying ht,hb,hag]
    cases a<;>simp[ru]
   refine Ok1.mk h hr (.iX _ _ _ _ _ e he1 hG ⟨_,rfl,λq=>ha' (.inl (by omega))⟩ (λq=>?_) (by first|exact he.gH he1|exact he.iG he1|exact he.lG he1))
   obtain⟨q1,q2,qe⟩:=hx q
   obtain⟨cp,qc,q3⟩:=qe (.inr rfl)
   rw[hx0]at q3
   injection q3 with q3
   refine⟨q1,by omega,?_⟩
   rw[q3]
   cases e.g<;>simp
  .cases hs
 .cases hs
end
section
variable{P:Program}{Gl:Nat->Option (List AV)}{F:Addr->Option Value}{own:List Ent}{B:Nat}{w0:W0}{σ:St}{act:Act}{w:World}
theorem uq{pr:Bool}{x:Value}{a:AV}(h:R F own x a)(hs:st1 pr a=true):x.oneCell'=true/\RC F own pr x a/\a.cells=[a]:=by
 have key:∀{q:Prop},q->(pr=true->RP F x a)->RC F own pr x a:=by
  intro _ _ hq
  unfold RC
  split
  .rename_i e;exact hq e
  .exact h
 cases a with
 |v y =>
  have:=h.aH
  subst this
  exact⟨hs,key trivial (λ_=>.v _),rfl⟩
 |list sz xs =>
  have hq:=h.dw
  refine⟨?_,key trivial (λ_=>hq),rfl⟩
  cases hq<;>rfl
 |bO cs =>
  have hq:=h.jM
  refine⟨?_,key trivial (λ_=>hq),rfl⟩
  cases hq;rfl
 |row id G sz off len =>
  obtain⟨e,_,_,⟨a,c,rfl,_⟩,_⟩:=h.fP
  refine⟨rfl,key trivial (λq=>?_),rfl⟩
  subst q;cases hs
 |ptr id G i off =>
  obtain⟨e,_,_,⟨a,rfl⟩,_⟩:=h.iT
  refine⟨rfl,key trivial (λq=>?_),rfl⟩
  subst q;cases hs
 |mp id =>
  obtain⟨e,_,_,g,_,rfl⟩:=h.vG
  refine⟨rfl,key trivial (λq=>?_),rfl⟩
  subst q;cases hs
 |clo f cs =>
  obtain⟨xs,rfl,_⟩:=h.sQ
  refine⟨rfl,key trivial (λq=>?_),rfl⟩
  subst q;cases hs
 |iX=>cases hs
 |any=>cases hs
 |agg cs=>cases hs
 |tup cs=>cases hs
theorem rE {pr:Bool} {x:Value} {a:AV} {cs:List AV} (h:R F own x a) (hs:bJ pr a=some cs) :
  a.cells=cs/\x.cells.size=cs.length/\(∀(j:Nat) (y:Value) (b:AV),x.cells[j]?=some y->cs[j]?=some b->y.oneCell'=true/\RC F own pr y b/\b.cells=[b]):=by
 by_cases ha:∃ds,a=.agg ds
 .obtain⟨ds,rfl⟩:=ha
  have hs':(if ds.all (st1 pr) then some ds else none)=some cs:=hs
  split at hs'
  .rename_i hall
   cases hs'
   obtain⟨xs,rfl,hl,h1,hR⟩:=h.bB
   refine⟨rfl,hl,λj y b p q=>?_⟩
   exact uq (hR j y b p q) (List.all_eq_true.1 hall b (List.mem_of_getElem? q))
  .cases hs'
 ·have hs':(if st1 pr a then some [a] else none)=some cs:=by
   cases a<;>first|exact hs|exact absurd ⟨_,rfl⟩ ha
  split at hs'
  .rename_i h1
   cases hs'
   obtain⟨q1,q2,q3⟩:=uq h h1
   have e1:x.cells=#[x]:=by cases x<;>simp_all [Value.cells,Value.oneCell']
   rw[e1,q3]
   refine⟨rfl,rfl,λj y b p q=>?_⟩
   have:j=0:=by
    rcases Nat.eq_zero_or_pos j with h0|h0
    .exact h0
    .rw[List.getElem?_eq_none (by simp;omega)]at q;cases q
   subst this
   simp at p q
   subst p q
   exact⟨q1,q2,q3⟩
  .cases hs'
theorem Ok1.new (h:Inv Gl F own B w0 σ act w) {o:Oper} {cs:Array Value} {ob:ah} {cap:Nat} {x:Value} {a:AV} (hsz:0 < ob.sz) (hfz:ob.fz=0) (hcap:ob.es.length<=cap) (hm:cap<=maxLen) (hes:∀ (i:Nat) (x:AV),ob.es[i]?=some x->x.cells.length=ob.sz)
  (hcs:cs.size=cap*ob.sz) (hR:∀(i j:Nat) (x a:AV),ob.es[i]?=some x->x.cells[j]?=some a->∃y,cs[i*ob.sz+j]?=some y/\y.oneCell'=true/\RC F own ob.pr y a)
  (hr:(execOp act.eval o).run P w=.ok (.value x) (w.alloc (.cells cs ob.ty))) (ha:R F (own++[⟨some w.heap.size,ob.es.length,ob.sz,cap⟩]) x a) (hbx:ob.pr=false->cap=ob.es.length:=by intro q;first|rfl|(cases q;done)|(simp;done)):Ok1 P Gl B w0 σ act w o a (σ.h++[ob]) :=
 ⟨_,x,_,F,_,hr,.inl rfl,h.new cs ob cap hsz hfz hcap hm hes hcs hR hbx,ha⟩
theorem eZ{e:Ent}:(own++[e])[own.length]?=some e:=by simp
theorem Qk (h:Inv Gl F own B w0 σ act w) {o:Oper} {t:TypeId} {x:Operand} (ho:o.op=.box t x) {sz:Nat} (h0:0 < sz)
  {p:Prop} {r:AV} {h':List ah} (hs:step Gl σ (.box t sz (ak x))=some (p,r,h')) (hp:p):Ok1 P Gl B w0 σ act w o r h':=by
 have he:=h.ev x
 simp only[step]at hs
 cases hc:bJ false (σ.val Gl (ak x)) with
 |none=>rw[hc]at hs;cases hs
 |some cs =>
  rw[hc]at hs
  simp only at hs
  split at hs
  .rename_i hl
   obtain⟨_,h2⟩:=Prod.mk.inj (Option.some.inj hs)
   obtain⟨rfl,rfl⟩:=Prod.mk.inj h2
   obtain⟨q1,q2,q3⟩:=rE he hc
   refine Ok1.new h (ob:=⟨t,sz,0,false,[σ.val Gl (ak x)]⟩) (cap:=1) (cs:=(act.eval x).cells) (x:=.pointer (some ⟨w.heap.size,0,none⟩)) h0 rfl (by simp) (by simp[maxLen]) ?_ (by simp;omega) ?_ ?_ ?_
   .intro i y hy
    have:i=0:=by
     rcases Nat.eq_zero_or_pos i with h0|h0
     .exact h0
     .rw[List.getElem?_eq_none (by simp;omega)]at hy;cases hy
    subst this
    simp at hy
    subst hy
    rw[q1];exact hl
   .intro i j y a hy hb
    have:i=0:=by
     rcases Nat.eq_zero_or_pos i with h0|h0
     .exact h0
     .rw[List.getElem?_eq_none (by simp;omega)]at hy;cases hy
    subst this
    simp at hy
    subst hy
    rw[q1]at hb
    have hj:j<(act.eval x).cells.size:=by rw[q2];exact(List.getElem?_eq_some_iff.1 hb).1
    refine⟨(act.eval x).cells[j],by simp,(q3 j _ a (Array.getElem?_eq_getElem hj) hb).1,(q3 j _ a (Array.getElem?_eq_getElem hj) hb).2.1⟩
   .unfold execOp
    simp only[ho]
    simp[Instr.box,newVar,newRow]
   .rw[<- h.hl]
    exact .ptr _ _ _ _ _ _ eZ (by simp) ⟨_,rfl⟩ (λ_=>⟨_,rfl,by simp⟩) (by first|omega|assumption|(simp;done)|(simp;omega)|(dsimp only;omega))
  .cases hs
theorem dM(z:Value):(aW z).cells=z.cells.toList.map .v:=by cases z<;>rfl
theorem Ug (h:Inv Gl F own B w0 σ act w) {o:Oper} {t:TypeId} (ho:o.op=.alloc t) {i:TypeInfo} {z:Value} (hi:P.info? t=some i) (hz:i.zero=some z) (h0:0 < z.cells.size) (h1:z.cells.all (·.oneCell')=true) :
  Ok1 P Gl B w0 σ act w o (.ptr σ.h.length 1 0 0) (σ.h++[⟨t,z.cells.size,0,false,[aW z]⟩]):=by
 refine Ok1.new h (ob:=⟨t,z.cells.size,0,false,[aW z]⟩) (cap:=1) (cs:=z.cells) (x:=.pointer (some ⟨w.heap.size,0,none⟩)) h0 rfl (by simp) (by simp[maxLen]) ?_ (by simp) ?_ ?_ ?_
 .intro i y hy
  have:i=0:=by
   rcases Nat.eq_zero_or_pos i with h0|h0
   .exact h0
   .rw[List.getElem?_eq_none (by simp;omega)]at hy;cases hy
  subst this
  simp at hy
  subst hy
  rw[dM];simp
 .intro i j y a hy hb
  have:i=0:=by
   rcases Nat.eq_zero_or_pos i with h0|h0
   .exact h0
   .rw[List.getElem?_eq_none (by simp;omega)]at hy;cases hy
  subst this
  simp at hy
  subst hy
  rw[dM]at hb
  simp at hb
  obtain⟨v,hv,rfl⟩:=hb
  refine⟨v,by simpa using hv,?_,R.pure (.v v)⟩
  exact Array.all_eq_true_iff_forall_mem.1 h1 v (Array.mem_of_getElem? hv)
 .unfold execOp
  simp only[ho]
  simp[Instr.alloc,zeroValue,typeInfo,hi,hz,newVar,newRow]
 .rw[<- h.hl]
  exact .ptr _ _ _ _ _ _ eZ (by simp) ⟨_,rfl⟩ (λ_=>⟨_,rfl,by simp⟩) (by first|omega|assumption|(simp;done)|(simp;omega)|(dsimp only;omega))
theorem a3Y (h:Inv Gl F own B w0 σ act w) {o:Oper} {t et:TypeId} {x:Operand} (ho:o.op=.makeSlice t x x) {i:TypeInfo} {z:Value} (ht:P.underlying t=some (.slice et)) (hi:P.info? et=some i) (hz:i.zero=some z) (hsz:z.cells.size=i.size) (h0:0 < i.size) (h1:z.cells.all (·.oneCell')=true)
  {p:Prop} {r:AV} {h':List ah} (hs:step Gl σ (.mk et i.size i.bytes z (ak x))=some (p,r,h')) (hp:p):Ok1 P Gl B w0 σ act w o r h':=by
 have he:=h.ev x
 simp only[step]at hs
 split at hs
 .rename_i n hv
  rw[hv]at he
  obtain⟨rfl,h2⟩:=Prod.mk.inj (Option.some.inj hs)
  obtain⟨rfl,rfl⟩:=Prod.mk.inj h2
  obtain⟨p1,p2,p3⟩:=hp
  have hb:(i.bytes:Int)*n<=281474976710656:=by
   rw[Int.mul_comm];unfold fu at p2;omega
  have run:=run_make (P:=P) w t et i z ht hi hz .i64 .i64 n n p1 (Int.le_refl _) hb (by omega)
  have hel:∀(k:Nat) (y:AV),(List.replicate n.toNat (aW z))[k]?=some y->k<n.toNat/\y=aW z:=λk y hy=>by
   have hk:k<n.toNat:=by have:=(List.getElem?_eq_some_iff.1 hy).1;simpa using this
   simp[hk]at hy
   exact⟨hk,hy.symm⟩
  refine Ok1.new h (ob:=⟨et,i.size,0,true,List.replicate n.toNat (aW z)⟩) (cap:=n.toNat) (cs:=madeCells z.cells (n.toNat*i.size)) (x:=.slice (some ⟨w.heap.size,0,none⟩) n.toNat n.toNat) h0 rfl (by simp) (by simp[maxLen];omega) ?_ (by simp[size_madeCells]) ?_ ?_ ?_
  .intro k y hy
   obtain⟨_,rfl⟩:=hel k y hy
   rw[dM];simpa using hsz
  .intro k j y a hy hb'
   obtain⟨hk,rfl⟩:=hel k y hy
   rw[dM]at hb'
   simp at hb'
   obtain⟨v,hv',rfl⟩:=hb'
   have hj:j<z.cells.size:=(Array.getElem?_eq_some_iff.1 hv').1
   have hlt:k*i.size+j<n.toNat*i.size:=by
    have:(k+1)*i.size<=n.toNat*i.size:=Nat.mul_le_mul_right _ hk
    rw[Nat.add_mul]at this;omega
   have hmod:(k*i.size+j)%z.cells.size=j:=by
    rw[hsz,Nat.mul_comm,Nat.mul_add_mod]
    exact Nat.mod_eq_of_lt (by omega)
   refine⟨v,?_,Array.all_eq_true_iff_forall_mem.1 h1 v (Array.mem_of_getElem? hv'),RP.v v⟩
   simp only
   unfold madeCells
   rw[Array.getElem?_map,Array.getElem?_range,if_pos hlt]
   simp only[Option.map_some,hmod]
   rw[getElem!_pos z.cells j hj]
   rw[Array.getElem?_eq_getElem hj]at hv'
   exact hv'
  .unfold execOp
   simp only[ho,he.aH]
   simp[run]
  .rw[<- h.hl]
   refine .row _ _ _ _ _ _ _ eZ (by simp) ⟨_,_,rfl,by simp,λ_=>rfl⟩ (λ_=>⟨rfl,by simp,λ_=>⟨_,Nat.le_of_eq (Nat.zero_add _),?_⟩⟩) (by first|omega|assumption|(simp;done)|(simp;omega)|(dsimp only;omega))
   simp
 .cases hs
theorem iF (P:Program) (g o:Nat) (t:TypeId) (fr:Nat × Nat):∀ (vs:List Value) (i:Nat) (cur:Array Value) (w:World),w.heap[g]?=some (.cells cur t fr)->EF fr cur.size->o + i + vs.length<=cur.size->(∀ v ∈ vs,v.oneCell'=true) ->
  (storeCells ⟨g,o,none⟩ vs i).run P w=.ok () (w.setRow g (cur.toList.take (o+i)++vs++cur.toList.drop (o+i+vs.length)).toArray)
 |[],i,cur,w,hg,_,_,_=>by
  simp only[storeCells,List.append_nil,List.length_nil,Nat.add_zero,List.take_append_drop,Array.toArray_toList]
  rw[setRow_self w g cur t fr hg]
  rfl
 |v::rest,i,cur,w,hg,hnf,hl,h1=>by
  have hi:o+i<cur.size:=by simp at hl;omega
  have hadd:(⟨g,o,none⟩:Addr).add i=⟨g,o+i,none⟩:=by unfold Addr.add;split<;>simp_all
  have hcell:w.cell? ⟨g,o+i,none⟩=some cur[o+i]:=by simp[World.cell?,hg,hi]
  have hfro:w.frozen? ⟨g,o+i,none⟩=false:=by
   have:=hnf (o+i) hi
   unfold World.frozen?
   rw[hg]
   simp only[Bool.and_eq_false_iff,decide_eq_false_iff_not]
   by_cases q:fr.1<=o+i
   .right;intro q2;exact this ⟨q,q2⟩
   .left;exact q
  have hst:(store ((⟨g,o,none⟩:Addr).add i) v).run P w=.ok () (w.setRow g (cur.setIfInBounds (o+i) v)):=by
   rw[hadd,run_store P w _ v _ (h1 v (by simp)),hcell]
   simp[hfro,setCell_eq_setRow w g (o+i) cur t fr v hg]
  have ih:=iF P g o t fr rest (i+1) (cur.setIfInBounds (o+i) v) (w.setRow g (cur.setIfInBounds (o+i) v)) (setRow_heap w g cur _ t _ hg) (by simpa using hnf) (by simp at hl ⊢;omega) (λx hx=>h1 x (by simp[hx]))
  simp only[storeCells,Sem.run_bind,hst,Result.andThen_ok,ih,setRow_setRow]
  congr 3
  have e:=list_seg_step cur.toList (o+i) v rest (by simp at hl ⊢;omega)
  simpa[Array.toList_setIfInBounds,Nat.add_assoc]using e
theorem Inv.set (h:Inv Gl F own B w0 σ act w) {id:Nat} {e:Ent} {ob ob':ah} {g:Nat} (he:own[id]?=some e) (hob:σ.h[id]?=some ob) (hg:e.g=some g) (h0:0 < e.sz) (cs':Array Value)
  (hty:ob'.ty=ob.ty) (hsz:ob'.sz=ob.sz) (hfz:ob'.fz=ob.fz) (hpr:ob'.pr=ob.pr) (hlen:ob'.es.length=ob.es.length) (hes:∀(i:Nat) (x:AV),ob'.es[i]?=some x->x.cells.length=ob'.sz)
  (hcs:cs'.size=e.cap*ob.sz) (hold:∀j x,j<ob.fz*ob.sz->w.cell? ⟨g,j,none⟩=some x->cs'[j]?=some x)
  (hR:∀(i j:Nat) (x a:AV),ob'.es[i]?=some x->x.cells[j]?=some a->∃y,cs'[i*ob.sz+j]?=some y/\y.oneCell'=true/\RC F own ob.pr y a) :
  Inv Gl F own B w0 ⟨σ.t,σ.h.set id ob'⟩ act (w.setRow g cs'):=by
 have hOr:=h.objs id e ob he hob
 have hO:=hOr.qx h0
 obtain⟨cs,fr,hblk,hfr,hcsz,hcell⟩:=hO.yM hg
 have lY:id<σ.h.length:=(List.getElem?_eq_some_iff.1 hob).1
 refine h.turn (λ_ _ q=>q) (Le.refl _) (λa x q=>?_) (by simp[h.hl]) (λid' e' o' p q=>?_) h.inj ?_ h.base (hpw:=λk _ hk=>setRow_other w g k cs' λq=>hk id e he (by rw[hg,q]))
 .have hc:=h.sub a x q
  by_cases hab:a.block=g
  .obtain⟨b,off,spot⟩:=a
   simp only at hab
   subst hab
   cases spot with
   |some s=>simp[World.cell?,hblk]at hc
   |none =>
    rw[cell_setRow_same w b off cs cs' ob.ty fr hblk]
    rcases Nat.lt_or_ge off (ob.fz*ob.sz) with hlt|hge
    .exact hold off x hlt hc
    .rw[hOr.fz hg hge]at q;cases q
  .rw[World.cell?_of_block (w:=w) (setRow_other w g a.block cs' hab)];exact hc
 .by_cases hid:id'=id
  .subst hid
   rw[he]at p
   cases p
   have q':(σ.h.set id' ob')[id']?=some o':=q
   rw[List.getElem?_set_self lY]at q'
   cases q'
   obtain⟨k1,k2,k3,k4,k5,k6,k7,k8⟩:=hO
   refine iO.r ⟨by rw[hlen];exact k1,by rw[hsz];exact k2,by rw[hsz];exact k3,k4,⟨k5.1,by rw[hpr,hlen];exact k5.2⟩,by rw[hfz,hlen];exact k6,hes,?_⟩
   rw[hg]
   refine⟨cs',⟨fr,by rw[hty];exact setRow_heap w g cs cs' ob.ty fr hblk,by rw[hpr,hfz,hlen,hcs,<- hcsz];exact hfr⟩,by rw[hsz];exact hcs,λi j x a p q=>?_,λj hj=>?_⟩
   .obtain⟨y,a1,a2,a3⟩:=hR i j x a p q
    exact⟨y,by rw[hsz];exact a1,a2,by rw[hpr];exact a3⟩
   .rw[hfz,hsz]at hj
    rw[hg]at k8
    obtain⟨_,_,_,_,k⟩:=k8
    exact k j hj
  .have q':(σ.h.set id ob')[id']?=some o':=q
   rw[List.getElem?_set_ne (λe=>hid e.symm)]at q'
   have hO':=h.objs id' e' o' p q'
   refine hO'.mono (λ_ _ r=>r) (Le.refl _) (λg' hg'=>setRow_other w g g' cs' (λe=>?_)) (λg' j hg' hj=>hO'.fz hg' hj)
   subst e
   exact hid (h.inj id' id e' _ g' p he hg' hg)
 .refine h.below.trans ⟨rfl,rfl,rfl,by simp,λk hk=>setRow_other w g k cs' (λe'=>?_)⟩
  subst e'
  have:=h.base id e k he hg
  omega
theorem gX {α:Type} (l m:List α) (p:Nat) (hp:p + m.length<=l.length) (j:Nat) :
  (l.take p++m++l.drop (p+m.length))[j]?=if j<p then l[j]? else if j<p+m.length then m[j-p]? else l[j]?:=by
 rw[List.append_assoc,List.getElem?_append]
 have h1:(l.take p).length=p:=by simp;omega
 rw[h1]
 by_cases h:j<p
 .rw[if_pos h,if_pos h,List.getElem?_take,if_pos h]
 .rw[if_neg h,if_neg h,List.getElem?_append]
  by_cases h2:j-p<m.length
  .rw[if_pos h2,if_pos (by omega)]
  .rw[if_neg h2,if_neg (by omega),List.getElem?_drop]
   congr 1
   omega
theorem BG (h:Inv Gl F own B w0 σ act w) {o:Oper} {t:TypeId} {x y:Operand} (ho:o.op=.store t x y) {ag:Bool} {sz:Nat} (ha:agT P t=some (ag,sz)) (h0:0 < sz) {id G i off:Nat} (he:R F own (act.eval x) (.ptr id G i off)) {a:AV} (hy:R F own (act.eval y) a)
  {ob:ah} (hob:σ.h[id]?=some ob) (hlen:ob.es.length=G) {cs:List AV} (hc:bJ ob.pr a=some cs) (hcl:cs.length=sz) (hp:off+sz<=ob.sz/\i<G/\ob.fz<=i):Ok1 P Gl B w0 σ act w o .any (σ.h.set id { ob with es:=ob.es.set i (setCells (ob.es.getD i .any) off cs) }):=by
 have hag:=kC ha
 obtain⟨e,he1,hG,hst,hx⟩:=he.iT
 have hOr:=h.objs id e ob he1 hob
 have hO:=hOr.qx (he.gH he1)
 obtain⟨p1,p2,p3⟩:=hp
 obtain⟨g,hg,ex⟩:=hx (by rw[hO.1,hlen])
 obtain⟨cur,fr,hblk,hnf,hcsz,hcell⟩:=hO.blk hg (.inr (by omega))
 obtain⟨q1,q2,q3⟩:=rE hy hc
 have hsz':e.sz=ob.sz:=hO.2.1
 have hcap:e.G<=e.cap:=hO.2.2.2.1
 have hcells:=hO.2.2.2.2.2.2.1
 have hsp:=hO.2.2.1
 have hvl:(act.eval y).cells.toList.length=sz:=by simp;omega
 have hone:∀v∈(act.eval y).cells.toList,v.oneCell'=true:=λv hv=>by
  obtain⟨j,hj,rfl⟩:=List.mem_iff_getElem.1 hv
  have hj':j<(act.eval y).cells.size:=by simpa using hj
  have hjc:j<cs.length:=by omega
  have:=(q3 j (act.eval y).cells[j] cs[j] (Array.getElem?_eq_getElem hj') (List.getElem?_eq_getElem hjc)).1
  simpa using this
 have hi1:(i+1)*ob.sz<=e.cap*ob.sz:=Nat.mul_le_mul_right _ (by rw[hO.1]at hcap;omega)
 rw[Nat.add_mul,Nat.one_mul]at hi1
 have hfit:(i*ob.sz+off)+(act.eval y).cells.toList.length<=cur.toList.length:=by simp;omega
 have hrun:=iF P g (i*ob.sz+off) ob.ty fr (act.eval y).cells.toList 0 cur w hblk hnf (by simpa using hfit) hone
 simp only[Nat.add_zero]at hrun
 generalize hcs':(cur.toList.take (i*ob.sz+off)++(act.eval y).cells.toList++cur.toList.drop (i*ob.sz+off+(act.eval y).cells.toList.length)).toArray=cs' at hrun
 have hat:∀j,cs'[j]?=if j<i*ob.sz+off then cur[j]? else if j<i*ob.sz+off+sz then(act.eval y).cells[j-(i*ob.sz+off)]? else cur[j]?:=λj=>by
  rw[<- hcs',List.getElem?_toArray,gX _ _ _ hfit,hvl]
  simp
 have hel:ob.es[i]?=some (ob.es.getD i .any):=by simp[List.getD,List.getElem?_eq_getElem (show i<ob.es.length by omega)]
 have UQ:=hcells i _ hel
 have run:(execOp act.eval o).run P w=.ok .skip (w.setRow g cs'):=by
  unfold execOp
  simp only[ho,ex]
  have:(act.eval y).cells.size=sz:=by omega
  simp[Instr.storeAt,Instr.sureAddr,storeVar,hag,this,hsz',hrun]
 have hset:(setCells (ob.es.getD i .any) off cs).cells=(ob.es.getD i .any).cells.take off++cs++(ob.es.getD i .any).cells.drop (off+cs.length):=by
  generalize ob.es.getD i .any=E at *
  by_cases hE:∃l,E=.agg l
  .obtain⟨l,rfl⟩:=hE;rfl
  .have hE1:E.cells=[E]:=by cases E<;>first|rfl|exact absurd ⟨_,rfl⟩ hE
   rw[hE1]at UQ ⊢
   simp at UQ
   have h1:cs.length=1:=by omega
   have hoff:off=0:=by omega
   subst hoff
   match cs,h1 with
   |[c],_ =>
    have hs1:setCells E 0 [c]=c:=by
     cases E<;>first|rfl|exact absurd ⟨_,rfl⟩ hE
    rw[hs1]
    have hy0:0<(act.eval y).cells.size:=by omega
    have:=(q3 0 _ c (Array.getElem?_eq_getElem hy0) rfl).2.2
    rw[this]
    simp
 refine⟨_,undef,_,F,own,run,.inr ⟨rfl,rfl⟩,?_,.pure (.any _)⟩
 refine h.set he1 hob hg (he.gH he1) cs' rfl rfl rfl rfl (by simp) ?_ ?_ ?_ ?_
 .intro k z hz
  simp only at hz ⊢
  rw[List.getElem?_set]at hz
  split at hz
  .split at hz
   .cases hz
    rw[hset]
    simp only[List.length_append,List.length_take,List.length_drop]
    omega
   .cases hz
  .exact hcells k z hz
 .rw[<- hcs']
  simp
  omega
 .intro j z hj hz
  have:ob.fz*ob.sz<=i*ob.sz:=Nat.mul_le_mul_right _ p3
  rw[hat j,if_pos (by omega)]
  rw[cell_of_row w g j cur ob.ty fr hblk]at hz
  exact hz
 .intro k j z a hz hb
  simp only at hz
  rw[List.getElem?_set]at hz
  split at hz
  .rename_i hik
   subst hik
   split at hz
   .cases hz
    rw[hset,gX _ _ _ (by omega)]at hb
    have hjlt:j<ob.sz:=by
     rcases Nat.lt_or_ge j ob.sz with q|q
     .exact q
     .rw[if_neg (by omega),if_neg (by omega),List.getElem?_eq_none (by omega)]at hb;cases hb
    split at hb
    .rename_i hjo
     obtain⟨v,a1,a2,a3⟩:=hcell i j _ a hel hb
     exact⟨v,by rw[hat,if_pos (by omega)];exact a1,a2,a3⟩
    .rename_i hjo
     split at hb
     .rename_i hjs
      have hjc:j-off<(act.eval y).cells.size:=by omega
      obtain⟨a2,a3,_⟩:=q3 (j-off) _ a (Array.getElem?_eq_getElem hjc) hb
      refine⟨(act.eval y).cells[j-off],?_,a2,a3⟩
      rw[hat,if_neg (by omega),if_pos (by omega)]
      rw[show i*ob.sz+j-(i*ob.sz+off)=j-off from by omega]
      exact Array.getElem?_eq_getElem hjc
     .rename_i hjs
      obtain⟨v,a1,a2,a3⟩:=hcell i j _ a hel hb
      exact⟨v,by rw[hat,if_neg (by omega),if_neg (by omega)];exact a1,a2,a3⟩
   .cases hz
  .rename_i hik
   obtain⟨v,a1,a2,a3⟩:=hcell k j z a hz hb
   refine⟨v,?_,a2,a3⟩
   have hjlt:j<ob.sz:=by rw[<- hcells k z hz];exact(List.getElem?_eq_some_iff.1 hb).1
   rw[hat]
   rcases Nat.lt_or_gt_of_ne hik with q|q
   .have:(i+1)*ob.sz<=k*ob.sz:=Nat.mul_le_mul_right _ q
    rw[Nat.add_mul,Nat.one_mul]at this
    rw[if_neg (by omega),if_neg (by omega)];exact a1
   .have:(k+1)*ob.sz<=i*ob.sz:=Nat.mul_le_mul_right _ q
    rw[Nat.add_mul,Nat.one_mul]at this
    rw[if_pos (by omega)];exact a1
end
section
variable{P:Program}{Gl:Nat->Option (List AV)}{F:Addr->Option Value}{own:List Ent}{B:Nat}{w0:W0}{σ:St}{act:Act}{w w':World}
theorem Le.set{id:Nat}{e e':Ent}(he:own[id]?=some e)(hle:e'=e\/(e.G<e'.G/\0<e.sz/\0<e'.sz)):Le own (own.set id e'):=λk f hf=>by
 by_cases hk:id=k
 .subst hk
  rw[he]at hf
  cases hf
  exact⟨e',by rw[List.getElem?_set_self (List.getElem?_eq_some_iff.1 he).1],hle⟩
 .exact⟨f,by rw[List.getElem?_set_ne hk];exact hf,.inl rfl⟩
theorem Inv.upd (h:Inv Gl F own B w0 σ act w) {id:Nat} {e e':Ent} {ob ob':ah} (he:own[id]?=some e) (hob:σ.h[id]?=some ob) (hle:e'=e\/(e.G < e'.G/\0 < e.sz/\0 < e'.sz)) (hF:∀ a x,F a=some x->w'.cell? a=some x)
  (hoth:∀(id':Nat) (f:Ent) (g:Nat),id'≠id->own[id']?=some f->f.g=some g->w'.heap[g]?=w.heap[g]?/\e'.g≠some g) (hO':iN F (own.set id e') w' e' ob') (hb:Below B w0.w w') (hbase:∀g,e'.g=some g->B<=g)
  (hpw:∀g,g<w.heap.size->qR own g->w'.heap[g]?=w.heap[g]?) (hpe:∀g,e'.g=some g->e.g=some g\/w.heap.size<=g) :
  Inv Gl F (own.set id e') B w0 ⟨σ.t,σ.h.set id ob'⟩ act w':=by
 have hlt:id<own.length:=(List.getElem?_eq_some_iff.1 he).1
 have hlt':id<σ.h.length:=(List.getElem?_eq_some_iff.1 hob).1
 have hLe:Le own (own.set id e'):=Le.set he hle
 have get:∀(k:Nat) (f:Ent),(own.set id e')[k]?=some f->(k=id/\f=e')\/(k≠id/\own[k]?=some f):=λk f hf=>by
  by_cases hk:id=k
  .subst hk;rw[List.getElem?_set_self hlt]at hf;cases hf;exact .inl ⟨rfl,rfl⟩
  .rw[List.getElem?_set_ne hk]at hf;exact .inr ⟨λq=>hk q.symm,hf⟩
 refine h.turn (λ_ _ q=>q) hLe hF (by simp[h.hl]) (λk f o' p q=>?_) (λi j f f' g p q r s=>?_) hb (λk f g p q=>?_) (hpw:=hpw) (hpo:=λk f g p q=>by
  rcases get k f p with⟨rfl,rfl⟩|⟨hk,hf⟩
  .rcases hpe g q with r|r
   .exact .inl λn=>n k e he r
   .exact .inr r
  .exact .inl λn=>n k f hf q)
 .have q':(σ.h.set id ob')[k]?=some o':=q
  rcases get k f p with⟨rfl,rfl⟩|⟨hk,hf⟩
  .rw[List.getElem?_set_self hlt']at q';cases q';exact hO'
  .rw[List.getElem?_set_ne (λq=>hk q.symm)]at q'
   have hO:=h.objs k f o' hf q'
   exact hO.mono (λ_ _ r=>r) hLe (λg hg=>(hoth k f g hk hf hg).1) (λg j hg hj=>hO.fz hg hj)
 .rcases get i f p with⟨rfl,rfl⟩|⟨hi,hf⟩<;>rcases get j f' q with⟨rfl,rfl⟩|⟨hj,hf'⟩
  .rfl
  .exact absurd r (hoth j f' g hj hf' s).2
  .exact absurd s (hoth i f g hi hf r).2
  .exact h.inj i j f f' g hf hf' r s
 .rcases get k f p with⟨rfl,rfl⟩|⟨hk,hf⟩
  .exact hbase g q
  .exact h.base k f g hf q
theorem Inv.Ck(h:Inv Gl F own B w0 σ act w)(ty sz:Nat)(pr:Bool)(hsz:0<sz):Inv Gl F (own++[⟨none,0,sz,0⟩]) B w0 ⟨σ.t,σ.h++[⟨ty,sz,0,pr,[]⟩]⟩ act w:=by
 have get:∀(k:Nat) (f:Ent),(own++[(⟨none,0,sz,0⟩:Ent)])[k]?=some f->(k=own.length/\f=⟨none,0,sz,0⟩)\/(k<own.length/\own[k]?=some f):=λk f hf=>by
  rcases Nat.lt_or_ge k own.length with hk|hk
  .rw[List.getElem?_append_left hk]at hf;exact .inr ⟨hk,hf⟩
  .rw[List.getElem?_append_right hk]at hf
   have h0:k-own.length=0:=by
    rcases Nat.eq_zero_or_pos (k-own.length) with h0|h0
    .exact h0
    .rw[List.getElem?_eq_none (by simp;omega)]at hf;cases hf
   rw[h0]at hf
   simp at hf
   exact .inl ⟨by omega,hf.symm⟩
 refine h.turn (λ_ _ q=>q) (Le.snoc _ _) h.sub (by simp[h.hl]) (λk f o' p q=>?_) (λi j f f' g p q r s=>?_) h.below (λk f g p q=>?_) (hpo:=Ah λg q=>by cases q)
 .have q':(σ.h++[(⟨ty,sz,0,pr,[]⟩:ah)])[k]?=some o':=q
  rcases get k f p with⟨rfl,rfl⟩|⟨hk,hf⟩
  .rw[h.hl,List.getElem?_append_right (Nat.le_refl _)]at q'
   simp at q'
   subst q'
   exact iO.r ⟨rfl,rfl,hsz,Nat.le_refl _,by simp[maxLen],by simp,λi x hx=>by simp at hx,rfl⟩
  .rw[List.getElem?_append_left (by rw[<- h.hl];exact hk)]at q'
   have hO:=h.objs k f o' hf q'
   exact hO.mono (λ_ _ r=>r) (Le.snoc _ _) (λg hg=>rfl) (λg j hg hj=>hO.fz hg hj)
 .rcases get i f p with⟨rfl,rfl⟩|⟨hi,hf⟩
  .cases r
  .rcases get j f' q with⟨rfl,rfl⟩|⟨hj,hf'⟩
   .cases s
   .exact h.inj i j f f' g hf hf' r s
 .rcases get k f p with⟨rfl,rfl⟩|⟨hk,hf⟩
  .cases q
  .exact h.base k f g hf q
structure Src (F:Addr->Option Value) (w:World) (sz:Nat) (x:Value) (ys:List AV):Prop where
 ex:∃(A:Option Addr) (c:Nat) (news:List Value),x=.slice A ys.length c/\(A=none->ys=[])/\(A=none->c=0)/\news.length=ys.length*sz/\(∀ad,A=some ad->∀(j:Nat) (u:Value),news[j]?=some u->w.cell? (ad.add j)=some u)/\(∀u∈news,u.oneCell'=true)/\
  (∀(i j:Nat) (e a:AV),ys[i]?=some e->e.cells[j]?=some a->∃y,news[i*sz+j]?=some y/\y.oneCell'=true/\RP F y a)
 cl:∀(i:Nat) (e:AV),ys[i]?=some e->e.cells.length=sz
theorem xB(h:Inv Gl F own B w0 σ act w){x:Value}{a:AV}(hR:R F own x a){sz:Nat}(hsz:0<sz){ys:List AV}(hs:dh σ.h sz a=some ys):Src F w sz x ys:=by
 have idx:∀(k n:Nat),k<n*sz->k/sz<n/\k%sz<sz/\k/sz*sz+k%sz=k:=λk n hk =>
  ⟨(Nat.div_lt_iff_lt_mul hsz).2 hk,Nat.mod_lt _ hsz,by rw[Nat.mul_comm];exact Nat.div_add_mod k sz⟩
 have Cu:∀(i j n:Nat),i<n->j<sz->i*sz+j<n*sz:=λi j n hi hj=>by
  have:(i+1)*sz<=n*sz:=Nat.mul_le_mul_right _ hi
  rw[Nat.add_mul,Nat.one_mul]at this;omega
 unfold dh at hs
 split at hs
 .rename_i sz' xs
  split at hs
  .rename_i e
   subst e
   cases hs
   have hq:=hR.dw
   cases hq with
   |nil=>exact⟨⟨none,0,[],rfl,λ_=>rfl,λ_=>rfl,by simp,(λad q=>by cases q),(λu q=>by simp at q),(λi j e a q=>by simp at q)⟩,λi e q=>by simp at q⟩
   |list ad n cap sz xs cv hn hc hz hF hR' =>
    have hnews:∀(k:Nat) (u:Value),((List.range (ys.length*sz')).map cv)[k]?=some u->k<ys.length*sz'/\u=cv k:=λk u hu=>by
     have hk:k<ys.length*sz':=by have:=(List.getElem?_eq_some_iff.1 hu).1;simpa using this
     simp[List.getElem?_eq_getElem,hk]at hu
     exact⟨hk,hu.symm⟩
    have cell:∀k,k<ys.length*sz'->F (ad.add k)=some (cv k)/\(cv k).oneCell'=true:=λk hk=>by
     obtain⟨k1,k2,k3⟩:=idx k _ hk
     have e1:ys[k/sz']?=some ys[k/sz']:=List.getElem?_eq_getElem k1
     have hl:=hz _ _ e1
     have e2:(ys[k/sz']).cells[k%sz']?=some ((ys[k/sz']).cells[k%sz']'(by omega)):=List.getElem?_eq_getElem (by omega)
     have:=hF _ _ _ _ e1 e2
     rw[k3]at this
     exact this
    refine⟨⟨some ad,cap,(List.range (ys.length*sz')).map cv,by rw[hn],(λq=>by cases q),(λq=>by cases q),by simp,?_,?_,?_⟩,hz⟩
    .rintro ad' rfl' j u hu
     cases rfl'
     obtain⟨hj,rfl⟩:=hnews j u hu
     exact h.sub _ _ (cell j hj).1
    .intro u hu
     obtain⟨j,hj,rfl⟩:=List.mem_iff_getElem.1 hu
     obtain⟨hj',e⟩:=hnews j _ (List.getElem?_eq_getElem hj)
     rw[e];exact(cell j hj').2
    .intro i j e a q q'
     have hi:i<ys.length:=(List.getElem?_eq_some_iff.1 q).1
     have hj:j<sz':=by rw[<- hz i e q];exact(List.getElem?_eq_some_iff.1 q').1
     have hlt:=Cu i j _ hi hj
     refine⟨cv (i*sz'+j),?_,(cell _ hlt).2,hR' i j e a q q'⟩
     simp[List.getElem?_eq_getElem,hlt]
  .cases hs
 .cases hs
  have:=hR.aH
  subst this
  exact⟨⟨none,0,[],rfl,λ_=>rfl,λ_=>rfl,by simp,(λad q=>by cases q),(λu q=>by simp at q),(λi j e a q=>by simp at q)⟩,λi e q=>by simp at q⟩
 .rename_i id G sz' off len
  obtain⟨e,he1,hG,hst,hx⟩:=hR.fP
  obtain⟨ob,hob,hO⟩:=h.lD he1
  have hO:=hO.qx (hR.iG he1)
  rw[hob]at hs
  simp only at hs
  split at hs
  .rename_i hc
   obtain⟨c1,c2,c3,c4⟩:=hc
   subst c2
   cases hs
   obtain⟨q1,q2,qe⟩:=hx (by rw[hO.1,c1])
   by_cases hex:0<len\/off=0
   case neg =>
    obtain⟨a,cap,hx0,_,ha'⟩:=hst
    have hl0:len=0:=by omega
    subst hl0
    have:=ha' (by omega)
    cases a with
    |none=>cases this
    |some ad=>exact⟨⟨some ad,cap,[],by rw[hx0];simp,(λq=>by cases q),(λq=>by cases q),by simp,(λad' q j u hu=>by simp at hu),(λu q=>by simp at q),(λi j e a q=>by simp at q)⟩,λi e q=>by simp at q⟩
   obtain⟨cp,qc,q3⟩:=qe hex
   have a18:len<=cp:=by obtain⟨_,_,e1,e2,_⟩:=hst;rw[q3]at e1;injection e1 with _ _ e1;omega
   have hcl:=hO.2.2.2.2.2.2.1
   have hlen:((ob.es.drop off).take len).length=len:=by simp;omega
   have hel:∀(i:Nat) (y:AV),((ob.es.drop off).take len)[i]?=some y->i<len/\ob.es[off+i]?=some y:=λi y hy=>by
    rw[List.getElem?_take]at hy
    split at hy
    .rw[List.getElem?_drop]at hy;exact⟨by assumption,hy⟩
    .cases hy
   have hcl':∀(i:Nat) (y:AV),((ob.es.drop off).take len)[i]?=some y->y.cells.length=sz':=λi y hy=>by rw[<- c3];exact hcl _ _ (hel i y hy).2
   refine⟨?_,hcl'⟩
   rw[hlen]
   cases hg:e.g with
   |none =>
    have hcap:e.cap=0:=by have:=hO.2.2.2.2.2.2.2;rw[hg]at this;exact this
    have hG0:e.G=0:=by have:=hO.2.2.2.1;omega
    have a4C:len=0:=by omega
    subst a4C
    rw[hg]at q3
    exact⟨none,_,[],q3,(λ_=>by simp),(λ_=>by omega),by simp,(λad q=>by cases q),(λu q=>by simp at q),(λi j e a q=>by simp at q)⟩
   |some g =>
    rw[hg]at q3
    obtain⟨cs,fr,hblk,_,hcsz,hcell⟩:=hO.yM hg
    rw[c3]at hcsz hcell
    have hcap:e.G<=e.cap:=hO.2.2.2.1
    have hle:(off+len)*sz'<=cs.size:=by rw[hcsz];exact Nat.mul_le_mul_right _ (by omega)
    rw[Nat.add_mul]at hle
    have hn:∀(j:Nat),j<len*sz'->((cs.toList.drop (off*sz')).take (len*sz'))[j]?=cs[off*sz'+j]?:=λj hj=>by
     rw[List.getElem?_take,if_pos hj,List.getElem?_drop];simp
    have hnl:((cs.toList.drop (off*sz')).take (len*sz')).length=len*sz':=by simp;omega
    refine⟨some ⟨g,off*sz',none⟩,_,(cs.toList.drop (off*sz')).take (len*sz'),q3,(λq=>by cases q),(λq=>by cases q),hnl,?_,?_,?_⟩
    .rintro ad' rfl' j u hu
     cases rfl'
     have hj:j<len*sz':=by rw[<- hnl];exact(List.getElem?_eq_some_iff.1 hu).1
     rw[hn j hj]at hu
     rw[Addr.add_lit,cell_of_row w g _ cs ob.ty fr hblk];exact hu
    .intro u hu
     obtain⟨j,hju⟩:=List.mem_iff_getElem?.1 hu
     have hj:=(List.getElem?_eq_some_iff.1 hju).1
     rw[hnl]at hj
     rw[hn j hj]at hju
     obtain⟨k1,k2,k3⟩:=idx j _ hj
     have e1:ob.es[off+j/sz']?=some (ob.es[off+j/sz']'(by omega)):=List.getElem?_eq_getElem (by omega)
     have hl:=hcl _ _ e1
     rw[c3]at hl
     have e2:=List.getElem?_eq_getElem (l:=(ob.es[off+j/sz']'(by omega)).cells) (i:=j%sz') (by omega)
     obtain⟨y,a1,a2,_⟩:=hcell _ _ _ _ e1 e2
     rw[Nat.add_mul,Nat.add_assoc,k3,hju]at a1
     cases a1
     exact a2
    .intro i j y a q q'
     obtain⟨hi,q0⟩:=hel i y q
     have hj:j<sz':=by rw[<- hcl' i y q];exact(List.getElem?_eq_some_iff.1 q').1
     obtain⟨v,a1,a2,a3⟩:=hcell _ _ _ _ q0 q'
     refine⟨v,?_,a2,?_⟩
     .rw[hn _ (Cu i j _ hi hj),<- a1,Nat.add_mul,Nat.add_assoc]
     .unfold RC at a3;rw[if_pos c4]at a3;exact a3
  .cases hs
 .cases hs
theorem qQ {sz m n:Nat} {olds news:List Value} {es ys:List AV} {zs:Array Value} (hn:es.length=n) (hm:ys.length=m) (ho:olds.length=n * sz) (hl:news.length=m * sz)
  (hO:∀(i j:Nat) (e a:AV),es[i]?=some e->e.cells[j]?=some a->∃y,olds[i*sz+j]?=some y/\y.oneCell'=true/\RP F y a) (hce:∀(i:Nat) (e:AV),es[i]?=some e->e.cells.length=sz)
  (hN:∀(i j:Nat) (e a:AV),ys[i]?=some e->e.cells[j]?=some a->∃y,news[i*sz+j]?=some y/\y.oneCell'=true/\RP F y a) (hcy:∀(i:Nat) (e:AV),ys[i]?=some e->e.cells.length=sz) :
  (∀(i:Nat) (e:AV),(es++ys)[i]?=some e->e.cells.length=sz)/\
  ∀(i j:Nat) (e a:AV),(es++ys)[i]?=some e->e.cells[j]?=some a->∃y,(olds.toArray++news.toArray++zs)[i*sz+j]?=some y/\y.oneCell'=true/\RP F y a:=by
 have Cu:∀(i j n:Nat),i<n->j<sz->i*sz+j<n*sz:=λi j n hi hj=>by
  have:(i+1)*sz<=n*sz:=Nat.mul_le_mul_right _ hi
  rw[Nat.add_mul,Nat.one_mul]at this;omega
 refine⟨λi e q=>?_,λi j e a q q'=>?_⟩
 .rcases Nat.lt_or_ge i es.length with hi|hi
  .rw[List.getElem?_append_left hi]at q;exact hce i e q
  .rw[List.getElem?_append_right hi]at q;exact hcy _ e q
 .rcases Nat.lt_or_ge i es.length with hi|hi
  .rw[List.getElem?_append_left hi]at q
   have hj:j<sz:=by rw[<- hce i e q];exact(List.getElem?_eq_some_iff.1 q').1
   obtain⟨y,a1,a2,a3⟩:=hO i j e a q q'
   have hlt:=Cu i j n (by omega) hj
   refine⟨y,?_,a2,a3⟩
   rw[Array.getElem?_append_left (by simp;omega),Array.getElem?_append_left (by simp;omega)]
   simpa using a1
  .rw[List.getElem?_append_right hi]at q
   have hj:j<sz:=by rw[<- hcy _ e q];exact(List.getElem?_eq_some_iff.1 q').1
   have hi2:i-es.length<m:=by rw[<- hm];exact(List.getElem?_eq_some_iff.1 q).1
   obtain⟨y,a1,a2,a3⟩:=hN _ j e a q q'
   have hlt:=Cu (i-es.length) j m hi2 hj
   have heq:i*sz+j=n*sz+((i-es.length)*sz+j):=by
    rw[<- Nat.add_assoc,<- Nat.add_mul];congr 2;omega
   refine⟨y,?_,a2,a3⟩
   rw[Array.getElem?_append_left (by simp;omega),Array.getElem?_append_right (by simp;omega)]
   rw[<- a1]
   simp
   congr 1
   omega
def EG(P:Program)(w:World)(t tx ty et:TypeId)(i:TypeInfo)(z x:Value)(n:Nat)(news:List Value):Prop :=
 (n=0->∀(a:Option Addr) (m cap:Nat),m<=cap->(Builtin.append_ #[t,tx] ty #[.slice a m cap,x]).run P w=.ok (.slice a m cap) w)/\
 (0<n->n*i.bytes<=fu->n<=4611686018427387904->(Builtin.append_ #[t,tx] ty #[.slice none 0 0,x]).run P w=.ok (.slice (some ⟨w.heap.size,0,none⟩) n (grownCap w n 0 et)) (w.drew.alloc (.cells (news.toArray++Builtin.zeroCells z.cells (grownCap w n 0 et-n)) et)))/\
 (0<n->∀(g len cp:Nat) (cur:Array Value) (fr:Nat×Nat),w.heap[g]?=some (.cells cur et fr)->EF fr cur.size->len+n<=cp->len*i.size+news.length<=cur.size->(Builtin.append_ #[t,tx] ty #[.slice (some ⟨g,0,none⟩) len cp,x]).run P w=.ok (.slice (some ⟨g,0,none⟩) (len+n) cp) (w.setRow g (cur.toList.take (len*i.size)++news++cur.toList.drop (len*i.size+news.length)).toArray))/\
 (0<n->∀(g len cp:Nat) (olds:List Value),olds.length=len*i.size->(∀j v,olds[j]?=some v->w.cell? ((⟨g,0,none⟩:Addr).add j)=some v)->cp<len+n->len+n<=4611686018427387904->Builtin.nextslicecap (len+n) cp*i.bytes<=281474976710656->(Builtin.append_ #[t,tx] ty #[.slice (some ⟨g,0,none⟩) len cp,x]).run P w=.ok (.slice (some ⟨w.heap.size,0,none⟩) (len+n) (grownCap w (len+n) cp et)) (w.drew.alloc (.cells (olds.toArray++news.toArray++Builtin.zeroCells z.cells (grownCap w (len+n) cp et-(len+n))) et)))
theorem FZ{t ty et:TypeId}{i:TypeInfo}{z:Value}(ht:P.underlying t=some (.slice et))(hi:P.info? et=some i)(hz:i.zero=some z)(A:Option Addr)(n c:Nat)(news:List Value)(hA:A=none->n=0)(hnl:news.length=n*i.size)(p8:∀ad,A=some ad->∀j v,news[j]?=some v->w.cell? (ad.add j)=some v)(hn1:∀u∈news,u.oneCell'=true):EG P w t t ty et i z (.slice A n c) n news:=by
 refine⟨λhn a m cap hle=>?_,λhpos hb hl=>?_,λhpos g len cp cur fr hg hnf hroom hfit=>?_,λhpos g len cp olds hlo holds hcp hl hfit=>?_⟩
 .subst hn
  cases A with
  |none=>cases a<;>simp[Builtin.append_,run_underlying ht,sizeOf,typeInfo,hi,Builtin.lenOf,Builtin.firstCells,hle,storeCells]
  |some ad=>cases a<;>simp[Builtin.append_,run_underlying ht,sizeOf,typeInfo,hi,Builtin.lenOf,Builtin.firstCells,loadCells,loadCellsFrom,hle,storeCells]
 .cases A with
  |none=>have:=hA rfl;omega
  |some ad=>exact run_append_nil w t ty et i z ht hi hz ad n c news hnl (p8 ad rfl) hpos (by omega) (by unfold fu at hb;omega)
 .cases A with
  |none=>have:=hA rfl;omega
  |some ad =>
   have hf:=run_firstCells_some (P:=P) w i.size n ad n c news hnl (p8 ad rfl)
   have hst:=iF P g (len*i.size) et fr news 0 cur w hg hnf (by simpa using hfit) hn1
   simp only[Nat.add_zero]at hst
   simp[Builtin.append_,run_underlying ht,sizeOf,typeInfo,hi,Builtin.lenOf,hroom,hf,Addr.add_lit,hst]
 .cases A with
  |none=>have:=hA rfl;omega
  |some ad=>exact run_append_grow (P:=P) w t ty et i z ht hi hz ⟨g,0,none⟩ len cp olds hlo holds ad n c news hnl (p8 ad rfl) hcp (by omega) hfit
theorem Ey{t u ty et:TypeId}{i:TypeInfo}{z:Value}(ht:P.underlying t=some (.slice et))(hu:P.underlying u=some .string)(hi:P.info? et=some i)(hz:i.zero=some z)(hs1:i.size=1)(s:ByteArray):EG P w t u ty et i z (.string s) s.size (Lib.strCells s):=by
 refine⟨λhn a m cap hle=>?_,λhpos hb hl=>?_,λhpos g len cp cur fr hg hnf hroom hfit=>?_,λhpos g len cp olds hlo holds hcp hl hfit=>?_⟩
 .have hf:=Lib.run_firstCells_string (P:=P) w i.size s
  have h0:Lib.strCells s=[]:=List.eq_nil_of_length_eq_zero (by rw[Lib.strCells_length];exact hn)
  rw[hn,h0]at hf
  cases a<;>simp[Builtin.append_,run_underlying ht,run_underlying hu,sizeOf,typeInfo,hi,Builtin.lenOf,hn,hf,hle,storeCells]
 .have hr:=run_append_nil_string (P:=P) w t u ty et i z ht hu hi hz s hpos (by omega) (by unfold fu at hb;omega)
  have e1:(s.data.map λb=>Value.int .u8 b.toNat)=(Lib.strCells s).toArray:=by
   apply Array.ext'
   simp[Lib.strCells]
  rw[e1]at hr
  exact hr
 .have hf:=Lib.run_firstCells_string (P:=P) w i.size s
  have hst:=iF P g (len*i.size) et fr (Lib.strCells s) 0 cur w hg hnf (by simpa using hfit) (Lib.strCells_oneCell s)
  simp only[Nat.add_zero]at hst
  simp[Builtin.append_,run_underlying ht,run_underlying hu,sizeOf,typeInfo,hi,Builtin.lenOf,hroom,hf,Addr.add_lit,hst]
 .exact Lib.run_append_grow_string (P:=P) w t u ty et i z ht hu hi hz ⟨g,0,none⟩ len cp olds hlo holds s hcp (by omega) hfit
theorem JN (h : Inv Gl F own B w0 σ act w) {o : Oper} {t tx et : TypeId} {s x : Operand} (ho : o.op = .call { callee := .builtin .append, args := #[s, x], argTypes := #[t, tx] }) {i : TypeInfo} {z : Value} (hzs : z.cells.size = i.size) (h0 : 0 < i.size)
    {ys:List AV} {news:List Value} (hnl:news.length=ys.length*i.size) (hn1:∀u∈news,u.oneCell'=true) (hnR:∀(k j:Nat) (e a:AV),ys[k]?=some e->e.cells[j]?=some a->∃y,news[k*i.size+j]?=some y/\y.oneCell'=true/\RP F y a) (rR:∀(k:Nat) (e:AV),ys[k]?=some e->e.cells.length=i.size)
    (HA:EG P w t tx o.type et i z (act.eval x) ys.length news)
    {p:Prop} {r:AV} {h':List ah} (hs:nL σ.h et i.size i.bytes (σ.val Gl (ak s)) ys=some (p,r,h')) (hp:p):Ok1 P Gl B w0 σ act w o r h':=by
  have hes:=h.ev s
  obtain⟨HE,HN,HR,HG⟩:=HA
  have run:∀ v w',(Builtin.append_ #[t,tx] o.type #[act.eval s,act.eval x]).run P w=.ok v w'->(execOp act.eval o).run P w=.ok (.value v) w':=by
    intro v w' hr
    unfold execOp
    simp only[ho,resolve,invoke,builtin,Sem.run_bind,Sem.run_pure,Result.andThen_ok,List.map_toArray,List.map_cons,List.map_nil,hr]
  have empty:∀ (a:Option Addr) (n cap:Nat),ys=[]->act.eval s=.slice a n cap->n<=cap->(execOp act.eval o).run P w=.ok (.value (.slice a n cap)) w:=by
    intro a n cap hy0 hv hle
    refine run _ _ ?_
    rw[hv]
    exact HE (by rw[hy0];rfl) a n cap hle
  have fresh : act.eval s = .slice none 0 0 -> 0 < ys.length -> ys.length * i.bytes <= fu -> ys.length <= 4611686018427387904 ->
      (execOp act.eval o).run P w=.ok (.value (.slice (some ⟨w.heap.size,0,none⟩) ys.length (grownCap w ys.length 0 et))) (w.drew.alloc (.cells (news.toArray++Builtin.zeroCells z.cells (grownCap w ys.length 0 et-ys.length)) et)):=by
    intro hv hpos hb hl
    refine run _ _ ?_
    rw[hv]
    exact HN hpos hb hl
  unfold nL at hs
  refine(fun(q:Ok1 P Gl B w0 σ act w o r h')=>q) ?_
  · skip
    have hdr:Inv Gl F own B w0 σ act w.drew:=h.same rfl rfl rfl rfl
    have hcapge:=grownCap_ge w ys.length 0 et
    have hcells0:=qQ (F:=F) (zs:=Builtin.zeroCells z.cells (grownCap w ys.length 0 et-ys.length)) (n:=0) (es:=[]) (olds:=[]) rfl rfl (by simp) hnl (λi j e a q=>by simp at q) (λi e q=>by simp at q) hnR rR
    simp only[List.nil_append,Array.empty_append]at hcells0
    split at hs
    · rename_i hv
      rw[hv]at hes
      have hsv:=hes.aH
      obtain⟨rfl,h2⟩:=Prod.mk.inj (Option.some.inj hs)
      obtain⟨rfl,rfl⟩:=Prod.mk.inj h2
      obtain⟨p1,p2⟩:=hp
      rcases Nat.eq_zero_or_pos ys.length with hy0|hy0
      · have hy0':ys=[]:=List.eq_nil_of_length_eq_zero hy0
        refine⟨_,_,w,F,own++[⟨none,0,i.size,0⟩],empty none 0 0 hy0' hsv (Nat.le_refl _),.inl rfl,?_,?_⟩
        .subst hy0';exact h.Ck et i.size true h0
        · subst hy0'
          rw[<- h.hl]
          exact .row _ _ _ _ _ _ _ eZ (by simp) ⟨_,_,rfl,by simp,λq=>by simp at q⟩ (λ_=>⟨rfl,by simp,λ_=>⟨_,Nat.le_of_eq (Nat.zero_add _),by simp⟩⟩) (by first|omega|assumption|(simp;done)|(simp;omega)|(dsimp only;omega))
      · have hcm:=grownCap_le_maxLen w ys.length 0 et (by simp only [maxLen]; omega)
        refine⟨_,_,_,F,_,fresh hsv hy0 p1 p2,.inl rfl,hdr.new _ ⟨et,i.size,0,true,ys⟩ (grownCap w ys.length 0 et) h0 rfl hcapge hcm rR ?_ (λk j e a q q'=>?_),?_⟩
        · simp only [Array.size_append,List.size_toArray,size_zeroCells,hzs,hnl,<- Nat.add_mul]
          congr 1;omega
        · obtain ⟨y,a1,a2,a3⟩:=hcells0.2 k j e a q q'
          exact⟨y,a1,a2,a3⟩
        · rw [<- h.hl]
          refine .row _ _ _ _ _ _ _ eZ (by simp) ⟨_,_,rfl,hcapge,λ_=>rfl⟩ (λ_=>⟨rfl,by simp,λ_=>⟨_,Nat.le_of_eq (Nat.zero_add _),?_⟩⟩) (by first|omega|assumption|(simp;done)|(simp;omega)|(dsimp only;omega))
          simp
    · rename_i id G sz' off len hv
      rw[hv]at hes
      obtain⟨e,he1,hG,hst,hx⟩:=hes.fP
      obtain⟨ob,hob,hO⟩:=h.lD he1
      have hO:=hO.qx (hes.iG he1)
      rw[hob]at hs
      simp only at hs
      split at hs
      · rename_i hc
        obtain⟨c1,rfl,c3,c4,rfl,c6,c7⟩:=hc
        obtain⟨rfl,h2⟩:=Prod.mk.inj (Option.some.inj hs)
        obtain⟨rfl,rfl⟩:=Prod.mk.inj h2
        obtain⟨rfl,p1,p2⟩:=hp
        obtain⟨q1,q2,qe⟩:=hx (by rw[hO.1,c1])
        obtain⟨cp,qc,q3⟩:=qe (.inr rfl)
        simp only[Nat.zero_mul,Nat.zero_add]at q3 qc
        have a18:len<=cp:=by obtain⟨_,_,e1,e2,_⟩:=hst;rw[q3]at e1;injection e1 with _ _ e1;omega
        have hcap:e.G<=e.cap:=hO.2.2.2.1
        have heG:e.G=len:=by rw[hO.1,c1]
        have hcl:=hO.2.2.2.2.2.2.1
        have lY:id<own.length:=(List.getElem?_eq_some_iff.1 he1).1
        rcases Nat.eq_zero_or_pos ys.length with hy0|hy0
        · have hy0':ys=[]:=List.eq_nil_of_length_eq_zero hy0
          refine⟨_,_,w,F,own,empty _ _ _ hy0' q3 (by omega),.inl rfl,?_,?_⟩
          · subst hy0'
            simp only[List.append_nil]
            have:σ.h.set id { ob with es:=ob.es }=σ.h:=by
              apply List.ext_getElem?
              intro k
              rw[List.getElem?_set]
              split
              · rename_i hk; subst hk; split
                .rw[hob]
                .rename_i hn;rw[List.getElem?_eq_none (by omega)]
              .rfl
            rw[this];exact h
          · subst hy0'
            rw[<- q3]
            simpa using hes
        · have hlt:e.G < (⟨some w.heap.size,len + ys.length,e.sz,grownCap w (len + ys.length) cp et⟩:Ent).G:=by simp only; omega
          cases hg:e.g with
          | none =>
            rw[hg]at q3
            have hcap0:e.cap=0:=by have:=hO.2.2.2.2.2.2.2;rw[hg]at this;exact this
            have hl0:len=0:=by omega
            subst hl0
            have hsv:act.eval s=.slice none 0 0:=by rw[q3,show cp=0 by omega];rfl
            have UO:ob.es=[]:=List.eq_nil_of_length_eq_zero c1
            have hcm:=grownCap_le_maxLen w ys.length 0 et (by simp only[maxLen];omega)
            have hnew:=heap_alloc_new w.drew (.cells (news.toArray++Builtin.zeroCells z.cells (grownCap w ys.length 0 et-ys.length)) et)
            have a8Q:ob.fz=0:=by have:=hO.2.2.2.2.2.1;omega
            refine⟨_,_,_,F,own.set id ⟨some w.heap.size,ys.length,i.size,grownCap w ys.length 0 et⟩,fresh hsv hy0 (by simpa using p1) (by omega),.inl rfl,?_,?_⟩
            · refine hdr.upd he1 hob (.inr ⟨by simp only; omega,by have:=hO.2.1; have:=hO.2.2.1; omega,by have:=hO.2.1; have:=hO.2.2.1; simp only; omega⟩) (fun a x q=>?_) (fun k f g hk hf hg'=>⟨Below.heap_alloc _ _ _ (hdr.tN hf hg'),?_⟩) ?_ (hdr.below.alloc (Nat.le_trans h.room h.below.size) _) (fun g q=>?_) (fun g hg' _=>Below.heap_alloc _ _ _ hg') (fun g q=>by cases q; exact .inr (Nat.le_refl _))
              .rw[World.cell?_alloc_lt _ _ _ (hdr.qK q)];exact hdr.sub a x q
              .intro q;cases q;have:=h.tN hf hg';omega
              · refine iO.r ⟨by simp [UO],by simp [c4],by simp [c4,h0],hcapge,⟨hcm,fun q=>by have q:ob.pr=false:=q; rw [c6] at q; cases q⟩,by simp [a8Q],fun k y hy=>?_,?_⟩
                .simp only[UO,List.nil_append]at hy;rw[c4];exact rR k y hy
                · refine ⟨_,⟨_,by rw [c3]; exact hnew,.inl (MS _)⟩,?_,fun k j y a q q'=>?_,fun j _=>?_⟩
                  · simp only [Array.size_append,List.size_toArray,size_zeroCells,hzs,hnl,<- Nat.add_mul,c4]
                    congr 1;omega
                  · simp only [UO,List.nil_append] at q
                    obtain⟨y',a1,a2,a3⟩:=hcells0.2 k j y a q q'
                    refine⟨y',by rw[c4];exact a1,a2,?_⟩
                    unfold RC;rw[if_pos c6];exact a3
                  · rcases hF:F ⟨w.heap.size,j,none⟩ with _ | y'
                    .rfl
                    .have:=h.qK hF;simp at this
              .cases q;exact Nat.le_trans h.room h.below.size
            · simp only [Nat.zero_add]
              refine .row _ _ _ _ _ _ ⟨some w.heap.size,ys.length,i.size,grownCap w ys.length 0 et⟩ (by rw[List.getElem?_set_self lY]) (by simp) ⟨_,_,rfl,hcapge,λ_=>rfl⟩ (λ_=>⟨rfl,by simp,λ_=>⟨_,Nat.le_of_eq (Nat.zero_add _),by simp⟩⟩) (by first|omega|assumption|(simp;done)|(simp;omega)|(dsimp only;omega))
          | some g =>
            rw[hg]at q3
            simp only[Option.map_some]at q3
            obtain⟨cur,fr,hblk,hnf,hcsz,hcell⟩:=hO.blk hg (.inl c7)
            rw[c4]at hcsz hcell
            have a4B:len*i.size<=cur.size:=by rw[hcsz];exact Nat.mul_le_mul_right _ (by omega)
            have qE:(cur.toList.take (len*i.size)).length=len*i.size:=by simp;omega
            have NW:∀ (k j:Nat) (y a:AV),ob.es[k]?=some y->y.cells[j]?=some a->∃ v,(cur.toList.take (len * i.size))[k * i.size + j]?=some v/\v.oneCell'=true/\RP F v a:=fun k j y a q q'=>by
              obtain⟨v,a1,a2,a3⟩:=hcell k j y a q q'
              have hk:k<len:=by rw[<- c1];exact(List.getElem?_eq_some_iff.1 q).1
              have hj:j<i.size:=by have:=hcl k y q;rw[c4]at this;rw[<- this];exact(List.getElem?_eq_some_iff.1 q').1
              have hlt':k * i.size + j < len * i.size:=by
                have:(k+1)*i.size<=len*i.size:=Nat.mul_le_mul_right _ hk
                rw[Nat.add_mul,Nat.one_mul]at this;omega
              refine⟨v,by rw[List.getElem?_take,if_pos hlt'];simpa using a1,a2,?_⟩
              unfold RC at a3;rw[if_pos c6]at a3;exact a3
            have NS:∀(k:Nat) (y:AV),ob.es[k]?=some y->y.cells.length=i.size:=λk y q=>by rw[<- c4];exact hcl k y q
            · skip
              by_cases hroom:len+ys.length<=cp
              · have hfit:len * i.size + news.length<=cur.size:=by rw [hnl,hcsz,<- Nat.add_mul]; exact Nat.mul_le_mul_right _ (Nat.le_trans hroom qc)
                have hr:=HR hy0 g len cp cur fr (by rw[<- c3];exact hblk) hnf hroom hfit
                have hr':=run _ _ (by rw[q3];exact hr)
                generalize hcs':(cur.toList.take (len*i.size)++news++cur.toList.drop (len*i.size+news.length)).toArray=cs' at hr'
                have hcs2:cs'=(cur.toList.take (len*i.size)).toArray++news.toArray++(cur.toList.drop (len*i.size+news.length)).toArray:=by rw[<- hcs'];simp
                have hcells:=qQ (F:=F) (zs:=(cur.toList.drop (len*i.size+news.length)).toArray) (n:=len) (es:=ob.es) c1 rfl qE hnl NW NS hnR rR
                rw[<- hcs2]at hcells
                refine⟨_,_,_,F,own.set id ⟨some g,len+ys.length,i.size,e.cap⟩,hr',.inl rfl,?_,?_⟩
                · refine h.upd he1 hob (.inr ⟨by simp only; omega,by have:=hO.2.1; have:=hO.2.2.1; omega,by have:=hO.2.1; have:=hO.2.2.1; simp only; omega⟩) (fun a x q=>?_) (fun k f g' hk hf hg'=>?_) ?_ ?_ (fun g' q=>?_) (fun k _ hk=>setRow_other w g k cs' fun q=>hk id e he1 (by rw [hg,q])) (fun g' q=>by cases q; exact .inl hg)
                  · have hc:=h.sub a x q
                    by_cases hab:a.block=g
                    · obtain ⟨b,off,spot⟩:=a
                      simp only at hab
                      subst hab
                      cases spot with
                      |some sp=>simp[World.cell?,hblk]at hc
                      | none =>
                        rw[cell_setRow_same w b off cur cs' ob.ty fr hblk]
                        rcases Nat.lt_or_ge off (ob.fz*ob.sz) with hlt'|hge
                        · have a9k:ob.fz * ob.sz<=len * i.size:=by rw [c4]; exact Nat.mul_le_mul_right _ (by have:=hO.2.2.2.2.2.1; omega)
                          rw[cell_of_row w b off cur ob.ty fr hblk]at hc
                          rw[<- hcs',List.getElem?_toArray,gX _ _ _ (by simpa using hfit),if_pos (by omega)]
                          simpa using hc
                        .rw[hO.fz hg hge]at q;cases q
                    .rw[World.cell?_of_block (w:=w) (setRow_other w g a.block cs' hab)];exact hc
                  · have hne:g' ≠ g:=fun q=>hk (h.inj k id f e g' hf he1 hg' (by rw [q]; exact hg))
                    exact⟨setRow_other w g g' cs' hne,λq=>hne (by cases q;rfl)⟩
                  · refine iO.r ⟨by simp [c1],by simp [c4],by simp [c4,h0],Nat.le_trans hroom qc,⟨hO.2.2.2.2.1.1,fun q=>by have q:ob.pr=false:=q; rw [c6] at q; cases q⟩,by have:=hO.2.2.2.2.2.1; simp; omega,fun k y hy=>by rw [c4]; exact hcells.1 k y hy,?_⟩
                    refine⟨cs',⟨fr,setRow_heap w g cur cs' ob.ty fr hblk,.inl ?_⟩,?_,λk j y a q q'=>?_,λj hj=>?_⟩
                    · have : cs'.size = cur.size := by
                        rw[<- hcs']
                        simp
                        omega
                      rw[this];exact hnf
                    · rw [<- hcs',c4,<- hcsz]
                      simp
                      omega
                    · obtain ⟨v,a1,a2,a3⟩:=hcells.2 k j y a q q'
                      refine⟨v,by rw[c4];exact a1,a2,?_⟩
                      unfold RC;rw[if_pos c6];exact a3
                    .exact hO.fz hg hj
                  · refine h.below.trans ⟨rfl,rfl,rfl,by simp,fun k hk=>setRow_other w g k cs' (fun e'=>?_)⟩
                    subst e'
                    have:=h.base id e k he1 hg
                    omega
                  .cases q;exact h.base id e g he1 hg
                .refine .row _ _ _ _ _ _ ⟨some g,len+ys.length,i.size,e.cap⟩ (by rw[List.getElem?_set_self lY]) (by simp) ⟨_,_,rfl,hroom,λ_=>rfl⟩ (λ_=>⟨rfl,by simp,λ_=>⟨_,by simpa using qc,by simp⟩⟩) (by have:=hO.2.1;have:=hO.2.2.1;first|omega|(simp only;omega))
              · have hr := HG hy0 g len cp (cur.toList.take (len * i.size)) qE (fun j v q => by
                    rw[List.getElem?_take]at q
                    split at q
                    .rw[Addr.add_lit,Nat.zero_add,cell_of_row w g j cur ob.ty fr hblk];simpa using q
                    .cases q) (by omega) (by omega) (growslice_fits (by omega) (by unfold fu at p1;exact p1))
                have hr':=run _ _ (by rw[q3];exact hr)
                have Jk:=grownCap_ge w (len+ys.length) cp et
                have hcm:=grownCap_le_maxLen w (len+ys.length) cp et (by simp only[maxLen];omega)
                have hcells:=qQ (F:=F) (zs:=Builtin.zeroCells z.cells (grownCap w (len+ys.length) cp et-(len+ys.length))) (n:=len) (es:=ob.es) c1 rfl qE hnl NW NS hnR rR
                generalize hcs':(cur.toList.take (len*i.size)).toArray++news.toArray++Builtin.zeroCells z.cells (grownCap w (len+ys.length) cp et-(len+ys.length))=cs' at hr' hcells
                have hnew:=heap_alloc_new w.drew (.cells cs' et)
                refine⟨_,_,_,F,own.set id ⟨some w.heap.size,len+ys.length,i.size,grownCap w (len+ys.length) cp et⟩,hr',.inl rfl,?_,?_⟩
                · refine hdr.upd he1 hob (.inr ⟨by simp only; omega,by have:=hO.2.1; have:=hO.2.2.1; omega,by have:=hO.2.1; have:=hO.2.2.1; simp only; omega⟩) (fun a x q=>?_) (fun k f g' hk hf hg'=>⟨Below.heap_alloc _ _ _ (hdr.tN hf hg'),?_⟩) ?_ (hdr.below.alloc (Nat.le_trans h.room h.below.size) _) (fun g' q=>?_) (fun g hg' _=>Below.heap_alloc _ _ _ hg') (fun g q=>by cases q; exact .inr (Nat.le_refl _))
                  .rw[World.cell?_alloc_lt _ _ _ (hdr.qK q)];exact hdr.sub a x q
                  .intro q;cases q;have:=h.tN hf hg';omega
                  · refine iO.r ⟨by simp [c1],by simp [c4],by simp [c4,h0],Jk,⟨hcm,fun q=>by have q:ob.pr=false:=q; rw [c6] at q; cases q⟩,by have:=hO.2.2.2.2.2.1; simp; omega,fun k y hy=>by rw [c4]; exact hcells.1 k y hy,?_⟩
                    refine⟨cs',⟨_,by rw[c3];exact hnew,.inl (MS _)⟩,?_,λk j y a q q'=>?_,λj _=>?_⟩
                    · rw [<- hcs',c4]
                      simp only[Array.size_append,List.size_toArray,size_zeroCells,hzs,hnl,qE,<- Nat.add_mul]
                      congr 1;omega
                    · obtain ⟨v,a1,a2,a3⟩:=hcells.2 k j y a q q'
                      refine⟨v,by rw[c4];exact a1,a2,?_⟩
                      unfold RC;rw[if_pos c6];exact a3
                    · rcases hF:F ⟨w.heap.size,j,none⟩ with _ | y'
                      .rfl
                      .have:=h.qK hF;simp at this
                  .cases q;exact Nat.le_trans h.room h.below.size
                .refine .row _ _ _ _ _ _ ⟨some w.heap.size,len+ys.length,i.size,grownCap w (len+ys.length) cp et⟩ (by rw[List.getElem?_set_self lY]) (by simp) ⟨_,_,rfl,Jk,λ_=>rfl⟩ (λ_=>⟨rfl,by simp,λ_=>⟨_,Nat.le_of_eq (Nat.zero_add _),by simp⟩⟩) (by have:=hO.2.1;have:=hO.2.2.1;first|omega|(simp only;omega))
      .cases hs
    · rename_i id G sz' len hv
      rw[hv]at hes
      obtain⟨e,he1,hG,hst,hx⟩:=hes.Bb
      obtain⟨ob,hob,hO⟩:=h.lD he1
      have hO:=hO.qx (hes.lG he1)
      rw[hob]at hs
      simp only at hs
      split at hs
      case isFalse=>cases hs
      rename_i hc
      obtain⟨c1,rfl,c4,c6⟩:=hc
      obtain⟨q1,q2,q3⟩:=hx (by rw[hO.1,c1])
      have hcap:e.G<=e.cap:=hO.2.2.2.1
      have heG:e.G=G:=by rw[hO.1,c1]
      have hcl:=hO.2.2.2.2.2.2.1
      split at hs
      · rename_i hy0
        have hy0':ys=[]:=List.isEmpty_iff.1 hy0
        obtain⟨_,h2⟩:=Prod.mk.inj (Option.some.inj hs)
        obtain⟨rfl,rfl⟩:=Prod.mk.inj h2
        obtain⟨a,UJ,a8G⟩:=hst
        refine⟨_,_,w,F,own,empty _ _ _ hy0' UJ (Nat.le_refl _),.inl rfl,h,?_⟩
        rw[<- UJ]
        exact .row _ _ _ _ _ _ e he1 hG ⟨_,_,UJ,Nat.le_refl _,λq=>a8G (by omega)⟩ (λ_=>⟨q1,by omega,λ_=>⟨len,by omega,by rw[q3];simp⟩⟩) (by have:=hO.2.1;have:=hO.2.2.1;omega)
      · rename_i hy0
        have hy1:0 < ys.length:=by
          cases ys with
          |nil=>exact absurd rfl hy0
          |cons y ys=>simp
        obtain⟨rfl,h2⟩:=Prod.mk.inj (Option.some.inj hs)
        obtain⟨rfl,rfl⟩:=Prod.mk.inj h2
        obtain⟨p1,p2⟩:=hp
        have htk:(ob.es.take len).length=len:=by rw[List.length_take,c1];omega
        have NS:∀ (k:Nat) (y:AV),(ob.es.take len)[k]?=some y->y.cells.length=i.size:=fun k y q=>by
          rw[List.getElem?_take]at q
          split at q
          .rw[<- c4];exact hcl k y q
          .cases q
        have hcm:=grownCap_le_maxLen w (len+ys.length) len et (by simp only[maxLen];omega)
        have Jk:=grownCap_ge w (len+ys.length) len et
        have fin : ∀ (olds : List Value), olds.length = len * i.size -> (∀ (k j : Nat) (y a : AV), (ob.es.take len)[k]? = some y -> y.cells[j]? = some a -> ∃ v, olds[k * i.size + j]? = some v /\ v.oneCell' = true /\ RP F v a) ->
            (execOp act.eval o).run P w=.ok (.value (.slice (some ⟨w.heap.size,0,none⟩) (len+ys.length) (grownCap w (len+ys.length) len et))) (w.drew.alloc (.cells (olds.toArray++news.toArray++Builtin.zeroCells z.cells (grownCap w (len+ys.length) len et-(len+ys.length))) et))->
            Ok1 P Gl B w0 σ act w o (.row σ.h.length (len+ys.length) i.size 0 (len+ys.length)) (σ.h++[⟨et,i.size,0,true,ob.es.take len++ys⟩]):=by
          intro olds holds NW hr
          have hcells:=qQ (F:=F) (zs:=Builtin.zeroCells z.cells (grownCap w (len+ys.length) len et-(len+ys.length))) (n:=len) (es:=ob.es.take len) htk rfl holds hnl NW NS hnR rR
          refine⟨_,_,_,F,_,hr,.inl rfl,hdr.new _ ⟨et,i.size,0,true,ob.es.take len++ys⟩ (grownCap w (len+ys.length) len et) h0 rfl (by simp only[List.length_append,htk];exact Jk) hcm hcells.1 ?_ (λk j e a q q'=>?_),?_⟩
          · simp only [Array.size_append,List.size_toArray,size_zeroCells,hzs,hnl,holds,<- Nat.add_mul]
            congr 1;omega
          · obtain ⟨y,a1,a2,a3⟩:=hcells.2 k j e a q q'
            exact⟨y,a1,a2,a3⟩
          · rw [<- h.hl]
            refine .row _ _ _ _ _ _ _ eZ (by simp[htk]) ⟨_,_,rfl,Jk,λ_=>rfl⟩ (λ_=>⟨rfl,by simp[htk],λ_=>⟨_,Nat.le_of_eq (Nat.zero_add _),?_⟩⟩) (by first|omega|assumption|(simp;done)|(simp;omega)|(dsimp only;omega))
            simp
        · skip
          cases hg:e.g with
          | none =>
            have hcap0:e.cap=0:=by have:=hO.2.2.2.2.2.2.2;rw[hg]at this;exact this
            have hl0:len=0:=by omega
            subst hl0
            rw[hg]at q3
            refine fin [] (by simp) (λk j y a q=>by simp at q) ?_
            have:=fresh (by rw[q3];rfl) hy1 (by simpa using p1) (by omega)
            simpa using this
          | some g =>
            rw[hg]at q3
            simp only[Option.map_some]at q3
            obtain⟨cur,fr,hblk,_,hcsz,hcell⟩:=hO.yM hg
            rw[c4]at hcsz hcell
            have a4B:len*i.size<=cur.size:=by rw[hcsz];exact Nat.mul_le_mul_right _ (by omega)
            have qE:(cur.toList.take (len*i.size)).length=len*i.size:=by simp;omega
            have hr := HG hy1 g len len (cur.toList.take (len * i.size)) qE (fun j v q => by
                rw[List.getElem?_take]at q
                split at q
                .rw[Addr.add_lit,Nat.zero_add,cell_of_row w g j cur ob.ty fr hblk];simpa using q
                .cases q) (by omega) (by omega) (growslice_fits (by omega) (by unfold fu at p1;exact p1))
            refine fin (cur.toList.take (len*i.size)) qE (λk j y a q q'=>?_) (run _ _ (by rw[q3];exact hr))
            rw[List.getElem?_take]at q
            split at q
            case isFalse=>cases q
            rename_i hk
            obtain⟨v,a1,a2,a3⟩:=hcell k j y a q q'
            have hj:j<i.size:=by have:=hcl k y q;rw[c4]at this;rw[<- this];exact(List.getElem?_eq_some_iff.1 q').1
            have hlt':k * i.size + j < len * i.size:=by
              have:(k+1)*i.size<=len*i.size:=Nat.mul_le_mul_right _ hk
              rw[Nat.add_mul,Nat.one_mul]at this;omega
            refine⟨v,by rw[List.getElem?_take,if_pos hlt'];simpa using a1,a2,?_⟩
            unfold RC at a3;rw[if_pos c6]at a3;exact a3
    .cases hs
theorem a1f (h:Inv Gl F own B w0 σ act w) {o:Oper} {t et:TypeId} {s x:Operand} (ho:o.op=.call { callee:=.builtin .append,args:=#[s,x],argTypes:=#[t,t] }) {i:TypeInfo} {z:Value} (ht:P.underlying t=some (.slice et)) (hi:P.info? et=some i) (hz:i.zero=some z) (hzs:z.cells.size=i.size) (h0:0 < i.size)
  {p:Prop} {r:AV} {h':List ah} (hs:step Gl σ (.app et i.size i.bytes (ak s) (ak x))=some (p,r,h')) (hp:p):Ok1 P Gl B w0 σ act w o r h':=by
 have hex:=h.ev x
 simp only[step]at hs
 cases hy:dh σ.h i.size (σ.val Gl (ak x)) with
 |none=>rw[hy]at hs;cases hs
 |some ys =>
  rw[hy]at hs
  obtain⟨⟨A,c,news,ex,hA,hAc,hnl,p8,hn1,hnR⟩,rR⟩:=xB h hex h0 hy
  exact JN h ho hzs h0 hnl hn1 hnR rR (by rw[ex];exact FZ ht hi hz A _ c news (λq=>by have:=hA q;rw[this];rfl) hnl p8 hn1) hs hp
theorem Ya (h:Inv Gl F own B w0 σ act w) {o:Oper} {t u et:TypeId} {s x:Operand} (ho:o.op=.call { callee:=.builtin .append,args:=#[s,x],argTypes:=#[t,u] }) {i:TypeInfo} {z:Value} (ht:P.underlying t=some (.slice et)) (hu:P.underlying u=some .string) (hi:P.info? et=some i) (hz:i.zero=some z) (hzs:z.cells.size=i.size) (h1:i.size=1)
  {p:Prop} {r:AV} {h':List ah} (hs:step Gl σ (.apps et i.bytes (ak s) (ak x))=some (p,r,h')) (hp:p):Ok1 P Gl B w0 σ act w o r h':=by
 have hex:=h.ev x
 simp only[step]at hs
 split at hs
 .rename_i b hv
  rw[hv]at hex
  have ex:=hex.aH
  have hl:(bN b).length=b.size:=by simp[bN]
  have hat:∀(k:Nat) (e:AV),(bN b)[k]?=some e->∃c,b.data.toList[k]?=some c/\e=.v (.int .u8 c.toNat):=λk e q=>by
   unfold bN at q
   rw[List.getElem?_map]at q
   cases hc:b.data.toList[k]? with
   |none=>rw[hc]at q;cases q
   |some c=>rw[hc]at q;cases q;exact⟨c,rfl,rfl⟩
  refine JN h ho (ys:=bN b) (news:=Lib.strCells b) hzs (by omega) (by rw[Lib.strCells_length,hl,h1,Nat.mul_one]) (Lib.strCells_oneCell b) (λk j e a q q'=>?_) (λk e q=>?_) (by rw[ex,hl];exact Ey ht hu hi hz h1 b) (by rw[h1];exact hs) hp
  .obtain⟨c,hc,rfl⟩:=hat k e q
   match j,q' with
   |0,q' =>
    cases q'
    refine⟨.int .u8 c.toNat,?_,rfl,.v _⟩
    rw[h1,Nat.mul_one,Nat.add_zero]
    simp only[Lib.strCells,List.getElem?_map,hc];rfl
   |j+1,q'=>simp[AV.cells]at q'
  .obtain⟨c,hc,rfl⟩:=hat k e q
   rw[h1];rfl
 .cases hs
end
section
variable{P:Program}{Gl:Nat->Option (List AV)}{F:Addr->Option Value}{own:List Ent}{B:Nat}{w0:W0}{σ:St}{act:Act}{w w':World}
def Kept(F:Addr->Option Value)(own:List Ent)(h:List ah)(w:World)(id:Nat):Prop :=
 ∀ob e g,h[id]?=some ob->own[id]?=some e->e.g=some g->∀j,j<ob.es.length*ob.sz->F ⟨g,j,none⟩=w.cell? ⟨g,j,none⟩
open Classical in
theorem Inv.Eh (h:Inv Gl F own B w0 σ act w) {id:Nat} {ob:ah} (hob:σ.h[id]?=some ob) :
  ∃F',(∀ad y,F ad=some y->F' ad=some y)/\Inv Gl F' own B w0 ⟨σ.t,σ.h.set id { ob with fz:=ob.es.length }⟩ act w/\Kept F' own σ.h w id:=by
 obtain⟨e,he,hO⟩:=h.vE hob
 have lY:id<σ.h.length:=(List.getElem?_eq_some_iff.1 hob).1
 let F':Addr->Option Value:=λad=>if e.g=some ad.block/\ad.spot=none/\ad.off<ob.es.length*ob.sz then w.cell? ad else F ad
 have hF:∀ad y,F ad=some y->F' ad=some y:=λad y q=>by
  show(if _ then _ else _)=_
  split
  .exact h.sub ad y q
  .exact q
 refine⟨F',hF,?_,?_⟩
 ·refine h.turn hF (Le.refl _) (fun a x q=>?_) (by simp [h.hl]) (fun k f o' p q=>?_) h.inj h.below h.base (fun ad y q=>?_) (hpF:=fun g j y q=>by
   have q':(if e.g=some g/\(none:Option _)=none/\j<ob.es.length*ob.sz then w.cell? ⟨g,j,none⟩ else F ⟨g,j,none⟩)=some y:=q
   split at q'
   .rename_i c;exact .inr (.inl λn=>n id e he c.1)
   .exact .inl q')
  .have q':(if _ then w.cell? a else F a)=some x:=q
   split at q'
   .exact q'
   .exact h.sub a x q'
  .have q':(σ.h.set id { ob with fz:=ob.es.length })[k]?=some o':=q
   by_cases hk:k=id
   .subst hk
    rw[he]at p;cases p
    rw[List.getElem?_set_self lY]at q';cases q'
    rcases hO with⟨k0,hO⟩|⟨k0,m1,m2,g,m3,es,clock,m4,m5,m6,m7⟩
    case inr =>
     refine .inr ⟨k0,m1,m2,g,m3,es,clock,m4,m5,λi en x p q=>(m6 i en x p q).mono hF,λj=>?_⟩
     show(if _ then _ else _)=_
     rw[if_neg (λc=>by have:=c.2.2;rw[k0,Nat.mul_zero]at this;omega)]
     exact m7 j
    obtain⟨k1,k2,k3,k4,k5,k6,k7,k8⟩:=hO
    refine .inl ⟨k0,k1,k2,k3,k4,k5,Nat.le_refl _,k7,?_⟩
    cases hg:e.g with
    |none=>rw[hg]at k8;exact k8
    |some g =>
     rw[hg]at k8
     obtain⟨cs,a1,a2,a3,a4⟩:=k8
     obtain⟨fr,a1,af⟩:=a1
     refine⟨cs,⟨fr,a1,af.imp id (λq=>⟨rfl,q.2⟩)⟩,a2,λi j x a r s=>?_,λj hj=>?_⟩
     .obtain⟨y,b1,b2,b3⟩:=a3 i j x a r s
      exact⟨y,b1,b2,b3.mono hF (Le.refl _)⟩
     .show(if _ then _ else _)=_
      rw[if_neg (λc=>by have:=c.2.2;simp only at this hj;omega)]
      exact a4 j (Nat.le_trans (Nat.mul_le_mul_right _ k6) hj)
   .rw[List.getElem?_set_ne (λe=>hk e.symm)]at q'
    have hO':=h.objs k f o' p q'
    refine hO'.mono hF (Le.refl _) (λg hg=>rfl) (λg j hg hj=>?_)
    show(if _ then _ else _)=_
    rw[if_neg (λc=>hk (h.inj k id f e g p he hg c.1))]
    exact hO'.fz hg hj
  .have q':(if _ then w.cell? ad else F ad)=some y:=q
   split at q'
   .rename_i c;exact .inr (h.base id e _ he c.1)
   .exact .inl q'
 .intro ob' e' g p q r j hj
  rw[hob]at p;cases p
  rw[he]at q;cases q
  show(if _ then _ else _)=_
  rw[if_pos ⟨r,rfl,hj⟩]
theorem O5(h:List ah)(ids:List Nat)(k:Nat):∃f:ah->ah,(∀o,(f o).es=o.es/\(f o).sz=o.sz/\(f o).ty=o.ty/\(f o).pr=o.pr)/\(freeze h ids)[k]?=(h[k]?).map f:=by
 induction ids generalizing h with
 |nil=>exact⟨id,λo=>⟨rfl,rfl,rfl,rfl⟩,by simp[freeze]⟩
 |cons i ids ih =>
  unfold freeze
  simp only[List.foldl_cons]
  cases hi:h[i]? with
  |none=>exact ih h
  |some o =>
   simp only
   obtain⟨f,hf,hg⟩:=ih (h.set i { o with fz:=o.es.length })
   unfold freeze at hg
   rw[hg,List.getElem?_set]
   by_cases hik:i=k
   .subst hik
    have hlt:=(List.getElem?_eq_some_iff.1 hi).1
    rw[if_pos rfl,if_pos hlt,hi]
    exact⟨λo=>f { o with fz:=o.es.length },λo=>hf _,rfl⟩
   .rw[if_neg hik]
    exact⟨f,hf,rfl⟩
theorem Inv.lF (h:Inv Gl F own B w0 σ act w) (ids:List Nat) :
  ∃F',(∀ad y,F ad=some y->F' ad=some y)/\Inv Gl F' own B w0 ⟨σ.t,freeze σ.h ids⟩ act w/\∀id∈ids,Kept F' own σ.h w id:=by
 induction ids generalizing F σ with
 |nil=>exact⟨F,λ_ _ q=>q,h,λid q=>by simp at q⟩
 |cons i ids ih =>
  cases hi:σ.h[i]? with
  |none =>
   obtain⟨F',a1,a2,a3⟩:=ih h
   refine⟨F',a1,?_,λid q=>?_⟩
   .have:freeze σ.h (i::ids)=freeze σ.h ids:=by unfold freeze;simp only[List.foldl_cons,hi]
    rw[this];exact a2
   .rcases List.mem_cons.1 q with rfl|q
    .intro ob e g p;rw[hi]at p;cases p
    .exact a3 id q
  |some o =>
   obtain⟨F1,b1,b2,b3⟩:=h.Eh hi
   obtain⟨F',a1,a2,a3⟩:=ih b2
   refine⟨F',λad y q=>a1 _ _ (b1 ad y q),?_,λid q=>?_⟩
   .have:freeze σ.h (i::ids)=freeze (σ.h.set i { o with fz:=o.es.length }) ids:=by unfold freeze;simp only[List.foldl_cons,hi]
    rw[this];exact a2
   .rcases List.mem_cons.1 q with rfl|q
    .intro ob e g p p2 p3 j hj
     have:=b3 ob e g p p2 p3 j hj
     cases hc:w.cell? ⟨g,j,none⟩with
     |none =>
      rw[hc]at this
      cases hF':F' ⟨g,j,none⟩with
      |none=>rfl
      |some y=>have:=a2.sub _ _ hF';rw[hc]at this;cases this
     |some y=>rw[hc]at this;exact a1 _ _ this
    .intro ob e g p p2 p3 j hj
     have hlt:=(List.getElem?_eq_some_iff.1 hi).1
     by_cases hk:i=id
     .subst hk
      rw[hi]at p;cases p
      exact a3 i q { o with fz:=o.es.length } e g (by show(σ.h.set i _)[i]?=_;rw[List.getElem?_set_self hlt]) p2 p3 j hj
     .exact a3 id q ob e g (by show(σ.h.set i _)[id]?=_;rw[List.getElem?_set_ne hk];exact p) p2 p3 j hj
theorem Tz (h:Inv Gl F own B w0 σ act w) {F':Addr->Option Value} (hF:∀ ad y,F ad=some y->F' ad=some y) {x:Value} {id G sz off len:Nat} (hR:R F own x (.row id G sz off len)) (hk:Kept F' own σ.h w id) {ob:ah} (hob:σ.h[id]?=some ob)
  (c1:ob.es.length=G) (c2:ob.sz=sz) (c3:ob.pr=true):RP F' x (.list sz ((ob.es.drop off).take len)):=by
 obtain⟨e,he1,hG,hst,hx⟩:=hR.fP
 obtain⟨e',he2,hO⟩:=h.vE hob
 rw[he1]at he2;cases he2
 have hO:=hO.qx (hR.iG he1)
 obtain⟨q1,q2,qe⟩:=hx (by rw[hO.1,c1])
 by_cases hex:0<len\/off=0
 case neg =>
  obtain⟨a,cap,hx0,_,ha'⟩:=hst
  have hl0:len=0:=by omega
  subst hl0
  have:=ha' (by omega)
  cases a with
  |none=>cases this
  |some ad =>
   rw[hx0,List.take_zero]
   exact .list ad 0 cap sz [] (λ_=>undef) rfl (Nat.zero_le _) (λi e q=>by simp at q) (λi j e a q=>by simp at q) (λi j e a q=>by simp at q)
 obtain⟨cp,qc,q3⟩:=qe hex
 have a18:len<=cp:=by obtain⟨_,_,e1,e2,_⟩:=hst;rw[q3]at e1;injection e1 with _ _ e1;omega
 have hcl:=hO.2.2.2.2.2.2.1
 have hcap:e.G<=e.cap:=hO.2.2.2.1
 have hsp:=hO.2.2.1
 subst c2
 cases hg:e.g with
 |none =>
  have hcap0:e.cap=0:=by have:=hO.2.2.2.2.2.2.2;rw[hg]at this;exact this
  have hl0:len=0:=by omega
  subst hl0
  rw[q3,hg,show cp=0 by omega]
  simp
  exact .nil _
 |some g =>
  obtain⟨cs,fr,hblk,_,hcsz,hcell⟩:=hO.yM hg
  rw[q3,hg]
  have hel:∀(i:Nat) (y:AV),((ob.es.drop off).take len)[i]?=some y->i<len/\ob.es[off+i]?=some y:=λi y hy=>by
   rw[List.getElem?_take]at hy
   split at hy
   .rw[List.getElem?_drop]at hy;exact⟨by assumption,hy⟩
   .cases hy
  have key:∀(i j:Nat) (y a:AV),((ob.es.drop off).take len)[i]?=some y->y.cells[j]?=some a->∃v,cs[off*ob.sz+(i*ob.sz+j)]?=some v/\v.oneCell'=true/\RP F v a/\F' ⟨g,off*ob.sz+(i*ob.sz+j),none⟩=some v:=λi j y a p q=>by
   obtain⟨hi,p'⟩:=hel i y p
   obtain⟨v,a1,a2,a3⟩:=hcell _ j y a p' q
   rw[Nat.add_mul,Nat.add_assoc]at a1
   have hj:j<ob.sz:=by rw[<- hcl _ y p'];exact(List.getElem?_eq_some_iff.1 q).1
   have hlt:off*ob.sz+(i*ob.sz+j)<ob.es.length*ob.sz:=by
    have:(off+i+1)*ob.sz<=ob.es.length*ob.sz:=Nat.mul_le_mul_right _ (by omega)
    rw[Nat.add_mul,Nat.add_mul,Nat.one_mul]at this;omega
   refine⟨v,a1,a2,?_,?_⟩
   .unfold RC at a3;rw[if_pos c3]at a3;exact a3
   .rw[hk ob e g hob he1 hg _ hlt,cell_of_row w g _ cs ob.ty fr hblk];exact a1
  refine .list ⟨g,off*ob.sz,none⟩ _ _ _ _ (λk=>(cs[off*ob.sz+k]?).getD undef) (by simp;omega) (by omega) (λi y p=>hcl _ y (hel i y p).2) (λi j y a p q=>?_) (λi j y a p q=>?_)
  .obtain⟨v,a1,a2,a3,a4⟩:=key i j y a p q
   rw[Addr.add_lit,a1]
   exact⟨a4,a2⟩
  .obtain⟨v,a1,a2,a3,a4⟩:=key i j y a p q
   rw[a1]
   exact a3.mono hF
theorem zU(h:Inv Gl F own B w0 σ act w){F':Addr->Option Value}(hF:∀ad y,F ad=some y->F' ad=some y){x:Value}{a b:AV}(hR:R F own x a)(hk:iM σ.h a=some b)(hkp:∀id∈jc a,Kept F' own σ.h w id):RP F' x b/\x.oneCell'=true/\b.cells=[b]:=by
 cases a with
 |iX=>cases hk
 |mp=>cases hk
 |clo=>cases hk
 |any=>cases hk
 |v y =>
  have:=hR.aH
  subst this
  have hk':(if x.oneCell' then some (AV.v x) else none)=some b:=hk
  split at hk'
  .rename_i h1;cases hk';exact⟨.v _,h1,rfl⟩
  .cases hk'
 |list sz xs =>
  cases hk
  have hq:=hR.dw
  refine⟨hq.mono hF,?_,rfl⟩
  cases hq<;>rfl
 |bO cs =>
  cases hk
  have hq:=hR.jM
  refine⟨hq.mono hF,?_,rfl⟩
  cases hq;rfl
 |row id G sz off len =>
  simp only[iM]at hk
  cases ho:σ.h[id]? with
  |none=>rw[ho]at hk;cases hk
  |some ob =>
   rw[ho]at hk
   simp only at hk
   split at hk
   .rename_i hc
    cases hk
    obtain⟨_,_,_,⟨_,_,hx,_⟩,_⟩:=hR.fP
    exact⟨Tz h hF hR (hkp id (by simp[jc])) ho hc.1 hc.2.1 hc.2.2,by rw[hx];rfl,rfl⟩
   .cases hk
 |ptr id G i off=>cases hk
 |agg cs=>cases hk
 |tup cs=>cases hk
theorem Ka (h:Inv Gl F own B w0 σ act w) {F':Addr->Option Value} (hF:∀ ad y,F ad=some y->F' ad=some y):∀ (cs ds:List AV),gu σ.h cs=some ds->(∀ id ∈ cs.flatMap jc,Kept F' own σ.h w id) ->
  cs.length=ds.length/\∀(j:Nat) (x:Value) (a b:AV),cs[j]?=some a->ds[j]?=some b->R F own x a->RP F' x b/\x.oneCell'=true/\b.cells=[b]:=by
 intro cs
 induction cs with
 |nil=>intro ds hk _;cases hk;exact⟨rfl,λj x a b q=>by simp at q⟩
 |cons c cs ih =>
  intro ds hk hkp
  unfold gu at hk
  cases h1:iM σ.h c with
  |none=>rw[h1]at hk;cases hk
  |some b =>
   cases h2:gu σ.h cs with
   |none=>rw[h1,h2]at hk;cases hk
   |some m =>
    rw[h1,h2]at hk
    cases hk
    obtain⟨l1,l2⟩:=ih m h2 (λid q=>hkp id (by simp only[List.flatMap_cons,List.mem_append];exact .inr q))
    refine⟨by simp[l1],λj x a b' p q hR=>?_⟩
    cases j with
    |zero =>
     simp at p q
     subst p q
     exact zU h hF hR h1 (λid q=>hkp id (by simp only[List.flatMap_cons,List.mem_append];exact .inl q))
    |succ j=>simp at p q;exact l2 j x a b' p q hR
theorem iQ (h:Inv Gl F own B w0 σ act w) {F':Addr->Option Value} (hF:∀ ad y,F ad=some y->F' ad=some y) {x:Value} {a b:AV} (hR:R F own x a) (hk:dN σ.h a=some b) (hkp:∀ id ∈ aR a,Kept F' own σ.h w id) :
  RP F' x b/\x.cells.size=b.cells.length/\(∀(j:Nat) (y:Value) (c:AV),x.cells[j]?=some y->b.cells[j]?=some c->y.oneCell'=true/\RP F' y c):=by
 by_cases ha:∃cs,a=.agg cs
 .obtain⟨cs,rfl⟩:=ha
  have hk':(gu σ.h cs).map AV.agg=some b:=hk
  cases hl:gu σ.h cs with
  |none=>rw[hl]at hk';cases hk'
  |some ds =>
   rw[hl]at hk'
   cases hk'
   obtain⟨xs,rfl,e1,e2,e3⟩:=hR.bB
   obtain⟨l1,l2⟩:=Ka h hF cs ds hl hkp
   have key:∀(j:Nat) (y:Value) (c:AV),xs[j]?=some y->ds[j]?=some c->y.oneCell'=true/\RP F' y c:=λj y c p q=>by
    have hj:j<cs.length:=by rw[l1];exact(List.getElem?_eq_some_iff.1 q).1
    have:=l2 j y cs[j] c (List.getElem?_eq_getElem hj) q (e3 j y _ p (List.getElem?_eq_getElem hj))
    exact⟨this.2.1,this.1⟩
   exact⟨.agg xs ds (by omega) e2 (λj y c p q=>(key j y c p q).2),by show xs.size=ds.length;omega,key⟩
 .have hk':iM σ.h a=some b:=by cases a<;>first|exact hk|exact absurd ⟨_,rfl⟩ ha
  have hr:aR a=jc a:=by cases a<;>first|rfl|exact absurd ⟨_,rfl⟩ ha
  obtain⟨q1,q2,q3⟩:=zU h hF hR hk' (by rw[<- hr];exact hkp)
  have e1:x.cells=#[x]:=by cases x<;>simp_all [Value.cells,Value.oneCell']
  rw[e1,q3]
  refine⟨q1,rfl,λj y c p q=>?_⟩
  have:j=0:=by
   rcases Nat.eq_zero_or_pos j with h0|h0
   .exact h0
   .rw[List.getElem?_eq_none (by simp;omega)]at q;cases q
  subst this
  simp at p q
  subst p q
  exact⟨q2,q1⟩
theorem mR (h:Inv Gl F own B w0 σ act w) {F':Addr->Option Value} (hF:∀ ad y,F ad=some y->F' ad=some y):∀ (cs ds:List AV),aX σ.h cs=some ds->(∀ id ∈ cs.flatMap aR,Kept F' own σ.h w id) ->
  cs.length=ds.length/\∀(j:Nat) (x:Value) (a b:AV),cs[j]?=some a->ds[j]?=some b->R F own x a->RP F' x b/\x.cells.size=b.cells.length/\(∀(j:Nat) (y:Value) (c:AV),x.cells[j]?=some y->b.cells[j]?=some c->y.oneCell'=true/\RP F' y c):=by
 intro cs
 induction cs with
 |nil=>intro ds hk _;cases hk;exact⟨rfl,λj x a b q=>by simp at q⟩
 |cons c cs ih =>
  intro ds hk hkp
  unfold aX at hk
  cases h1:dN σ.h c with
  |none=>rw[h1]at hk;cases hk
  |some b =>
   cases h2:aX σ.h cs with
   |none=>rw[h1,h2]at hk;cases hk
   |some m =>
    rw[h1,h2]at hk
    cases hk
    obtain⟨l1,l2⟩:=ih m h2 (λid q=>hkp id (by simp only[List.flatMap_cons,List.mem_append];exact .inr q))
    refine⟨by simp[l1],λj x a b' p q hR=>?_⟩
    cases j with
    |zero =>
     simp at p q
     subst p q
     exact iQ h hF hR h1 (λid q=>hkp id (by simp only[List.flatMap_cons,List.mem_append];exact .inl q))
    |succ j=>simp at p q;exact l2 j x a b' p q hR
theorem ZU (vs:List Value):∀ (k off:Nat) (cs:Array Value),off + k + vs.length<=cs.size ->
  ((vs.zipIdx k).foldl (fun(cs:Array Value) (p:Value×Nat)=>cs.setIfInBounds (off+p.2) p.1) cs)=(cs.toList.take (off+k)++vs++cs.toList.drop (off+k+vs.length)).toArray:=by
 induction vs with
 |nil=>intro k off cs _;simp
 |cons v vs ih =>
  intro k off cs hl
  simp only[List.length_cons]at hl
  rw[List.zipIdx_cons,List.foldl_cons,ih (k+1) off _ (by simp;omega)]
  congr 1
  apply List.ext_getElem?
  intro j
  have e1:(cs.setIfInBounds (off+k) v).toList=cs.toList.set (off+k) v:=by simp
  simp only[e1]
  rw[gX _ _ _ (by simp;omega),gX _ _ _ (by simp;omega)]
  simp only[List.length_cons]
  by_cases h1:j<off+k
  .rw[if_pos (by omega),if_pos h1,List.getElem?_set_ne (by omega)]
  .rw[if_neg h1]
   by_cases h2:j=off+k
   .subst h2
    rw[if_pos (by omega),if_pos (by omega),List.getElem?_set_self (by simp;omega)]
    simp
   .rw[if_neg (by omega)]
    by_cases h3:j<off+(k+1)+vs.length
    .rw[if_pos h3,if_pos (by omega)]
     rw[show j-(off+k)=(j-(off+(k+1)))+1 from by omega,List.getElem?_cons_succ]
    .rw[if_neg h3,if_neg (by omega),List.getElem?_set_ne (by omega)]
theorem I9 (place:Nat->Option (Nat × Nat)) (cs:Array Value) (i off sz:Nat) (v:Value) (rest:List (Nat × Value)) (hp:place i=some (off,sz)) (hv:v.cells.size=sz) (hl:off + sz<=cs.size) :
  Instr.fill place cs ((i,v)::rest)=Instr.fill place (cs.toList.take off++v.cells.toList++cs.toList.drop (off+sz)).toArray rest:=by
 simp only[Instr.fill,hp]
 rw[if_neg (by simp;omega)]
 congr 1
 have:=ZU v.cells.toList 0 off cs (by simp;omega)
 simp only[Nat.add_zero,Array.length_toList,hv]at this
 rw[<- this]
 rw[<- Array.foldl_toList]
 simp
theorem O8 (h:Inv Gl F own B w0 σ act w) (place:Nat->Option (Nat × Nat)):∀ (ps:List (Nat × Operand)) (qs:List (Nat × Nat × Opd)) (cs:Array Value) (as bs:List AV),
  ps.length=qs.length->(∀(k:Nat) (p:Nat×Operand) (q:Nat×Nat×Opd),ps[k]?=some p->qs[k]?=some q->place p.1=some (q.1,q.2.1)/\q.2.2=ak p.2)->
  R F own (.agg cs) (.agg as)->iJ Gl σ as qs=some bs->∃ds,Instr.fill place cs (ps.map λp=>(p.1,act.eval p.2))=some ds/\R F own (.agg ds) (.agg bs):=by
 intro ps
 induction ps with
 |nil =>
  intro qs cs as bs hl _ hR hb
  have:qs=[]:=List.eq_nil_of_length_eq_zero (by simpa using hl.symm)
  subst this
  cases hb
  exact⟨cs,rfl,hR⟩
 |cons p ps ih =>
  intro qs cs as bs hl hpq hR hb
  cases qs with
  |nil=>simp at hl
  |cons q qs =>
   obtain⟨off,sz,x⟩:=q
   obtain⟨hp,hx⟩:=hpq 0 p (off,sz,x) rfl rfl
   simp only at hp hx
   subst hx
   simp only[iJ]at hb
   cases hc:bJ false (σ.val Gl (ak p.2)) with
   |none=>rw[hc]at hb;cases hb
   |some vs =>
    rw[hc]at hb
    simp only at hb
    split at hb
    .rename_i hcond
     obtain⟨l1,l2⟩:=hcond
     obtain⟨q1,q2,q3⟩:=rE (h.ev p.2) hc
     obtain⟨cs',e0,e1,e2,e3⟩:=hR.bB
     obtain rfl:cs=cs':=by injection e0
     have hfit:off+(act.eval p.2).cells.toList.length<=cs.toList.length:=by simp;omega
     simp only[List.map_cons]
     rw[I9 place cs p.1 off sz _ _ hp (by omega) (by omega)]
     have hvl:(act.eval p.2).cells.toList.length=sz:=by simp;omega
     refine ih qs _ _ bs (by simpa using hl) (λk p' q' a b=>hpq (k+1) p' q' (by simpa using a) (by simpa using b)) ?_ hb
     have hat:∀j,(cs.toList.take off++(act.eval p.2).cells.toList++cs.toList.drop (off+sz)).toArray[j]?=if j<off then cs[j]? else if j<off+sz then(act.eval p.2).cells[j-off]? else cs[j]?:=λj=>by
      rw[List.getElem?_toArray]
      have:=gX cs.toList (act.eval p.2).cells.toList off hfit j
      rw[hvl]at this
      rw[this]
      simp
     have a8T:∀j,(as.take off++vs++as.drop (off+sz))[j]?=if j<off then as[j]? else if j<off+sz then vs[j-off]? else as[j]?:=λj=>by
      have:=gX as vs off (by omega) j
      rw[l1]at this
      exact this
     refine .agg _ _ ?_ (λj y hy=>?_) (λj y a hy ha=>?_)
     .simp;omega
     .rw[hat]at hy
      split at hy
      .exact e2 j y hy
      .split at hy
       .have hlt:j-off<vs.length:=by omega
        exact(q3 (j-off) y vs[j-off] hy (List.getElem?_eq_getElem hlt)).1
       .exact e2 j y hy
     .rw[hat]at hy
      rw[a8T]at ha
      split at hy
      .rename_i c1;rw[if_pos c1]at ha;exact e3 j y a hy ha
      .rename_i c1
       rw[if_neg c1]at ha
       split at hy
       .rename_i c2;rw[if_pos c2]at ha;exact(q3 _ y a hy ha).2.1.r
       .rename_i c2;rw[if_neg c2]at ha;exact e3 j y a hy ha
    .cases hb
theorem a2E{z:List Value}(h1:z.all (·.oneCell')=true):R F own (.agg z.toArray) (.agg (z.map .v)):=by
 refine .agg _ _ (by simp) (λj y hy=>?_) (λj y a hy ha=>?_)
 .have:y∈z:=List.mem_of_getElem? (by simpa using hy)
  exact List.all_eq_true.1 h1 y this
 .simp at hy ha
  obtain⟨v,hv,rfl⟩:=ha
  rw[hy]at hv
  cases hv
  exact .pure (.v _)
theorem Ue (h:Inv Gl F own B w0 σ act w) {o:Oper} {t:TypeId} {parts:Array (Nat × Operand)} (ho:o.op=.build t parts) {ti:TypeInfo} {z:Array Value} (hti:P.info? t=some ti) (hz:ti.zero=some (.agg z)) (h1:z.toList.all (·.oneCell')=true)
  {place:Nat->Option (Nat×Nat)} (hrun:∀(ps:Array (Nat×Value)) ds,Instr.fill place z ps.toList=some ds->(Instr.build t ps).run P w=.ok (.agg ds) w)
  {qs:List (Nat×Nat×Opd)} (hl:parts.toList.length=qs.length) (hpq:∀(k:Nat) (p:Nat×Operand) (q:Nat×Nat×Opd),parts.toList[k]?=some p->qs[k]?=some q->place p.1=some (q.1,q.2.1)/\q.2.2=ak p.2)
  {p:Prop} {r:AV} {h':List ah} (hs:step Gl σ (.build z.toList qs)=some (p,r,h')) (hp:p):Ok1 P Gl B w0 σ act w o r h':=by
 simp only[step]at hs
 cases hb:iJ Gl σ (z.toList.map .v) qs with
 |none=>rw[hb]at hs;cases hs
 |some bs =>
  rw[hb]at hs
  obtain⟨_,h2⟩:=Prod.mk.inj (Option.some.inj hs)
  obtain⟨rfl,rfl⟩:=Prod.mk.inj h2
  have hz0:=a2E (F:=F) (own:=own) h1
  simp only[Array.toArray_toList]at hz0
  obtain⟨ds,hf,hR⟩:=O8 h place parts.toList qs z _ bs hl hpq hz0 hb
  refine Ok1.mk h ?_ hR
  have:=hrun (parts.map λp=>(p.1,act.eval p.2)) ds (by simpa using hf)
  unfold execOp
  simp only[ho]
  simp[this]
theorem run_buildSlice {t et:TypeId} {ti:TypeInfo} (ht:P.underlying t=some (.slice et)) (hti:P.info? et=some ti) {z:Value} (hz:ti.zero=some z) (vs:List Value) (hv:∀ v ∈ vs,v.cells.size=ti.size) (hzs:z.cells.size=ti.size) (h0:0 < ti.size) (hcap:vs.length * ti.size<=2 ^ 24) (ps:Array (Nat × Value)) (hps:ps.toList=vs.zipIdx.map fun p=>(p.2,p.1)) :
  (Instr.buildSlice t vs.length ps).run P w=.ok (.slice (some ⟨w.heap.size,0,none⟩) vs.length vs.length) (w.alloc (.cells (vs.flatMap (·.cells.toList)).toArray et)):=by
 have fil:∀ (vs:List Value) (k:Nat) (cs:Array Value),(∀ v ∈ vs,v.cells.size=ti.size)->(k + vs.length) * ti.size=cs.size ->
   Instr.fill (λi=>some (i*ti.size,ti.size)) cs ((vs.zipIdx k).map λp=>(p.2,p.1))=some ((cs.toList.take (k*ti.size))++vs.flatMap (·.cells.toList)).toArray:=by
  intro vs
  induction vs with
  |nil =>
   intro k cs _ hs
   simp only[List.length_nil,Nat.add_zero]at hs
   have:cs.toList.take cs.size=cs.toList:=List.take_of_length_le (by simp)
   simp[Instr.fill,hs,this]
  |cons v vs ih =>
   intro k cs hv hs
   simp only[List.length_cons]at hs
   have hk1:(k+1)*ti.size<=cs.size:=by rw[<- hs];exact Nat.mul_le_mul_right _ (by omega)
   have a8M:=hk1
   rw[Nat.add_mul,Nat.one_mul]at a8M
   have hvs:=hv v (by simp)
   rw[List.zipIdx_cons,List.map_cons,I9 _ cs k (k*ti.size) ti.size v _ rfl hvs (by omega)]
   rw[ih (k+1) _ (λu hu=>hv u (by simp[hu])) (by
    simp only[List.size_toArray,List.length_append,List.length_take,List.length_drop,Array.length_toList,hvs]
    rw[show k+1+vs.length=k+(vs.length+1) from by omega,hs];omega)]
   congr 2
   have e1:(cs.toList.take (k*ti.size)++v.cells.toList++cs.toList.drop (k*ti.size+ti.size)).toArray.toList=cs.toList.take (k*ti.size)++v.cells.toList++cs.toList.drop (k*ti.size+ti.size):=by simp
   rw[e1,List.flatMap_cons,<- List.append_assoc]
   congr 1
   have hl:(cs.toList.take (k*ti.size)++v.cells.toList).length=(k+1)*ti.size:=by
    simp only[List.length_append,List.length_take,Array.length_toList,hvs];rw[Nat.add_mul,Nat.one_mul];omega
   rw[<- hl]
   exact List.take_left
 have hf:=fil vs 0 ((Array.range (vs.length*ti.size)).map (z.cells[·%z.cells.size]!)) hv (by simp)
 simp only[Nat.zero_mul,List.take_zero,List.nil_append]at hf
 unfold Instr.buildSlice
 have hn:¬(vs.length*ti.size>2^24):=by omega
 simp only[Sem.run_bind,run_underlying ht,Result.andThen_ok,sizeOf,typeInfo,run_program,hti,Sem.run_pure,if_neg hn]
 by_cases hz0:vs.length*ti.size=0
 ·have a8F:vs=[]:=by
   rcases Nat.mul_eq_zero.1 hz0 with q|q
   .exact List.eq_nil_of_length_eq_zero q
   .omega
  subst a8F
  have e0:(Array.map (fun(x:Nat)=>(default:Value)) (Array.range 0))=#[]:=Array.eq_empty_of_size_eq_zero (by simp)
  simp[Instr.fill,newRow,hps,e0]
 .simp only[if_neg hz0,Sem.run_bind,zeroValue,typeInfo,run_program,Result.andThen_ok,hti,Sem.run_pure,hz,hps]
  rw[hf]
  simp[newRow]
theorem KY(vs:List Value)(sz:Nat)(hv:∀v∈vs,v.cells.size=sz):∀(i j:Nat) (v:Value),vs[i]?=some v->j<sz->(vs.flatMap (·.cells.toList))[i*sz+j]?=v.cells[j]?:=by
 induction vs with
 |nil=>intro i j v q;simp at q
 |cons u vs ih =>
  intro i j v q hj
  have hu:=hv u (by simp)
  rw[List.flatMap_cons]
  cases i with
  |zero =>
   simp at q
   subst q
   rw[Nat.zero_mul,Nat.zero_add,List.getElem?_append_left (by simp;omega)]
   simp
  |succ i =>
   rw[List.getElem?_append_right (by rw[Array.length_toList,hu,Nat.add_mul,Nat.one_mul];omega)]
   have:=ih (λx hx=>hv x (by simp[hx])) i j v (by simpa using q) hj
   rw[<- this]
   congr 1
   rw[Array.length_toList,hu,Nat.add_mul,Nat.one_mul];omega
theorem Jt(vs:List Value)(sz:Nat)(hv:∀v∈vs,v.cells.size=sz):(vs.flatMap (·.cells.toList)).length=vs.length*sz:=by
 induction vs with
 |nil=>simp
 |cons u vs ih =>
  rw[List.flatMap_cons,List.length_append,ih (λx hx=>hv x (by simp[hx])),Array.length_toList,hv u (by simp),List.length_cons,Nat.add_mul,Nat.one_mul];omega
theorem F9 (h:Inv Gl F own B w0 σ act w) {F':Addr->Option Value} (hF:∀ ad y,F ad=some y->F' ad=some y) {xs:List Operand} {sz:Nat} {ys:List AV} (hk:aX σ.h (xs.map fun x=>σ.val Gl (ak x))=some ys) (hall:ys.all (fun y=>y.cells.length == sz)=true)
  (hkp:∀id∈(xs.map λx=>σ.val Gl (ak x)).flatMap aR,Kept F' own σ.h w id) :
  ys.length=xs.length/\(∀v∈xs.map act.eval,v.cells.size=sz)/\(∀(i:Nat) (e:AV),ys[i]?=some e->e.cells.length=sz)/\
  (∀(i j:Nat) (e a:AV),ys[i]?=some e->e.cells[j]?=some a->∃y,((xs.map act.eval).flatMap (·.cells.toList))[i*sz+j]?=some y/\y.oneCell'=true/\RP F' y a):=by
 obtain⟨l1,l2⟩:=mR h hF _ ys hk hkp
 have hlen:ys.length=xs.length:=by simpa using l1.symm
 have hcl:∀(i:Nat) (e:AV),ys[i]?=some e->e.cells.length=sz:=λi e q=>by
  have:=List.all_eq_true.1 hall e (List.mem_of_getElem? q)
  simpa using this
 have at_:∀(i:Nat) (e:AV),ys[i]?=some e->∃x,xs[i]?=some x/\RP F' (act.eval x) e/\(act.eval x).cells.size=e.cells.length/\(∀(j:Nat) (y:Value) (c:AV),(act.eval x).cells[j]?=some y->e.cells[j]?=some c->y.oneCell'=true/\RP F' y c):=λi e q=>by
  have hi:i<xs.length:=by rw[<- hlen];exact(List.getElem?_eq_some_iff.1 q).1
  have:=l2 i (act.eval xs[i]) (σ.val Gl (ak xs[i])) e (by simp[List.getElem?_eq_getElem hi]) q (h.ev xs[i])
  exact⟨xs[i],List.getElem?_eq_getElem hi,this.1,this.2.1,this.2.2⟩
 have hv:∀v∈xs.map act.eval,v.cells.size=sz:=λv hv=>by
  obtain⟨i,hi,rfl⟩:=List.mem_iff_getElem.1 hv
  have hi':i<xs.length:=by simpa using hi
  have a14:i<ys.length:=by omega
  obtain⟨x,hx,_,h2,_⟩:=at_ i ys[i] (List.getElem?_eq_getElem a14)
  rw[List.getElem?_eq_getElem hi']at hx
  cases hx
  have:=hcl i _ (List.getElem?_eq_getElem a14)
  simp
  omega
 refine⟨hlen,hv,hcl,λi j e a q q'=>?_⟩
 obtain⟨x,hx,_,h2,h3⟩:=at_ i e q
 have hj:j<sz:=by rw[<- hcl i e q];exact(List.getElem?_eq_some_iff.1 q').1
 have hfl:=KY (xs.map act.eval) sz hv i j (act.eval x) (by simp[hx]) hj
 have hj':j<(act.eval x).cells.size:=by rw[h2,hcl i e q];exact hj
 obtain⟨a1,a2⟩:=h3 j _ a (Array.getElem?_eq_getElem hj') q'
 exact⟨(act.eval x).cells[j],by rw[hfl];exact Array.getElem?_eq_getElem hj',a1,a2⟩
theorem EU (h:Inv Gl F own B w0 σ act w) {o:Oper} {t et:TypeId} {n:Nat} {parts:Array (Nat × Operand)} (ho:o.op=.buildSlice t n parts) {ti:TypeInfo} {z:Value} (ht:P.underlying t=some (.slice et)) (hti:P.info? et=some ti) (hz:ti.zero=some z) (hzs:z.cells.size=ti.size) (h0:0 < ti.size)
  {xs:List Operand} (hps:parts.toList=xs.zipIdx.map λp=>(p.2,p.1)) (hn:n=xs.length) (hcap:xs.length*ti.size<=2^24)
  {p:Prop} {r:AV} {h':List ah} (hs:step Gl σ (.gI et ti.size (xs.map ak))=some (p,r,h')) (hp:p):Ok1 P Gl B w0 σ act w o r h':=by
 simp only[step,List.map_map,Function.comp_def]at hs
 cases hk:aX σ.h (xs.map λx=>σ.val Gl (ak x)) with
 |none=>rw[hk]at hs;cases hs
 |some ys =>
  rw[hk]at hs
  simp only at hs
  split at hs
  .rename_i hall
   obtain⟨_,h2⟩:=Prod.mk.inj (Option.some.inj hs)
   obtain⟨rfl,rfl⟩:=Prod.mk.inj h2
   obtain⟨F',hF,hI,hkp⟩:=h.lF ((xs.map λx=>σ.val Gl (ak x)).flatMap aR)
   obtain⟨q1,q2,q3,q4⟩:=F9 h hF hk hall hkp
   have run:=run_buildSlice (P:=P) (w:=w) ht hti hz (xs.map act.eval) q2 hzs h0 (by simpa using hcap) (parts.map λp=>(p.1,act.eval p.2)) (by
    rw[Array.toList_map,hps,List.map_map,List.zipIdx_map,List.map_map]
    rfl)
   have hfl:=Jt (xs.map act.eval) ti.size q2
   have hnew:=hI.new (((xs.map act.eval).flatMap (·.cells.toList)).toArray) ⟨et,ti.size,0,true,ys⟩ ys.length h0 rfl (Nat.le_refl _) (by have:=Nat.le_trans (Nat.le_mul_of_pos_right xs.length h0) hcap;simp only[maxLen];omega) q3 (by simp only[List.size_toArray,hfl,List.length_map,q1]) (λi j e a q q'=>by
    obtain⟨y,a1,a2,a3⟩:=q4 i j e a q q'
    exact⟨y,by simpa using a1,a2,a3⟩)
   refine⟨_,.slice (some ⟨w.heap.size,0,none⟩) ys.length ys.length,_,F',_,?_,.inl rfl,hnew,?_⟩
   .unfold execOp
    simp only[ho]
    subst hn
    rw[List.length_map]at run
    simp only[Sem.run_bind,run,Result.andThen_ok,q1]
    rfl
   .have hlen:σ.h.length=own.length:=h.hl.symm
    rw[hlen]
    exact .row _ _ _ _ _ _ _ eZ (by simp) ⟨_,_,rfl,Nat.le_refl _,λ_=>rfl⟩ (λ_=>⟨rfl,by simp,λ_=>⟨_,Nat.le_of_eq (Nat.zero_add _),by simp⟩⟩) (by first|omega|assumption|(simp;done)|(simp;omega)|(dsimp only;omega))
  .cases hs
theorem Yo{h:List ah}:∀{l:List AV},l.all sc1=true->aX h l=some l/\l.flatMap aR=[]/\l.all (λy=>y.cells.length==1)=true:=by
 intro l
 induction l with
 |nil=>intro _;exact⟨rfl,rfl,rfl⟩
 |cons a l ih =>
  intro ha
  simp only[List.all_cons,Bool.and_eq_true]at ha
  obtain⟨i1,i2,i3⟩:=ih ha.2
  cases a with
  |v x =>
   have hx:x.oneCell'=true:=ha.1
   exact⟨by simp[aX,dN,iM,hx,i1],by simp[aR,jc,i2],by simp only[List.all_cons,i3,Bool.and_true];rfl⟩
  |_=>cases ha.1
theorem Sy{ty:Nat}{xs:List Opd}{q:Prop×AV×List ah}(hs:step Gl σ (.bsc ty xs)=some q):step Gl σ (.gI ty 1 xs)=some q:=by
 simp only[step]at hs ⊢
 split at hs
 .rename_i hall
  cases hs
  obtain⟨k1,k2,k3⟩:=Yo (h:=σ.h) hall
  rw[k1]
  simp only
  rw[if_pos k3,k2,List.length_map]
  rfl
 .cases hs
theorem Y8 (h:Inv Gl F own B w0 σ act w) {o:Oper} {t et:TypeId} {n:Nat} {parts:Array (Nat × Operand)} (ho:o.op=.buildSlice t n parts) {ti:TypeInfo} {z:Value} (ht:P.underlying t=some (.slice et)) (hti:P.info? et=some ti) (hz:ti.zero=some z) (hzs:z.cells.size=ti.size) (h0:ti.size=1)
  {xs:List Operand} (hps:parts.toList=xs.zipIdx.map λp=>(p.2,p.1)) (hn:n=xs.length) (hcap:xs.length*ti.size<=2^24)
  {p:Prop} {r:AV} {h':List ah} (hs:step Gl σ (.uZ et (xs.map ak))=some (p,r,h')) (hp:p):Ok1 P Gl B w0 σ act w o r h':=by
 simp only[step,List.map_map,Function.comp_def,List.length_map]at hs
 split at hs
 case isFalse=>cases hs
 rename_i hall
 obtain⟨_,h2⟩:=Prod.mk.inj (Option.some.inj hs)
 obtain⟨rfl,rfl⟩:=Prod.mk.inj h2
 have at_:∀x∈xs,(act.eval x).oneCell'=true/\RC F own false (act.eval x) (σ.val Gl (ak x))/\(σ.val Gl (ak x)).cells=[σ.val Gl (ak x)]:=λx hx =>
  uq (h.ev x) (List.all_eq_true.1 hall _ (List.mem_map.2 ⟨x,hx,rfl⟩))
 have one:∀v:Value,v.oneCell'=true->v.cells=#[v]:=λv hv=>by cases v<;>simp_all [Value.cells,Value.oneCell']
 have q2:∀v∈xs.map act.eval,v.cells.size=ti.size:=λv hv=>by
  obtain⟨x,hx,rfl⟩:=List.mem_map.1 hv
  rw[one _ (at_ x hx).1,h0];rfl
 have run:=run_buildSlice (P:=P) (w:=w) ht hti hz (xs.map act.eval) q2 hzs (by omega) (by simpa using hcap) (parts.map λp=>(p.1,act.eval p.2)) (by
  rw[Array.toList_map,hps,List.map_map,List.zipIdx_map,List.map_map]
  rfl)
 have hfl:=Jt (xs.map act.eval) ti.size q2
 rw[h0]at hfl
 have hat:∀(i:Nat) (e:AV),(xs.map λx=>σ.val Gl (ak x))[i]?=some e->∃x,xs[i]?=some x/\e=σ.val Gl (ak x):=λi e q=>by
  rw[List.getElem?_map]at q
  cases hx:xs[i]? with
  |none=>rw[hx]at q;cases q
  |some x=>rw[hx]at q;cases q;exact⟨x,rfl,rfl⟩
 have hnew:=h.new (((xs.map act.eval).flatMap (·.cells.toList)).toArray) ⟨et,1,0,false,xs.map fun x=>σ.val Gl (ak x)⟩ xs.length (by simp) rfl (by simp) (by rw [h0] at hcap; simp only [maxLen]; omega) (fun i e q=>by
   obtain⟨x,hx,rfl⟩:=hat i e q
   rw[(at_ x (List.mem_of_getElem? hx)).2.2];rfl) (by simp only[List.size_toArray,hfl,List.length_map]) (λi j e a q q'=>by
   obtain⟨x,hx,rfl⟩:=hat i e q
   obtain⟨a1,a2,a3⟩:=at_ x (List.mem_of_getElem? hx)
   rw[a3]at q'
   match j,q' with
   |0,q' =>
    simp at q'
    subst q'
    refine⟨act.eval x,?_,a1,a2⟩
    have:=KY (xs.map act.eval) ti.size q2 i 0 (act.eval x) (by simp[hx]) (by omega)
    rw[h0]at this
    rw[List.getElem?_toArray,this,one _ a1];rfl
   |j+1,q'=>simp at q')
 refine⟨_,.slice (some ⟨w.heap.size,0,none⟩) xs.length xs.length,_,F,_,?_,.inl rfl,hnew,?_⟩
 .unfold execOp
  simp only[ho]
  subst hn
  rw[List.length_map]at run
  simp only[Sem.run_bind,run,Result.andThen_ok]
  rfl
 .have hlen:σ.h.length=own.length:=h.hl.symm
  rw[hlen]
  exact .row _ _ _ _ _ _ _ eZ (by simp) ⟨_,_,rfl,Nat.le_refl _,λ_=>rfl⟩ (λ_=>⟨rfl,by simp,λ_=>⟨_,Nat.le_of_eq (Nat.zero_add _),by simp⟩⟩) (by first|omega|assumption|(simp;done)|(simp;omega)|(dsimp only;omega))
open Classical in
theorem Uf (h:Inv Gl F own B w0 σ act w) {o:Oper} {t et:TypeId} {n:Nat} {parts:Array (Nat × Operand)} (ho:o.op=.buildSlice t n parts) {ti:TypeInfo} {z:Value} (ht:P.underlying t=some (.slice et)) (hti:P.info? et=some ti) (hz:ti.zero=some z) (hzs:z.cells.size=ti.size) (h0:0 < ti.size)
  {xs:List Operand} (hps:parts.toList=xs.zipIdx.map λp=>(p.2,p.1)) (hn:n=xs.length) (hcap:xs.length*ti.size<=2^24)
  {p:Prop} {r:AV} {h':List ah} (hs:step Gl σ (.sJ et ti.size (xs.map ak))=some (p,r,h')) (hp:p):Ok1 P Gl B w0 σ act w o r h':=by
 simp only[step,List.map_map,Function.comp_def]at hs
 cases hk:aX σ.h (xs.map λx=>σ.val Gl (ak x)) with
 |none=>rw[hk]at hs;cases hs
 |some ys =>
  rw[hk]at hs
  simp only at hs
  split at hs
  .rename_i hall
   rw[Bool.and_eq_true]at hall
   obtain⟨_,h2⟩:=Prod.mk.inj (Option.some.inj hs)
   obtain⟨rfl,rfl⟩:=Prod.mk.inj h2
   have hno:∀id,id∉(xs.map λx=>σ.val Gl (ak x)).flatMap aR:=λid q=>by
    obtain⟨a,ha,hid⟩:=List.mem_flatMap.1 q
    have:=List.all_eq_true.1 hall.2 a ha
    rw[List.isEmpty_iff.1 this]at hid
    simp at hid
   obtain⟨q1,q2,q3,q4⟩:=F9 h (λ_ _ q=>q) hk hall.1 (λid q=>absurd q (hno id))
   have run:=run_buildSlice (P:=P) (w:=w) ht hti hz (xs.map act.eval) q2 hzs h0 (by simpa using hcap) (parts.map λp=>(p.1,act.eval p.2)) (by
    rw[Array.toList_map,hps,List.map_map,List.zipIdx_map,List.map_map]
    rfl)
   generalize hcs:(xs.map act.eval).flatMap (·.cells.toList)=cs at *
   let F':Addr->Option Value:=λad=>if ad.block=w.heap.size/\ad.spot=none then cs[ad.off]? else F ad
   have hF:∀ad y,F ad=some y->F' ad=some y:=λad y q=>by
    show(if _ then _ else _)=_
    rw[if_neg (λc=>by have:=h.qK q;omega)]
    exact q
   have hnew:=heap_alloc_new w (.cells cs.toArray et)
   refine⟨_,.slice (some ⟨w.heap.size,0,none⟩) ys.length ys.length,w.alloc (.cells cs.toArray et),F',own,?_,.inl rfl,?_,?_⟩
   .unfold execOp
    simp only[ho]
    subst hn
    rw[List.length_map]at run
    simp only[Sem.run_bind,run,Result.andThen_ok,q1]
    rfl
   ·refine h.turn hF (Le.refl _) (fun a x q=>?_) h.hl (fun k f o' p q=>?_) h.inj (h.below.alloc (Nat.le_trans h.room h.below.size) _) h.base (fun ad y q=>?_) (hpw:=fun g hg _=>Below.heap_alloc _ _ _ hg) (hpF:=fun g j y q=>by
     have q':(if g=w.heap.size/\(none:Option _)=none then cs[j]? else F ⟨g,j,none⟩)=some y:=q
     split at q'
     .rename_i c;exact .inr (.inr (by omega))
     .exact .inl q')
    .have q':(if _ then cs[a.off]? else F a)=some x:=q
     split at q'
     .rename_i c
      obtain⟨b,off,spot⟩:=a
      simp only at c q'
      obtain⟨rfl,rfl⟩:=c
      rw[cell_of_row _ _ _ _ _ _ hnew]
      simpa using q'
     .rw[World.cell?_alloc_lt _ _ _ (h.qK q')];exact h.sub a x q'
    .have hO:=h.objs k f o' p q
     refine hO.mono hF (Le.refl _) (λg hg=>Below.heap_alloc _ _ _ (hO.lt hg)) (λg j hg hj=>?_)
     show(if _ then _ else _)=_
     rw[if_neg (λc=>by have:=hO.lt hg;simp only at c;omega)]
     exact hO.fz hg hj
    .have q':(if _ then cs[ad.off]? else F ad)=some y:=q
     split at q'
     .rename_i c;exact .inr (by rw[c.1];exact Nat.le_trans h.room h.below.size)
     .exact .inl q'
   .refine .pure (.list ⟨w.heap.size,0,none⟩ _ _ _ _ (λk=>(cs[k]?).getD undef) rfl (Nat.le_refl _) q3 (λi j e a q q'=>?_) (λi j e a q q'=>?_))
    .obtain⟨y,a1,a2,a3⟩:=q4 i j e a q q'
     rw[Addr.add_lit,Nat.zero_add,a1]
     refine⟨?_,a2⟩
     show(if _ then _ else _)=_
     rw[if_pos ⟨rfl,rfl⟩];exact a1
    .obtain⟨y,a1,a2,a3⟩:=q4 i j e a q q'
     rw[a1]
     exact a3.mono hF
  .cases hs
theorem Ub (h:Inv Gl F own B w0 σ act w) {o:Oper} {t:TypeId} {x y:Operand} (ho:o.op=.store t x y) {ag:Bool} {sz:Nat} (ha:agT P t=some (ag,sz)) (h0:0 < sz)
  {p:Prop} {r:AV} {h':List ah} (hs:step Gl σ (.store sz (ak x) (ak y))=some (p,r,h')) (hp:p):Ok1 P Gl B w0 σ act w o r h':=by
 have he:=h.ev x
 have hy:=h.ev y
 simp only[step]at hs
 split at hs
 .rename_i id G i off hv
  rw[hv]at he
  obtain⟨e,he1,hG,hst,hx⟩:=he.iT
  obtain⟨ob,hob,hO⟩:=h.lD he1
  have hO:=hO.qx (he.gH he1)
  rw[hob]at hs
  simp only at hs
  split at hs
  .rename_i hlen
   cases hc:bJ ob.pr (σ.val Gl (ak y)) with
   |some cs =>
    rw[hc]at hs
    simp only at hs
    split at hs
    .rename_i hcl
     obtain⟨rfl,h2⟩:=Prod.mk.inj (Option.some.inj hs)
     obtain⟨rfl,rfl⟩:=Prod.mk.inj h2
     exact BG h ho ha h0 he hy hob hlen hc hcl hp
    .cases hs
   |none =>
    rw[hc]at hs
    simp only at hs
    cases hk:dN σ.h (σ.val Gl (ak y)) with
    |none=>rw[hk]at hs;simp only at hs;cases hs
    |some b =>
     rw[hk]at hs
     obtain⟨F',hF,hI,hkp⟩:=h.lF (aR (σ.val Gl (ak y)))
     obtain⟨q1,_,_⟩:=iQ h hF hy hk hkp
     obtain⟨f,f1,f2⟩:=O5 σ.h (aR (σ.val Gl (ak y))) id
     rw[hob]at f2
     simp only[Option.map_some]at f2
     rw[f2]at hs
     simp only at hs
     cases hc2:bJ (f ob).pr b with
     |none=>rw[hc2]at hs;cases hs
     |some cs =>
      rw[hc2]at hs
      simp only at hs
      split at hs
      .rename_i hcl
       obtain⟨rfl,h2⟩:=Prod.mk.inj (Option.some.inj hs)
       obtain⟨rfl,rfl⟩:=Prod.mk.inj h2
       exact BG hI ho ha h0 (he.mono hF (Le.refl _)) (.pure q1) f2 (by rw[(f1 ob).1];exact hlen) hc2 hcl hp
      .cases hs
  .cases hs
 .cases hs
end
section
variable{P:Program}{Gl:Nat->Option (List AV)}{F:Addr->Option Value}{own:List Ent}{B:Nat}{w0:W0}{σ:St}{act:Act}{w:World}
def sF(z:Value):Nat->List Value
 |0=>[]
 |n+1=>z.cells.toList++sF z n
theorem Fw(z:Value):∀n,(sF z n).length=n*z.cells.size
 |0=>by simp[sF]
 |n+1=>by rw[sF,List.length_append,Fw z n,Nat.add_mul];simp;omega
theorem Jv(z:Value){j:Nat}(hj:j<z.cells.size):∀n k,k<n->(sF z n)[k*z.cells.size+j]?=z.cells[j]?
 |0,k,h=>by omega
 |n+1,0,h=>by rw[sF,List.getElem?_append_left (by simp;omega)];simp
 |n+1,k+1,h=>by
  rw[sF,List.getElem?_append_right (by simp[Nat.add_mul];omega)]
  have:=Jv z hj n k (by omega)
  rw[<- this]
  congr 1
  simp[Nat.add_mul];omega
theorem Qm (h:Inv Gl F own B w0 σ act w) {o:Oper} {t:TypeId} (ho:o.op=.alloc t) {i:TypeInfo} {za z:Value} (hi:P.info? t=some i) (hz:i.zero=some za) {n:Nat} (hf:za.cells.toList=sF z n) (hn:n<=maxLen) (h0:0 < z.cells.size) (h1:z.cells.all (·.oneCell')=true) :
  Ok1 P Gl B w0 σ act w o (.ptr σ.h.length n 0 0) (σ.h++[⟨t,z.cells.size,0,true,List.replicate n (aW z)⟩]):=by
 have hel:∀(k:Nat) (y:AV),(List.replicate n (aW z))[k]?=some y->k<n/\y=aW z:=λk y hy=>by
  have hk:k<n:=by have:=(List.getElem?_eq_some_iff.1 hy).1;simpa using this
  simp[hk]at hy
  exact⟨hk,hy.symm⟩
 have hsz:za.cells.size=n*z.cells.size:=by rw[<- Fw,<- hf];simp
 refine Ok1.new h (ob:=⟨t,z.cells.size,0,true,List.replicate n (aW z)⟩) (cap:=n) (cs:=za.cells) (x:=.pointer (some ⟨w.heap.size,0,none⟩)) h0 rfl (by simp) hn ?_ hsz ?_ ?_ ?_
 .intro k y hy
  obtain⟨_,rfl⟩:=hel k y hy
  rw[dM];simp
 .intro k j y a hy hb
  obtain⟨hk,rfl⟩:=hel k y hy
  rw[dM]at hb
  simp at hb
  obtain⟨v,hv,rfl⟩:=hb
  have hj:j<z.cells.size:=(Array.getElem?_eq_some_iff.1 hv).1
  refine⟨v,?_,Array.all_eq_true_iff_forall_mem.1 h1 v (Array.mem_of_getElem? hv),RP.v v⟩
  rw[<- Array.getElem?_toList,hf,Jv z hj n k hk]
  exact hv
 .unfold execOp
  simp only[ho]
  simp[Instr.alloc,zeroValue,typeInfo,hi,hz,newVar,newRow]
 .rw[<- h.hl]
  exact .ptr _ _ _ _ _ _ eZ (by simp) ⟨_,rfl⟩ (λ_=>⟨_,rfl,by simp⟩) (by first|omega|assumption|(simp;done)|(simp;omega)|(dsimp only;omega))
theorem Uh (h:Inv Gl F own B w0 σ act w) {o:Oper} {t:TypeId} {x ix:Operand} (ho:o.op=.indexAddr t x ix) {et:TypeId} {n bsz st:Nat} {i:TypeInfo} (ht:P.underlying t=some (.array n et)) (hi:P.info? et=some i) (hsz:i.size=st * bsz)
  {p:Prop} {r:AV} {h':List ah} (hs:step Gl σ (.jf bsz st n (ak x) (ak ix))=some (p,r,h')) (hp:p):Ok1 P Gl B w0 σ act w o r h':=by
 have he:=h.ev x
 have hix:=h.ev ix
 simp only[step]at hs
 split at hs
 .rename_i id G j o' k m hv hvi
  rw[hv]at he
  rw[hvi]at hix
  obtain⟨e,he1,hG,⟨a,ha⟩,hx⟩:=he.iT
  obtain⟨ob,hob,hO⟩:=h.lD he1
  have hO:=hO.qx (he.gH he1)
  rw[hob]at hs
  simp only at hs
  split at hs
  .rename_i hc
   obtain⟨rfl,hb⟩:=hc
   obtain⟨rfl,h2⟩:=Prod.mk.inj (Option.some.inj hs)
   obtain⟨rfl,rfl⟩:=Prod.mk.inj h2
   obtain⟨p1,p2⟩:=hp
   have run:(execOp act.eval o).run P w=.ok (.value (.pointer (some (a.add (m.toNat*(st*bsz)))))) w:=by
    unfold execOp
    simp only[ho,ha,hix.aH]
    simp[Instr.indexAt,asIntOf,run_underlying ht,Instr.sureAddr,sizeOf,typeInfo,hi,hsz,p1,p2]
   refine Ok1.mk h run (.ptr _ _ _ _ _ e he1 hG ⟨_,rfl⟩ (λq=>?_) (by first|exact he.gH he1|exact he.iG he1|exact he.lG he1))
   obtain⟨g,hg,q3⟩:=hx q
   rw[ha]at q3
   cases q3
   refine⟨g,hg,?_⟩
   rw[Addr.add_lit,show e.sz=bsz by rw[hO.2.1,hb],Nat.add_mul,Nat.mul_assoc]
   simp
  .split at hs
   .rename_i hc
    obtain⟨rfl,rfl⟩:=hc
    obtain⟨rfl,h2⟩:=Prod.mk.inj (Option.some.inj hs)
    obtain⟨rfl,rfl⟩:=Prod.mk.inj h2
    obtain⟨p1,p2⟩:=hp
    have run:(execOp act.eval o).run P w=.ok (.value (.pointer (some (a.add (m.toNat*(1*1)))))) w:=by
     unfold execOp
     simp only[ho,ha,hix.aH]
     simp[Instr.indexAt,asIntOf,run_underlying ht,Instr.sureAddr,sizeOf,typeInfo,hi,hsz,p1,p2]
    refine Ok1.mk h run (.ptr _ _ _ _ _ e he1 hG ⟨_,rfl⟩ (λq=>?_) (by first|exact he.gH he1|exact he.iG he1|exact he.lG he1))
    obtain⟨g,hg,q3⟩:=hx q
    rw[ha]at q3
    cases q3
    refine⟨g,hg,?_⟩
    rw[Addr.add_lit]
    simp[Nat.add_assoc]
   .cases hs
 .rename_i cs k m hv hvi
  rw[hv]at he
  rw[hvi]at hix
  obtain⟨rfl,h2⟩:=Prod.mk.inj (Option.some.inj hs)
  obtain⟨rfl,rfl⟩:=Prod.mk.inj h2
  obtain⟨p1,p2⟩:=hp
  have hq:=he.jM
  generalize hv':act.eval x=v at hq
  cases hq with
  |bO ad cs cv hF hR =>
   have run:(execOp act.eval o).run P w=.ok (.value (.pointer (some (ad.add (m.toNat*(st*bsz)))))) w:=by
    unfold execOp
    simp only[ho,hv',hix.aH]
    simp[Instr.indexAt,asIntOf,run_underlying ht,Instr.sureAddr,sizeOf,typeInfo,hi,hsz,p1,p2]
   refine Ok1.mk h run (.pure (.bO _ _ (λj=>cv (m.toNat*(st*bsz)+j)) (λj a q=>?_) (λj a q=>?_)))
   .rw[List.getElem?_take]at q
    split at q
    .rw[List.getElem?_drop]at q;rw[uh];exact hF _ _ q
    .cases q
   .rw[List.getElem?_take]at q
    split at q
    .rw[List.getElem?_drop]at q;exact hR _ _ q
    .cases q
 .cases hs
theorem Yb (h:Inv Gl F own B w0 σ act w) {o:Oper} {t:TypeId} {x ix:Operand} (ho:o.op=.index t x ix) {et:TypeId} {n:Nat} {ag:Bool} {sz:Nat} (ht:P.underlying t=some (.array n et)) (ha:agT P et=some (ag,sz))
  {p:Prop} {r:AV} {h':List ah} (hs:step Gl σ (.rV sz ag n (ak x) (ak ix))=some (p,r,h')) (hp:p):Ok1 P Gl B w0 σ act w o r h':=by
 have he:=h.ev x
 have hi:=h.ev ix
 have hag:=kC ha
 simp only[step]at hs
 split at hs
 .rename_i cs k m hv hvi
  rw[hv]at he
  rw[hvi]at hi
  obtain⟨xs,ex,hl,h1,hR⟩:=he.bB
  split at hs
  .rename_i hlen
   cases ag with
   |true =>
    simp only[if_true]at hs
    obtain⟨rfl,h2⟩:=Prod.mk.inj (Option.some.inj hs)
    obtain⟨rfl,rfl⟩:=Prod.mk.inj h2
    have hb:m.toNat*sz+sz<=xs.size:=by
     have:(m.toNat+1)*sz<=n*sz:=Nat.mul_le_mul_right _ (by omega)
     rw[Nat.add_mul,Nat.one_mul]at this;omega
    refine Ok1.mk h (x:=.agg (xs.extract (m.toNat*sz) (m.toNat*sz+sz))) ?_ ?_
    .unfold execOp
     simp only[ho,ex,hi.aH]
     simp[Instr.index,asIntOf,run_underlying ht,part,hag,hp.1,hp.2]
    .refine .agg _ _ (by simp;omega) (λj y hy=>?_) (λj y a hy ha'=>?_)
     .rw[Array.getElem?_extract]at hy
      split at hy
      .exact h1 _ _ hy
      .cases hy
     .rw[Array.getElem?_extract]at hy
      split at hy
      .rename_i hj
       rw[List.getElem?_take]at ha'
       split at ha'
       .rw[List.getElem?_drop]at ha';exact hR _ _ _ hy ha'
       .cases ha'
      .cases hy
   |false =>
    simp only[Bool.false_eq_true,if_false]at hs
    obtain⟨rfl,h2⟩:=Prod.mk.inj (Option.some.inj hs)
    obtain⟨rfl,rfl⟩:=Prod.mk.inj h2
    obtain⟨hp1,hlt⟩:=hp
    have hlt':m.toNat*sz<xs.size:=by omega
    refine Ok1.mk h (x:=xs[m.toNat*sz]) ?_ ?_
    .unfold execOp
     simp only[ho,ex,hi.aH]
     simp[Instr.index,asIntOf,run_underlying ht,part,hag,hp1.1,hp1.2,Array.getElem?_eq_getElem hlt']
    .exact hR _ _ _ (Array.getElem?_eq_getElem hlt') (by simp[List.getD,List.getElem?_eq_getElem hlt])
  .cases hs
 .cases hs
theorem Dh{a:AV}(h:kJ a=true):∃z,a=.v z:=by cases a<;>first|exact⟨_,rfl⟩|cases h
theorem Inv.ZE(h:Inv Gl F own B w0 σ act w){id:Nat}{ob:ah}(hob:σ.h[id]?=some ob)(hv:ob.es.all (λe=>e.cells.all kJ)=true):Inv Gl F own B w0 ⟨σ.t,σ.h.set id { ob with pr:=true }⟩ act w:=by
 have lY:id<σ.h.length:=(List.getElem?_eq_some_iff.1 hob).1
 refine h.turn (λ_ _ q=>q) (Le.refl _) h.sub (by simp[h.hl]) (λk f o' p q=>?_) h.inj h.below h.base
 have q':(σ.h.set id { ob with pr:=true })[k]?=some o':=q
 by_cases hk:k=id
 .subst hk
  rw[List.getElem?_set_self lY]at q';cases q'
  rcases h.objs k f ob p hob with⟨k0,hO⟩|⟨k0,m1,m2,m3⟩
  case inr=>exact .inr ⟨k0,m1,rfl,m3⟩
  obtain⟨k1,k2,k3,k4,k5,k6,k7,k8⟩:=hO
  refine .inl ⟨k0,k1,k2,k3,k4,⟨k5.1,λq=>by cases q⟩,k6,k7,?_⟩
  cases hg:f.g with
  |none=>rw[hg]at k8;exact k8
  |some g =>
   rw[hg]at k8
   obtain⟨cs,a1,a2,a3,a4⟩:=k8
   refine⟨cs,a1,a2,λi j x a r s=>?_,a4⟩
   obtain⟨y,b1,b2,b3⟩:=a3 i j x a r s
   refine⟨y,b1,b2,?_⟩
   obtain⟨z,rfl⟩:=Dh (List.all_eq_true.1 (List.all_eq_true.1 hv x (List.mem_of_getElem? r)) a (List.mem_of_getElem? s))
   have:=b3.r.aH
   subst this
   unfold RC
   rw[if_pos rfl]
   exact .v _
 .rw[List.getElem?_set_ne (λe=>hk e.symm)]at q'
  exact h.objs k f o' p q'
theorem KH (h:Inv Gl F own B w0 σ act w) {o:Oper} {t:TypeId} {x:Operand} {lo hi:Option Operand} (ho:o.op=.slice t x lo hi none) {et:TypeId} {n:Nat} {i:TypeInfo} (ht:P.underlying t=some (.array n et)) (hi':P.info? et=some i) (hsz:i.size=1)
  {p:Prop} {r:AV} {h':List ah} (hs:step Gl σ (.om n (ak x) (lo.map ak) (hi.map ak))=some (p,r,h')) (hp:p):Ok1 P Gl B w0 σ act w o r h':=by
 have he:=h.ev x
 simp only[step]at hs
 split at hs
 .rename_i id G j o' hv
  rw[hv]at he
  obtain⟨e,he1,hG,⟨a,ha⟩,hx⟩:=he.iT
  obtain⟨ob,hob,hO⟩:=h.lD he1
  have hO:=hO.qx (he.gH he1)
  rw[hob]at hs
  simp only at hs
  split at hs
  .rename_i hc
   obtain⟨hG',hall⟩:=hc
   cases hc:fB n ((lo.map ak).map (σ.val Gl)) ((hi.map ak).map (σ.val Gl)) with
   |none=>rw[hc]at hs;cases hs
   |some q =>
    obtain⟨p',l,u⟩:=q
    rw[hc]at hs
    simp only[Option.map_some]at hs
    obtain⟨rfl,h2⟩:=Prod.mk.inj (Option.some.inj hs)
    obtain⟨rfl,rfl⟩:=Prod.mk.inj h2
    obtain⟨hp1,hon,hjG⟩:=hp
    have hp':=hp1
    rw[(kL hc).1]at hp'
    have hb':=kW (P:=P) (cap:=n) h hc hp1 (Nat.le_refl _) false
    have run:(execOp act.eval o).run P w=.ok (.value (.slice (some (if n=l.toNat then a else a.add (l.toNat*1))) (u-l).toNat (n-l.toNat))) w:=by
     unfold execOp
     simp only[ho,ha]
     simp[Instr.sliceAt,run_underlying ht,Instr.sureAddr,hb',sizeOf,typeInfo,hi',hsz]
     omega
    obtain⟨g,hg,q3⟩:=hx (by rw[hO.1,hG'])
    rw[ha]at q3
    cases q3
    have lY:id<σ.h.length:=(List.getElem?_eq_some_iff.1 hob).1
    have h1:=h.ZE hob hall
    obtain⟨F',hF,hI,hk⟩:=h1.Eh (id:=id) (ob:={ ob with pr:=true }) (by show(σ.h.set id _)[id]?=_;rw[List.getElem?_set_self lY])
    simp only[List.set_set]at hI
    obtain⟨cs,fr,hblk,_,hcsz,hcell⟩:=hO.yM hg
    have a8R:e.sz=ob.sz:=hO.2.1
    have hel:ob.es[j]?=some (ob.es.getD j .any):=by simp[List.getD,List.getElem?_eq_getElem (show j<ob.es.length by omega)]
    generalize ob.es.getD j .any=el at hel
    have hcl:=hO.2.2.2.2.2.2.1 j el hel
    have key:∀(k:Nat) (y:AV),el.cells[k]?=some y->∃z,y=.v z/\z.oneCell'=true/\F' ⟨g,j*ob.sz+k,none⟩=some z:=λk y hy=>by
     obtain⟨v,a1,a2,a3⟩:=hcell j k el y hel hy
     obtain⟨z,rfl⟩:=Dh (List.all_eq_true.1 (List.all_eq_true.1 hall el (List.mem_of_getElem? hel)) y (List.mem_of_getElem? hy))
     have:=a3.r.aH
     subst this
     refine⟨_,rfl,a2,?_⟩
     have hk1:k<ob.sz:=by rw[<- hcl];exact(List.getElem?_eq_some_iff.1 hy).1
     have hlt:j*ob.sz+k<ob.es.length*ob.sz:=by
      have:(j+1)*ob.sz<=ob.es.length*ob.sz:=Nat.mul_le_mul_right _ (by omega)
      rw[Nat.add_mul,Nat.one_mul]at this;omega
     rw[hk { ob with pr:=true } e g (by show(σ.h.set id _)[id]?=_;rw[List.getElem?_set_self lY]) he1 hg _ hlt,cell_of_row w g _ cs ob.ty fr hblk]
     exact a1
    refine⟨_,_,w,F',own,run,.inl rfl,hI,.pure ?_⟩
    have hget:∀(k:Nat) (y:AV),(((el.cells.drop o').take u.toNat).drop l.toNat)[k]?=some y->el.cells[o'+(l.toNat+k)]?=some y/\l.toNat+k<u.toNat:=λk y hy=>by
     rw[List.getElem?_drop,List.getElem?_take]at hy
     split at hy
     .rw[List.getElem?_drop]at hy;exact⟨hy,by assumption⟩
     .cases hy
    have hlen:(((el.cells.drop o').take u.toNat).drop l.toNat).length=(u-l).toNat:=by
     simp only[List.length_drop,List.length_take,hcl];omega
    refine .list _ _ _ 1 _ (λk=>(cs[j*ob.sz+o'+l.toNat+k]?).getD undef) hlen (by omega) (λk y hy=>?_) (λk c y b hy hb=>?_) (λk c y b hy hb=>?_)
    .obtain⟨h2,_⟩:=hget k y hy
     obtain⟨z,rfl,_⟩:=key _ y h2
     rfl
    .obtain⟨h2,h3⟩:=hget k y hy
     obtain⟨z,rfl,z1,z2⟩:=key _ y h2
     match c,hb with
     |0,hb =>
      cases hb
      have hn:¬n=l.toNat:=by omega
      rw[if_neg hn,Addr.add_lit,Addr.add_lit,a8R]
      obtain⟨v,a1,a2,a3⟩:=hcell j _ el _ hel h2
      have hv:=a3.r.aH
      subst hv
      have e1:j*ob.sz+o'+l.toNat+(k*1+0)=j*ob.sz+(o'+(l.toNat+k)):=by omega
      have e2:j*ob.sz+o'+l.toNat*1+(k*1+0)=j*ob.sz+(o'+(l.toNat+k)):=by omega
      rw[e1,e2,a1]
      exact⟨z2,z1⟩
    .obtain⟨h2,h3⟩:=hget k y hy
     obtain⟨z,rfl,z1,z2⟩:=key _ y h2
     match c,hb with
     |0,hb =>
      cases hb
      obtain⟨v,a1,a2,a3⟩:=hcell j _ el _ hel h2
      have hv:=a3.r.aH
      subst hv
      have e1:j*ob.sz+o'+l.toNat+(k*1+0)=j*ob.sz+(o'+(l.toNat+k)):=by omega
      rw[e1,a1]
      exact .v _
  .cases hs
 .cases hs
theorem Tg{l:List ah}{id:Nat}{ob:ah}(h:l[id]?=some ob):l.set id ob=l:=by
 refine List.ext_getElem? λj=>?_
 by_cases q:id=j
 .subst q;rw[List.getElem?_set_self (List.getElem?_eq_some_iff.1 h).1,h]
 .rw[List.getElem?_set_ne q]
theorem Ql (h:Inv Gl F own B w0 σ act w) {o:Oper} {t:TypeId} {x:Operand} {lo hi:Option Operand} (ho:o.op=.slice t x lo hi none) {et:TypeId} {n bsz:Nat} {i:TypeInfo} (ht:P.underlying t=some (.array n et)) (hi':P.info? et=some i) (hsz:i.size=bsz)
  {p:Prop} {r:AV} {h':List ah} (hs:step Gl σ (.aslice bsz n (ak x) (lo.map ak) (hi.map ak))=some (p,r,h')) (hp:p):Ok1 P Gl B w0 σ act w o r h':=by
 have he:=h.ev x
 simp only[step]at hs
 split at hs
 .rename_i id G j o' hv
  rw[hv]at he
  obtain⟨e,he1,hG,⟨a,ha⟩,hx⟩:=he.iT
  obtain⟨ob,hob,hO⟩:=h.lD he1
  have hO:=hO.qx (he.gH he1)
  rw[hob]at hs
  simp only at hs
  split at hs
  .rename_i hc
   obtain⟨rfl,hb⟩:=hc
   cases hc:fB n ((lo.map ak).map (σ.val Gl)) ((hi.map ak).map (σ.val Gl)) with
   |none=>rw[hc]at hs;cases hs
   |some q =>
    obtain⟨p',l,u⟩:=q
    rw[hc]at hs
    simp only[Option.map_some]at hs
    obtain⟨rfl,h2⟩:=Prod.mk.inj (Option.some.inj hs)
    obtain⟨rfl,rfl⟩:=Prod.mk.inj h2
    obtain⟨hp1,hjn⟩:=hp
    have hp':=hp1
    rw[(kL hc).1]at hp'
    have hb':=kW (P:=P) (cap:=n) h hc hp1 (Nat.le_refl _) false
    have run:(execOp act.eval o).run P w=.ok (.value (.slice (some (if n=l.toNat then a else a.add (l.toNat*bsz))) (u-l).toNat (n-l.toNat))) w:=by
     unfold execOp
     simp only[ho,ha]
     simp[Instr.sliceAt,run_underlying ht,Instr.sureAddr,hb',sizeOf,typeInfo,hi',hsz]
     omega
    refine Ok1.mk h run (.row _ _ _ _ _ _ e he1 hG ⟨_,_,rfl,by omega,λ_=>rfl⟩ (λq=>?_) (by first|exact he.gH he1|exact he.iG he1|exact he.lG he1))
    obtain⟨g,hg,q3⟩:=hx q
    rw[ha]at q3
    cases q3
    have hcap:e.G<=e.cap:=hO.2.2.2.1
    refine⟨by rw[hO.2.1,hb],by omega,λhne=>⟨n-l.toNat,by omega,?_⟩⟩
    have NV:∀a:Addr,(if n=l.toNat then a else a.add (l.toNat*bsz))=a.add (l.toNat*bsz):=λa=>by
     rcases hne with h0|hlt
     .rw[if_neg (by omega)]
     .have:l.toNat=0:=by omega
      rw[this,Nat.zero_mul,ru];split<;>rfl
    rw[NV,hg,Addr.add_lit,show e.sz=bsz by rw[hO.2.1,hb],Nat.add_mul]
    simp
  .split at hs
   .rename_i hc
    obtain⟨rfl,c1,c2,c3,c4⟩:=hc
    refine KH h ho ht hi' hsz (p:=p) (r:=r) (h':=h') ?_ hp
    simp only[step,hv,hob]
    rw[if_pos ⟨c1,c2⟩]
    have e1:σ.h.set id { ob with pr:=true,fz:=ob.es.length }=σ.h:=by
     have:({ ob with pr:=true,fz:=ob.es.length }:ah)=ob:=by rw[<- c3,<- c4]
     rw[this]
     exact Tg hob
    rw[e1]
    exact hs
   .cases hs
 .cases hs
theorem Y6 (h:Inv Gl F own B w0 σ act w) {o:Oper} {t et t':TypeId} {d s:Operand} (ho:o.op=.call { callee:=.builtin .copy,args:=#[d,s],argTypes:=#[t,t'] }) {i:TypeInfo} (ht:P.underlying t=some (.slice et)) (hi:P.info? et=some i) (h0:0 < i.size)
  {p:Prop} {r:AV} {h':List ah} (hs:step Gl σ (.copy i.size (ak d) (ak s))=some (p,r,h')) (hp:p):Ok1 P Gl B w0 σ act w o r h':=by
 have hed:=h.ev d
 have hex:=h.ev s
 simp only[step]at hs
 cases hy:dh σ.h i.size (σ.val Gl (ak s)) with
 |none=>rw[hy]at hs;cases hs
 |some ys =>
  rw[hy]at hs
  simp only at hs
  obtain⟨⟨A,c,news,ex,hA,hAc,hnl,p8,hn1,hnR⟩,rR⟩:=xB h hex h0 hy
  split at hs
  .rename_i id G sz' off len hv
   rw[hv]at hed
   obtain⟨e,he1,hG,⟨a0,cap0,hx0,hl0,ha0⟩,hx⟩:=hed.fP
   obtain⟨ob,hob,hO⟩:=h.lD he1
   have hO:=hO.qx (hed.iG he1)
   rw[hob]at hs
   simp only at hs
   split at hs
   .rename_i hc
    obtain⟨c1,rfl,c3,c4,c5⟩:=hc
    obtain⟨rfl,h2⟩:=Prod.mk.inj (Option.some.inj hs)
    obtain⟨rfl,rfl⟩:=Prod.mk.inj h2
    obtain⟨q1,q2,qe⟩:=hx (by rw[hO.1,c1])
    have hcap:e.G<=e.cap:=hO.2.2.2.1
    have heG:e.G=G:=by rw[hO.1,c1]
    have hcl:=hO.2.2.2.2.2.2.1
    have htl:(ys.take len).length=min ys.length len:=by rw[List.length_take,Nat.min_comm]
    have none':(ys.take len).length=0->({ ob with es:=ob.es.take off++ys.take len++ob.es.drop (off+(ys.take len).length) }:ah)=ob:=λhz=>by
     have:ys.take len=[]:=List.eq_nil_of_length_eq_zero hz
     rw[this];simp
    have Pm:∀ob':ah,ob'=ob->σ.h.set id ob'=σ.h:=λob' q=>by
     subst q
     apply List.ext_getElem?
     intro k
     rw[List.getElem?_set]
     split
     .rename_i hk;subst hk;split
      .rw[hob]
      .rename_i hn;rw[List.getElem?_eq_none (by omega)]
     .rfl
    have run:∀w',(Builtin.copy_ #[t,t'] o.type #[act.eval d,act.eval s]).run P w=.ok (goInt ((min ys.length len:Nat):Int)) w'->(execOp act.eval o).run P w=.ok (.value (.int .i64 (min ys.length len:Nat))) w':=by
     intro w' hr
     unfold execOp
     simp only[ho,resolve,invoke,builtin,Sem.run_bind,Sem.run_pure,Result.andThen_ok,List.map_toArray,List.map_cons,List.map_nil,hr]
     rfl
    by_cases hex:0<len\/off=0
    case neg =>
     have hl0':len=0:=by omega
     subst hl0'
     refine⟨_,_,w,F,own,run w ?_,.inl rfl,?_,.pure (.v _)⟩
     .rw[hx0,ex]
      cases A<;>cases a0<;>simp[Builtin.copy_,run_underlying ht,Builtin.lenOf,sizeOf,typeInfo,hi,Builtin.firstCells,loadCells,loadCellsFrom,storeCells]
     .rw[Pm _ (none' (by simp))];exact h
    obtain⟨cp,qc,q3⟩:=qe hex
    cases hg:e.g with
    |none =>
     have hcap0:e.cap=0:=by have:=hO.2.2.2.2.2.2.2;rw[hg]at this;exact this
     have hl0:len=0:=by omega
     subst hl0
     rw[hg]at q3
     refine⟨_,_,w,F,own,run w ?_,.inl rfl,?_,.pure (.v _)⟩
     .rw[q3,ex]
      cases A<;>simp[Builtin.copy_,run_underlying ht,Builtin.lenOf,sizeOf,typeInfo,hi,Builtin.firstCells,loadCells,loadCellsFrom]
     .rw[Pm _ (none' (by simp))];exact h
    |some g =>
     rw[hg]at q3
     simp only[Option.map_some]at q3
     obtain⟨cur,fr,hblk,hnf,hcsz,hcell⟩:=hO.blk hg (.inl c5)
     rw[c3]at hcsz hcell
     generalize hm:min ys.length len=m at *
     have hml:m<=len:=by omega
     have hmy:m<=ys.length:=by omega
     have hvs:(news.take (m*i.size)).length=m*i.size:=by
      rw[List.length_take,hnl];exact Nat.min_eq_left (Nat.mul_le_mul_right _ hmy)
     have hoff:(off+m)*i.size<=cur.size:=by rw[hcsz];exact Nat.mul_le_mul_right _ (by omega)
     rw[Nat.add_mul]at hoff
     have hrun:=iF P g (off*i.size) ob.ty fr (news.take (m*i.size)) 0 cur w hblk hnf (by rw[hvs];omega) (λv hv=>hn1 v (List.mem_of_mem_take hv))
     simp only[Nat.add_zero]at hrun
     have hfit:off*i.size+(news.take (m*i.size)).length<=cur.toList.length:=by rw[hvs];simpa using hoff
     generalize hcs':(cur.toList.take (off*i.size)++news.take (m*i.size)++cur.toList.drop (off*i.size+(news.take (m*i.size)).length)).toArray=cs' at hrun
     have hat:∀j,cs'[j]?=if j<off*i.size then cur[j]? else if j<off*i.size+m*i.size then(news.take (m*i.size))[j-off*i.size]? else cur[j]?:=λj=>by
      rw[<- hcs',List.getElem?_toArray,gX _ _ _ hfit,hvs]
      simp
     have hfc:(Builtin.firstCells i.size m (.slice A ys.length c)).run P w=.ok (news.take (m*i.size)).toArray w:=by
      cases A with
      |none =>
       have:=hA rfl
       subst this
       have:m=0:=by simpa using hmy
       subst this
       simp[Builtin.firstCells]
      |some ad =>
       exact run_firstCells_some w i.size m ad _ _ (news.take (m*i.size)) hvs (λj v q=>p8 ad rfl j v (by rw[List.getElem?_take]at q;split at q;exact q;cases q))
     have hmin:Nat.min ys.length len=m:=hm
     refine⟨_,_,_,F,own,run _ ?_,.inl rfl,h.set he1 hob hg (by rw[hO.2.1];exact hO.2.2.1) cs' rfl rfl rfl rfl ?_ ?_ ?_ ?_ ?_,.pure (.v _)⟩
     .rw[q3,ex]
      simp[Builtin.copy_,run_underlying ht,Builtin.lenOf,sizeOf,typeInfo,hi,hmin,hfc,hrun]
     .simp only[List.length_append,List.length_take,List.length_drop];omega
     .intro k z hz
      simp only at hz ⊢
      rw[gX _ _ _ (by rw[htl];omega),htl]at hz
      rw[c3]
      split at hz
      .rw[<- c3];exact hcl k z hz
      .split at hz
       .rw[List.getElem?_take]at hz
        split at hz
        .exact rR _ z hz
        .cases hz
       .rw[<- c3];exact hcl k z hz
     .rw[<- hcs']
      simp only[List.size_toArray,List.length_append,List.length_take,List.length_drop,hvs,Array.length_toList,hcsz,c3]
      rw[hcsz]at hoff
      omega
     .intro j z hj hz
      have:ob.fz*ob.sz<=off*i.size:=by rw[c3];exact Nat.mul_le_mul_right _ hp
      rw[hat j,if_pos (by omega)]
      rw[cell_of_row w g j cur ob.ty fr hblk]at hz
      exact hz
     .intro k j z a hz hb
      simp only at hz
      rw[c3]
      have hjl:j<i.size:=by
       have:z.cells.length=i.size:=by
        rw[gX _ _ _ (by rw[htl];omega),htl]at hz
        split at hz
        .rw[<- c3];exact hcl k z hz
        .split at hz
         .rw[List.getElem?_take]at hz
          split at hz
          .exact rR _ z hz
          .cases hz
         .rw[<- c3];exact hcl k z hz
       rw[<- this];exact(List.getElem?_eq_some_iff.1 hb).1
      rw[gX _ _ _ (by rw[htl];omega),htl]at hz
      rw[hat]
      split at hz
      .rename_i hk
       have:(k+1)*i.size<=off*i.size:=Nat.mul_le_mul_right _ hk
       rw[Nat.add_mul,Nat.one_mul]at this
       rw[if_pos (by omega)]
       exact hcell k j z a hz hb
      .rename_i hk
       have hk1:off*i.size<=k*i.size:=Nat.mul_le_mul_right _ (by omega)
       split at hz
       .rename_i hk2
        rw[List.getElem?_take]at hz
        split at hz
        .rename_i hk3
         have h5:(k-off+1)*i.size<=m*i.size:=Nat.mul_le_mul_right _ (by omega)
         rw[Nat.add_mul,Nat.one_mul]at h5
         have h6:k*i.size=(k-off)*i.size+off*i.size:=by rw[<- Nat.add_mul];congr 1;omega
         rw[if_neg (by omega),if_pos (by omega)]
         obtain⟨y,a1,a2,a3⟩:=hnR _ j z a hz hb
         refine⟨y,?_,a2,?_⟩
         .rw[show k*i.size+j-off*i.size=(k-off)*i.size+j by omega,List.getElem?_take,if_pos (by omega)];exact a1
         .unfold RC;rw[if_pos c4];exact a3
        .cases hz
       .rename_i hk2
        have h5:(off+m)*i.size<=k*i.size:=Nat.mul_le_mul_right _ (by omega)
        rw[Nat.add_mul]at h5
        rw[if_neg (by omega),if_neg (by omega)]
        exact hcell k j z a hz hb
   .cases hs
  .cases hs
theorem Ot:∀{ys:List AV} {l:List UInt8},bytesOf ys=some l->l.length=ys.length/\∀(k:Nat) (y:AV),ys[k]?=some y->∃n,y=.v (.int .u8 n)/\l[k]?=some (UInt8.ofNat n.toNat):=by
 intro ys
 induction ys with
 |nil=>intro l h;cases h;exact⟨rfl,λk y q=>by simp at q⟩
 |cons a ys ih =>
  intro l h
  simp only[bytesOf]at h
  split at h
  .rename_i b m hb hm
   cases h
   obtain⟨h1,h2⟩:=ih hm
   refine⟨by simp[h1],λk y q=>?_⟩
   cases k with
   |zero =>
    simp at q;subst q
    unfold byteOf at hb
    split at hb
    .cases hb;exact⟨_,rfl,rfl⟩
    .cases hb
   |succ k=>simp at q;obtain⟨n,e1,e2⟩:=h2 k y q;exact⟨n,e1,by simpa using e2⟩
  .cases h
theorem a1e (h:Inv Gl F own B w0 σ act w) {o:Oper} {s d e:TypeId} {x:Operand} (ho:o.op=.convert s d x) (hs1:P.underlying s=some (.slice e)) (he:P.underlying e=some (.int .u8)) (hd:P.underlying d=some .string)
  {p:Prop} {r:AV} {h':List ah} (hs:step Gl σ (.b2s (ak x))=some (p,r,h')) (hp:p):Ok1 P Gl B w0 σ act w o r h':=by
 have hex:=h.ev x
 simp only[step]at hs
 cases hy:dh σ.h 1 (σ.val Gl (ak x)) with
 |none=>rw[hy]at hs;cases hs
 |some ys =>
  rw[hy]at hs
  simp only at hs
  cases hb:bytesOf ys with
  |none=>rw[hb]at hs;cases hs
  |some l =>
   rw[hb]at hs
   obtain⟨_,h2⟩:=Prod.mk.inj (Option.some.inj hs)
   obtain⟨rfl,rfl⟩:=Prod.mk.inj h2
   obtain⟨⟨A,c,news,ex,hA,hAc,hnl,p8,hn1,hnR⟩,rR⟩:=xB h hex (by omega) hy
   obtain⟨hl,hat⟩:=Ot hb
   have hrun:(Conv.bytesToString (.slice A ys.length c)).run P w=.ok (.string ⟨l.toArray⟩) w:=by
    cases A with
    |none =>
     have:=hA rfl
     subst this
     have:l=[]:=List.eq_nil_of_length_eq_zero (by simpa using hl)
     subst this;rfl
    |some ad =>
     have a10:∀k,k<ys.length->∃n,news[k]?=some (.int .u8 n)/\l[k]?=some (UInt8.ofNat n.toNat):=λk hk=>by
      obtain⟨n,e1,e2⟩:=hat k ys[k] (List.getElem?_eq_getElem hk)
      obtain⟨y,a1,_,a3⟩:=hnR k 0 ys[k] (.v (.int .u8 n)) (List.getElem?_eq_getElem hk) (by rw[e1];rfl)
      have:y=.int .u8 n:=by cases a3;rfl
      subst this
      exact⟨n,by simpa using a1,e2⟩
     have key:∃ns:List Int,news=ns.map (Value.int .u8)/\l=ns.map (λn=>UInt8.ofNat n.toNat):=by
      refine⟨news.map (λv=>match v with|.int _ n=>n|_=>0),?_,?_⟩
      .apply List.ext_getElem?
       intro k
       rw[List.getElem?_map,List.getElem?_map]
       rcases Nat.lt_or_ge k ys.length with hk|hk
       .obtain⟨n,e1,_⟩:=a10 k hk
        rw[e1];rfl
       .rw[List.getElem?_eq_none (by omega)];rfl
      .apply List.ext_getElem?
       intro k
       rw[List.getElem?_map,List.getElem?_map]
       rcases Nat.lt_or_ge k ys.length with hk|hk
       .obtain⟨n,e1,e2⟩:=a10 k hk
        rw[e1,e2];rfl
       .rw[List.getElem?_eq_none (by omega),List.getElem?_eq_none (by omega)];rfl
     obtain⟨ns,e1,e2⟩:=key
     have hlen:news.length=ys.length:=by simpa using hnl
     have hload:(loadCells ad ys.length).run P w=.ok (ns.map (Value.int .u8)).toArray w:=by
      have:=run_firstCells_some (P:=P) w 1 ys.length ad ys.length c news hnl (p8 ad rfl)
      rw[<- e1]
      simpa[Builtin.firstCells]using this
     rw[run_bytesToString w ad ys.length c ns hload,e2]
     congr 2
     have fold:∀(ns:List Int) (s:ByteArray),ns.foldl (λr n=>r.push (UInt8.ofNat n.toNat)) s=⟨s.data++(ns.map λn=>UInt8.ofNat n.toNat).toArray⟩:=by
      intro ns
      induction ns with
      |nil=>intro s;simp
      |cons n ns ih=>intro s;rw[List.foldl_cons,ih];simp[ByteArray.push]
     rw[fold]
     have e0:ByteArray.empty.data=#[]:=rfl
     rw[e0,Array.empty_append]
   refine⟨_,_,w,F,own,?_,.inl rfl,h,.pure (.v _)⟩
   unfold execOp
   simp only[ho,ex,Sem.run_bind,run_convert_bytes_string w s d e A ys.length c hs1 he hd,hrun,Result.andThen_ok,Sem.run_pure]
theorem a02 (h:Inv Gl F own B w0 σ act w) {o:Oper} {s d e:TypeId} {x:Operand} (ho:o.op=.convert s d x) (hs1:P.underlying s=some .string) (hd:P.underlying d=some (.slice e)) (he:P.underlying e=some (.int .u8))
  {p:Prop} {r:AV} {h':List ah} (hs:step Gl σ (.s2b e (ak x))=some (p,r,h')) (hp:p):Ok1 P Gl B w0 σ act w o r h':=by
 have hex:=h.ev x
 simp only[step]at hs
 split at hs
 .rename_i b hv
  rw[hv]at hex
  have ex:=hex.aH
  obtain⟨rfl,h2⟩:=Prod.mk.inj (Option.some.inj hs)
  obtain⟨rfl,rfl⟩:=Prod.mk.inj h2
  have hcap:=grownCap_ge w b.size 0 e
  have hcm:=grownCap_le_maxLen w b.size 0 e (by simp only[maxLen];omega)
  have hl:(bN b).length=b.size:=by simp[bN]
  have hdr:Inv Gl F own B w0 σ act w.drew:=h.same rfl rfl rfl rfl
  have hcs:(Lib.bytesCells w e b).size=grownCap w b.size 0 e:=by simp[Lib.bytesCells];omega
  have hnew:=hdr.new (Lib.bytesCells w e b) ⟨e,1,0,true,bN b⟩ (grownCap w b.size 0 e) (by simp) rfl (by simp only[hl];exact hcap) hcm (λk y q=>by
   simp only[bN,List.getElem?_map]at q
   cases hc:b.data.toList[k]? with
   |none=>rw[hc]at q;cases q
   |some c=>rw[hc]at q;cases q;rfl) (by rw[hcs,Nat.mul_one]) (λk j y a q q'=>by
   simp only[bN,List.getElem?_map]at q
   cases hc:b.data.toList[k]? with
   |none=>rw[hc]at q;cases q
   |some c =>
    rw[hc]at q;cases q
    match j,q' with
    |0,q' =>
     cases q'
     have hk:k<b.data.size:=by have:=(List.getElem?_eq_some_iff.1 hc).1;simpa using this
     refine⟨.int .u8 c.toNat,?_,rfl,RP.v _⟩
     rw[Nat.mul_one,Nat.add_zero,Lib.bytesCells,Array.getElem?_append_left (by simpa using hk)]
     have hc':b.data[k]?=some c:=by simpa using hc
     rw[Array.getElem?_map,hc'];rfl
    |j+1,q'=>simp[AV.cells]at q')
  have hmark:=hnew.mark (w':=Lib.bytesWorld w e b) (g:=w.heap.size) rfl rfl rfl (λk hk=>?_) ?_ (Nat.le_trans h.room h.below.size) (λr=>r own.length _ eZ rfl)
  .refine⟨_,.slice (some ⟨w.heap.size,0,none⟩) b.size (grownCap w b.size 0 e),_,F,_,?_,.inl rfl,hmark,?_⟩
   .unfold execOp
    simp only[ho,ex,Sem.run_bind,Lib.run_convert_string_bytes w s d e b hs1 hd he,Result.andThen_ok,Sem.run_pure]
   .rw[<- h.hl,<- hl]
    refine .row _ _ _ _ _ _ _ eZ (by simp) ⟨_,_,rfl,by rw[hl];exact hcap,λ_=>rfl⟩ (λ_=>⟨rfl,by simp,λ_=>⟨_,Nat.le_of_eq (Nat.zero_add _),?_⟩⟩) (by first|omega|assumption|(simp;done)|(simp;omega)|(dsimp only;omega))
    simp[hl]
  .rcases Nat.lt_or_ge k w.heap.size with q|q
   .rw[Lib.bytesWorld_at_old w e b k q];exact(Below.heap_alloc w.drew _ k q).symm
   .rw[Array.getElem?_eq_none (by rw[Lib.bytesWorld_size];omega),Array.getElem?_eq_none (by simp;omega)]
  .exact⟨_,_,_,_,heap_alloc_new w.drew _,Lib.bytesWorld_at_new w e b,λj hj q=>by omega,by rw[Lib.bytesWorld_size];simp⟩
 .cases hs
theorem Hy{l:List ah}{a b:ah}:(l++[a]).set l.length b=l++[b]:=by
 rw[List.set_append_right _ _ (Nat.le_refl _)];simp
theorem Y9 (h:Inv Gl F own B w0 σ act w) {o:Oper} {t:TypeId} {x:Operand} (ho:o.op=.box t x) {sz:Nat} {k:IntKind} (h0:0 < sz)
  {p:Prop} {r:AV} {h':List ah} (hs:step Gl σ (.vg t sz k (ak x))=some (p,r,h')) (hp:p):Ok1 P Gl B w0 σ act w o r h':=by
 have he:=h.ev x
 simp only[step]at hs
 split at hs
 .rename_i cs hv
  split at hs
  .rename_i hc
   obtain⟨c1,c2,c3⟩:=hc
   obtain⟨_,h2⟩:=Prod.mk.inj (Option.some.inj hs)
   obtain⟨rfl,rfl⟩:=Prod.mk.inj h2
   rw[hv]at he
   obtain⟨xs,hx,hl,h1,hR⟩:=he.bB
   have hst:bJ false (.agg cs)=some cs:=by
    show(if cs.all (st1 false)=true then some cs else none)=some cs
    rw[if_pos]
    refine List.all_eq_true.2 λa ha=>?_
    obtain⟨z,rfl⟩:=Dh (List.all_eq_true.1 c3 a ha)
    obtain⟨j,hj,hz⟩:=List.mem_iff_getElem.1 ha
    have q:=hR j xs[j] (.v z) (Array.getElem?_eq_getElem (by omega)) (by rw[List.getElem?_eq_getElem hj,hz])
    have:=q.aH
    have q1:=h1 j xs[j] (Array.getElem?_eq_getElem (by omega))
    rw[this]at q1
    exact q1
   have hb:Ok1 P Gl B w0 σ act w o (.ptr σ.h.length 1 0 0) (σ.h++[⟨t,sz,0,false,[.agg cs]⟩]):=by
    refine Qk (p:=True) h ho h0 ?_ trivial
    simp only[step,hv,hst]
    rw[if_pos c1]
   obtain⟨nx,v,w',F',own',b1,b2,b3,b4⟩:=hb
   have hlast:(σ.h++[(⟨t,sz,0,false,[.agg cs]⟩:ah)])[σ.h.length]?=some ⟨t,sz,0,false,[.agg cs]⟩:=by simp
   have i1:=b3.ZE hlast (by simpa[AV.cells]using c3)
   have i1:Inv Gl F' own' B w0 ⟨σ.t,σ.h++[⟨t,sz,0,true,[.agg cs]⟩]⟩ act w':=by rw[Hy]at i1;exact i1
   obtain⟨F2,f1,f2,_⟩:=i1.Eh (id:=σ.h.length) (ob:=⟨t,sz,0,true,[.agg cs]⟩) (by simp)
   rw[Hy]at f2
   exact⟨nx,v,w',F2,own',b1,b2,f2,b4.mono f1 (Le.refl _)⟩
  .cases hs
 .cases hs
theorem a1b (h:Inv Gl F own B w0 σ act w) {o:Oper} {f:FuncId} {cs:Array Operand} (ho:o.op=.makeFunc (.func f) #[] cs)
  {p:Prop} {r:AV} {h':List ah} (hs:step Gl σ (.clo f (cs.toList.map ak))=some (p,r,h')) (hp:p):Ok1 P Gl B w0 σ act w o r h':=by
 simp only[step]at hs
 obtain⟨_,h2⟩:=Prod.mk.inj (Option.some.inj hs)
 obtain⟨rfl,rfl⟩:=Prod.mk.inj h2
 have run:(execOp act.eval o).run P w=.ok (.value (.func (.func f) #[] (cs.map act.eval))) w:=by
  unfold execOp
  simp only[ho]
  simp[Instr.makeFunc]
 refine Ok1.mk h run (.clo f _ _ (by simp) λj x a p q=>?_)
 have hj:j<cs.size:=by have:=(Array.getElem?_eq_some_iff.1 p).1;simpa using this
 rw[Array.getElem?_map,Array.getElem?_eq_getElem hj]at p
 cases p
 simp[List.getElem?_eq_getElem,hj]at q
 subst q
 exact h.ev cs[j]
end
end
end
end Abs
end Go.Proofs.YtnhgeocdffhkjaaGreatDoor
