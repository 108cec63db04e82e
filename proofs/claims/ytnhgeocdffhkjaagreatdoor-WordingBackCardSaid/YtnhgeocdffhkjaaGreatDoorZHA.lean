/- Merged and trimmed by a program: Abs0 Abs1 Abs2 Abs3 Abs4 Abs5 Abs6 AbsE Abs7 Abs8 Abs9. -/
import Derived.WalkKit
import Derived.Below
import Derived.Orders
import Derived.Laws.AppendOwn
import Derived.Laws.StructEq
import Derived.Laws.MakeOwn
import Derived.Lib.AppendStr
import Derived.Laws.BytesString
import Derived.Lib.ConvBytes
set_option linter.unusedVariables false
set_option linter.unusedSimpArgs false
set_option linter.defProp false
namespace Go.Proofs.YtnhgeocdffhkjaaGreatDoor
namespace Abs
noncomputable section
def ah.{u}:=@List.getElem?_eq_getElem.{u}
def aj.{u}:=@List.getElem?_eq_some_iff.{u}
def ak.{u}:=@List.length_append.{u}
def au.{u}:=@List.getElem?_append_left.{u}
def aB:=@Bool.and_eq_true
def aC.{u}:=@List.getElem?_set_ne.{u}
def aD.{u}:=@List.all_eq_true.{u}
def aF.{u}:=@Array.getElem?_eq_getElem.{u}
def aG.{u}:=@List.mem_append.{u}
def aI.{u}:=@Option.some.inj.{u}
def aJ.{u}:=@List.length_singleton.{u}
def aK.{u}:=@List.getElem?_set_self.{u}
def aL.{u}:=@List.length_cons.{u}
def aO.{u}:=@List.getElem?_append_right.{u}
def aP.{u,v}:=@Prod.mk.inj.{u,v}
def aS:=@Nat.le_refl
def aT.{u,v}:=@List.getElem?_map.{u,v}
def aU.{u,v}:=@List.map_append.{u,v}
def aV.{u}:=@List.mem_singleton.{u}
def aX.{u}:=@List.getElem?_eq_none.{u}
def aZ.{u}:=@List.append_assoc.{u}
def bg.{u,v}:=@List.map_cons.{u,v}
def bq.{u,v}:=@Option.map_some.{u,v}
def bA.{u,v}:=@List.length_map.{u,v}
def bB.{u}:=@List.getD_eq_getElem?_getD.{u}
def bC.{u}:=@List.length_eq_zero_iff.{u}
def bD.{u}:=@List.mem_cons.{u}
def bF:=@Nat.le_trans
def bG.{u}:=@List.mem_cons_of_mem.{u}
def bI:=@Nat.lt_or_ge
def bJ.{u}:=@List.not_mem_nil.{u}
def bL:=@List.mem_range
def bM:=@Nat.mul_le_mul_right
def bN:=@Nat.zero_le
def bP.{u}:=@List.mem_of_getElem?.{u}
def bU.{u}:=@List.getElem?_take.{u}
def bW:=@decide_eq_true
def bX.{u,v}:=@List.mem_map.{u,v}
def bY.{u}:=@List.mem_cons_self.{u}
def cu.{u}:=@List.append_nil.{u}
def dh.{u}:=@List.getElem?_set.{u}
def dn.{u,v}:=@congrArg.{u,v}
def dw.{u,v}:=@List.flatMap_cons.{u,v}
def dz:=@Bool.eq_iff_iff
def dD:=@Nat.zero_add
def dF:=@Nat.add_mul
def dH:=@Bool.false_eq_true
def dM:=@decide_eq_false
def dN.{u}:=@List.nodup_append.{u}
def dP.{u}:=@List.mem_iff_getElem?.{u}
def dS.{u}:=@List.length_nil.{u}
def dW.{u}:=@Option.some.injEq.{u}
def eD:=@Nat.eq_zero_or_pos
def eF.{u}:=@List.take_of_length_le.{u}
def eT:=@decide_eq_true_eq
def eX.{u,v}:=@List.foldl_cons.{u,v}
def fB.{u,v}:=@Option.map_eq_some_iff.{u,v}
def fC.{u}:=@Array.getElem?_eq_some_iff.{u}
def fD.{u}:=@Array.all_eq_true_iff_forall_mem.{u}
def fF.{u}:=@List.nil_append.{u}
def fG:=@Int.toNat_natCast
def fH.{u,v,w}:=@List.map_map.{u,v,w}
def fM.{u}:=@List.sum_cons.{u}
def fT.{u}:=@List.getElem?_drop.{u}
def fU.{u}:=@List.eq_nil_of_length_eq_zero.{u}
def fV:=@Nat.eq_of_beq_eq_true
def gF.{u}:=@Option.getD_some.{u}
def gG:=@Nat.add_assoc
def gI.{u}:=@List.eq_of_mem_replicate.{u}
def gL.{u}:=@List.mem_filter.{u}
def gM.{u}:=@List.contains_iff_mem.{u}
def gN:=@Nat.one_mul
def gQ:=@Int.toNat_of_nonneg
def gU.{u}:=@Array.getElem?_append_left.{u}
def gV.{u,v}:=@Option.bind_eq_some_iff.{u,v}
def gX.{u}:=@List.ext_getElem?.{u}
def iB.{u}:=@List.flatten_cons.{u}
def iD:=@Bool.true_and
def iI:=@Bool.or_eq_true
def iL.{u,v}:=@Option.bind_some.{u,v}
def iM.{u,v}:=@List.mem_flatMap.{u,v}
def iN.{u}:=@List.drop_eq_nil_of_le.{u}
def iO.{u}:=@List.any_eq_true.{u}
def iR.{u,v}:=@List.foldl_append.{u,v}
def iT:=@Bool.not_eq_true'
def iY:=@Nat.le_of_eq
def iZ:=@Nat.le_of_ble_eq_true
def jc.{u}:=@Array.getElem?_setIfInBounds.{u}
def jl.{u}:=@Array.getD_eq_getD_getElem?.{u}
def jm:=@decide_eq_false_iff_not
def jy.{u}:=@List.take_succ_eq_append_getElem.{u}
def jA.{u}:=@List.getElem_mem.{u}
def jH.{u}:=@List.sum_append.{u}
def jP:=@Nat.zero_mul
def jQ:=@Nat.add_zero
def jR.{u}:=@List.length_take.{u}
def jT.{u}:=@List.all_cons.{u}
def ku.{u}:=@List.drop_zero.{u}
def kD.{u}:=@List.getElem?_replicate.{u}
def kM.{u}:=@List.nodup_cons.{u}
def kQ.{u}:=@List.flatten_append.{u}
def lJ:=@Classical.byContradiction
def lZ.{u}:=@List.eq_nil_iff_forall_not_mem.{u}
def mg:=@Bool.or_eq_false_iff
def mF.{u}:=@Array.length_toList.{u}
def mI.{u}:=@List.take_length.{u}
def mO.{u}:=@cond_false.{u}
def mR.{u}:=@List.length_eq_one_iff.{u}
def mU:=@Int.le_refl
def ni:=@Nat.lt_of_lt_of_le
def nk.{u,v}:=@List.mem_filterMap.{u,v}
def nH.{u,v}:=@Prod.mk.injEq.{u,v}
def nM.{u}:=@List.mem_iff_getElem.{u}
def nN.{u}:=@List.mem_append_left.{u}
def nO.{u,v,w}:=@Array.mapM_eq_mapM_toList.{u,v,w}
def oh:=@List.range'_succ
def ow:=@Nat.add_le_add_left
def oz.{u,v}:=@List.map_congr_left.{u,v}
def oC.{u}:=@Array.getElem?_setIfInBounds_ne.{u}
def oV:=@Bool.not_true
def pE.{u}:=@List.length_set.{u}
def q9.{u}:=@List.take_append_of_le_length.{u}
def ql.{u}:=@List.size_toArray.{u}
def qm.{u}:=@List.any_eq_false.{u}
def qJ:=@Nat.sub_self
def qK.{u}:=@List.take_zero.{u}
def qL.{u}:=@List.take_append_drop.{u}
def qM.{u}:=@List.mem_append_right.{u}
def qO.{u}:=@List.length_replicate.{u}
def qP.{u}:=@List.getElem?_toArray.{u}
def qR.{u}:=@cond_true.{u}
def rE.{u}:=@beq_iff_eq.{u}
def rG:=@Nat.le_add_right
def rH:=@List.range_eq_range'
def rJ.{u}:=@List.length_drop.{u}
def tJ.{u}:=@List.pairwise_cons.{u}
def tK:=@Int.tmod_lt_of_pos
def tL.{u}:=@Array.getElem?_replicate.{u}
def tN.{u,v}:=@Array.getElem?_map.{u,v}
def uq.{u}:=@List.nodup_nil.{u}
def uw.{u,v,w}:=@List.mapM_cons.{u,v,w}
def uz:=@Nat.add_sub_cancel_left
def uD.{u}:=@List.filter_cons_of_pos.{u}
def uE.{u}:=@List.filter_cons_of_neg.{u}
def uM:=@Nat.lt_trichotomy
def uS:=@List.pairwise_lt_range
def uW:=@Bool.false_or
def uX:=@Bool.and_true
def vI:=@Bool.not_eq_true
def vR.{u}:=@List.countP_eq_length.{u}
def wL.{u,v}:=@Option.map_none.{u,v}
def wN.{u}:=@List.drop_append_of_le_length.{u}
def wO.{u}:=@List.replicate_succ.{u}
def wP:=@List.getElem?_range
def wQ.{u}:=@List.countP_eq_zero.{u}
def xS:=@Bool.not_false
def yD:=@UInt8.toNat_ofNat'
def yF:=@Int.emod_lt_of_pos
def yG.{u}:=@Array.ext_getElem?.{u}
def yR.{u,v}:=@List.map_take.{u,v}
def yS.{u,v}:=@List.map_drop.{u,v}
def yT.{u}:=@Array.size_append.{u}
def Ac:=@Nat.succ_mul
def Ad.{u}:=@List.zipIdx_cons.{u}
def Ae.{u}:=@List.drop_append.{u}
def Af.{u}:=@List.cons_append.{u}
def Ag:=@Int.add_zero
def Av.{u}:=@List.cons.injEq.{u}
def Aw:=@Int.tmod_nonneg
def Ay:=@Int.emod_nonneg
def Az.{u}:=@Array.ext.{u}
section
open Go.RowKit
inductive AV where
 |any
 |v (x:Value)
 |list (sz:Nat) (xs:List AV)
 |iF (cs:List AV)
 |row (id G sz off len:Nat)
 |ptr (id G i off:Nat)
 |agg (cs:List AV)
 |tup (vs:List AV)
 deriving Inhabited
def AV.cells:AV->List AV
 |.agg cs=>cs
 |a=>[a]
structure Ent where
 g:Option Nat
 G:Nat
 sz:Nat
 cap:Nat
structure aH where
 ty:Nat
 sz:Nat
 fz:Nat
 pr:Bool
 es:List AV
 deriving Inhabited
structure St where
 t:List AV
 h:List aH
inductive RP (F:Addr->Option Value):Value->AV->Prop
 |any (x:Value):RP F x .any
 |v (x:Value):RP F x (.v x)
 |nil (sz:Nat):RP F (.slice none 0 0) (.list sz [])
 | list (ad:Addr) (n cap sz:Nat) (xs:List AV) (cv:Nat->Value) (hn:xs.length=n) (hc:n<=cap) (hz:∀ (i:Nat) (e:AV),xs[i]?=some e->e.cells.length=sz)
   (hF:∀(i j:Nat) (e a:AV),xs[i]?=some e->e.cells[j]?=some a->F (ad.add (i*sz+j))=some (cv (i*sz+j))/\(cv (i*sz+j)).oneCell'=true)
   (hR:∀(i j:Nat) (e a:AV),xs[i]?=some e->e.cells[j]?=some a->RP F (cv (i*sz+j)) a):RP F (.slice (some ad) n cap) (.list sz xs)
 | iF (ad:Addr) (cs:List AV) (cv:Nat->Value) (hF:∀ (j:Nat) (a:AV),cs[j]?=some a->F (ad.add j)=some (cv j)/\(cv j).oneCell'=true)
   (hR:∀(j:Nat) (a:AV),cs[j]?=some a->RP F (cv j) a):RP F (.pointer (some ad)) (.iF cs)
 |agg (xs:Array Value) (cs:List AV) (hl:xs.size=cs.length) (h1:∀(j:Nat) (x:Value),xs[j]?=some x->x.oneCell'=true) (hR:∀(j:Nat) (x:Value) (a:AV),xs[j]?=some x->cs[j]?=some a->RP F x a):RP F (.agg xs) (.agg cs)
 |tup (xs:Array Value) (cs:List AV) (hl:xs.size=cs.length) (hR:∀(j:Nat) (x:Value) (a:AV),xs[j]?=some x->cs[j]?=some a->RP F x a):RP F (.tuple xs) (.tup cs)
inductive R (F:Addr->Option Value) (own:List Ent):Value->AV->Prop
 |pure {x:Value} {a:AV} (h:RP F x a):R F own x a
 |row (x:Value) (id G sz off len:Nat) (e:Ent) (he:own[id]?=some e) (hG:G<=e.G) (hs:∃a cap,x=.slice a len cap/\len<=cap/\(0<len\/off≠0->a.isSome=true)) (hx:G=e.G->sz=e.sz/\off+len<=G/\(0<len\/off=0->∃cp,off+cp=e.cap/\x=.slice (e.g.map λg=>⟨g,off*sz,none⟩) len cp)) (hz:0<e.sz):R F own x (.row id G sz off len)
 |ptr (x:Value) (id G i off:Nat) (e:Ent) (he:own[id]?=some e) (hG:G<=e.G) (hs:∃a,x=.pointer (some a)) (hx:G=e.G->∃g,e.g=some g/\x=.pointer (some ⟨g,i*e.sz+off,none⟩)) (hz:0<e.sz):R F own x (.ptr id G i off)
 |agg (xs:Array Value) (cs:List AV) (hl:xs.size=cs.length) (h1:∀(j:Nat) (x:Value),xs[j]?=some x->x.oneCell'=true) (hR:∀(j:Nat) (x:Value) (a:AV),xs[j]?=some x->cs[j]?=some a->R F own x a):R F own (.agg xs) (.agg cs)
 |tup (xs:Array Value) (cs:List AV) (hl:xs.size=cs.length) (hR:∀(j:Nat) (x:Value) (a:AV),xs[j]?=some x->cs[j]?=some a->R F own x a):R F own (.tuple xs) (.tup cs)
def RC(F:Addr->Option Value)(own:List Ent)(pr:Bool)(y:Value)(a:AV):Prop:=if pr=true then RP F y a else R F own y a
def KA(fr:Nat×Nat)(n:Nat):Prop:=∀j,j<n->¬(fr.1<=j/\j<fr.2)
def b3N(fr:Nat×Nat)(n:Nat)(_:Bool)(fz len:Nat):Prop:=KA fr n\/(fz=len/\0<len)
def jO:Value->AV
 |.agg cs=>.agg (cs.toList.map .v)
 |z=>.v z
def rz(t:Nat):Bool:=Nat.beq t 207
def og(F:Addr->Option Value)(own:List Ent)(w:World)(e:Ent)(o:aH):Prop :=
 e.G=o.es.length/\e.sz=o.sz/\0<o.sz/\e.G<=e.cap/\(e.cap<=maxLen/\(o.pr=false->rz o.ty=false->e.cap=o.es.length))/\o.fz<=o.es.length/\(∀(i:Nat) (x:AV),o.es[i]?=some x->x.cells.length=o.sz)/\
 match e.g with
 |none=>e.cap=0
 | some g=>∃ cs:Array Value,(∃ fr,w.heap[g]?=some (.cells cs o.ty fr)/\b3N fr cs.size o.pr o.fz o.es.length)/\cs.size=e.cap * o.sz /\
   (∀(i j:Nat) (x a:AV),o.es[i]?=some x->x.cells[j]?=some a->∃y,cs[i*o.sz+j]?=some y/\y.oneCell'=true/\RC F own o.pr y a)/\
   (∀j,o.fz*o.sz<=j->F ⟨g,j,none⟩=none)
def KD(Gl:Nat->Option (List AV))(F:Addr->Option Value):Prop:=∀g cs,Gl g=some cs->RP F (.pointer (some ⟨g,0,none⟩)) (.iF cs)
def GlW(Gl:Nat->Option (List AV))(B:Nat)(w:World):Prop:=∀g cs,Gl g=some cs->g<B/\∃vs ty fr,w.heap[g]?=some (.cells vs ty fr)/\vs.size=cs.length
structure PdE where
 obj:Obj
 e:Ent
 ob:aH
 ok:∀(F:Addr->Option Value) (own:List Ent) (w:World),(∀g,e.g=some g->w.heap[g]?=some obj/\∀j,F ⟨g,j,none⟩=none)->og F own w e ob
structure W0 where
 w:World
 F:Addr->Option Value
 N:Nat
 fr:List (Nat×Value×AV)
 hfr:∀q∈fr,q.1<=N
 pd:List PdE
 pdn:pd.Pairwise λa b=>∀g,a.e.g=some g->b.e.g≠some g
 df:List Deferred
def zm(own:List Ent)(g:Nat):Prop:=∀(id:Nat) (e:Ent),own[id]?=some e->e.g≠some g
def EJ(B:Nat)(l:List PdE)(F:Addr->Option Value)(own:List Ent)(w:World):Prop:=∀q∈l,∀g,q.e.g=some g->w.heap[g]?=some q.obj/\(∀j,F ⟨g,j,none⟩=none)/\zm own g/\B<=g
structure Inv (Gl:Nat->Option (List AV)) (F:Addr->Option Value) (own:List Ent) (B:Nat) (w0:W0) (σ:St) (act:Act) (w:World):Prop where
 tl:act.tmps.size=σ.t.length
 tr:∀(i:Nat) (x:Value) (a:AV),act.tmps[i]?=some x->σ.t[i]?=some a->R F own x a
 defers:act.defers=w0.df
 sub:∀a x,F a=some x->w.cell? a=some x
 hl:own.length=σ.h.length
 objs:∀(id:Nat) (e:Ent) (o:aH),own[id]?=some e->σ.h[id]?=some o->og F own w e o
 inj:∀(i j:Nat) (e e':Ent) (g:Nat),own[i]?=some e->own[j]?=some e'->e.g=some g->e'.g=some g->i=j
 below:Below B w0.w w
 base:∀(id:Nat) (e:Ent) (g:Nat),own[id]?=some e->e.g=some g->B<=g
 gl:KD Gl F
 gw:GlW Gl B w0.w
 room:B<=w0.w.heap.size
 ext:∀(ad:Addr) (y:Value),F ad=some y->w0.F ad=some y\/B<=ad.block
 jI:∀(ad:Addr) (y:Value),w0.F ad=some y->F ad=some y
 nl:w0.N<=σ.h.length
 fr:∀q∈w0.fr,R F (own.take q.1) q.2.1 q.2.2
 pd:EJ B w0.pd F own w
inductive Opd where
 |t (i:Nat)
 |k (x:Value)
 |g (i:Nat)
 deriving Inhabited
@[reducible] def Opd.fn (f:FuncId):Opd:=.k (.func (.func f) #[] #[])
inductive I where
 |mov (x:Opd)
 |pick (c a b:Opd)
 |bin (op:BinOp) (x y:Opd)
 |aeq (neg:Bool) (fs:List (Nat×Nat)) (x y:Opd)
 |un (op:UnOp) (x:Opd)
 |conv (k:IntKind) (x:Opd)
 |ext (i:Nat) (x:Opd)
 |fO (off:Nat) (x:Opd)
 |rA (sz:Nat) (x i:Opd)
 |load (sz:Nat) (ag:Bool) (x:Opd)
 |store (sz:Nat) (x y:Opd)
 |slice (sz:Nat) (x:Opd) (lo hi:Option Opd)
 |yg (x:Opd) (lo hi:Option Opd)
 |len (x:Opd)
 |AQ (x:Opd)
 |nck (x:Opd)
 |idx (x i:Opd)
 |app (ty sz bytes:Nat) (s x:Opd)
 |apps (ty bytes:Nat) (s x:Opd)
 |b2s (x:Opd)
 |lI (ty sz:Nat) (xs:List Opd)
 |Aq (ty sz:Nat) (xs:List Opd)
 |bsc (ty:Nat) (xs:List Opd)
 |build (zero:List Value) (parts:List (Nat×Nat×Opd))
 |box (ty sz:Nat) (x:Opd)
 |alloc (ty:Nat) (zero:Value)
 |mk (ty sz bytes:Nat) (zero:Value) (n:Opd)
 |mQ (bsz st n:Nat) (x i:Opd)
 |min2 (x y:Opd)
 |max2 (x y:Opd)
 |call (fn:Opd) (args:List Opd)
 deriving Inhabited
structure Ins where
 dst:Option Nat
 gd:Option (Nat×Bool)
 i:I
 deriving Inhabited
inductive C where
 |skip
 |ops (draw:Bool) (l:List Ins)
 |pO (l:List (Nat×Ins))
 |seq (a b:C)
 |cond (c:Opd) (a b:C)
 |block (id:Nat) (b:C)
 |loop (b:C)
 |exit (id:Nat)
 |ret
 deriving Inhabited
def St.val(Gl:Nat->Option (List AV))(σ:St):Opd->AV
 |.t i=>σ.t.getD i .any
 |.k x=>.v x
 |.g i=>match Gl i with
  |some cs=>.iF cs
  |none=>.any
def St.put(σ:St)(d:Option Nat)(a:AV):St :=
 match d with
 |some i=>{ σ with t:=σ.t.set i a }
 |none=>σ
def sc1:AV->Bool
 |.v x=>x.oneCell'
 |_=>false
def bV:BinOp->Value->Value->Option (Prop×Value)
 |.add,.int k a,.int k' b=>if k=k' then some (True,.int k (k.wrap (a+b))) else none
 |.sub,.int k a,.int k' b=>if k=k' then some (True,.int k (k.wrap (a-b))) else none
 |.mul,.int k a,.int k' b=>if k=k' then some (True,.int k (k.wrap (a*b))) else none
 |.quo,.int k a,.int k' b=>if k=k' then some (b≠0,.int k (k.wrap (a.tdiv b))) else none
 |.rem,.int k a,.int k' b=>if k=k' then some (b≠0,.int k (a.tmod b)) else none
 |.and,.int k a,.int k' b=>if k=k' then some (True,.int k (k.wrap (BitVec.ofInt k.bits a&&& BitVec.ofInt k.bits b).toNat)) else none
 |.or,.int k a,.int k' b=>if k=k' then some (True,.int k (k.wrap (BitVec.ofInt k.bits a||| BitVec.ofInt k.bits b).toNat)) else none
 |.xor,.int k a,.int k' b=>if k=k' then some (True,.int k (k.wrap (BitVec.ofInt k.bits a ^^^ BitVec.ofInt k.bits b).toNat)) else none
 |.shl,.int k a,.int _ b=>some (0<=b,.int k (k.wrap (a*2^(min b.toNat k.bits))))
 |.shr,.int k a,.int _ b=>some (0<=b,.int k (a.fdiv (2^(min b.toNat k.bits))))
 |.eql,.int k a,.int k' b=>if k=k' then some (True,.bool (a==b)) else none
 |.neq,.int k a,.int k' b=>if k=k' then some (True,.bool (a != b)) else none
 |.lss,.int k a,.int k' b=>if k=k' then some (True,.bool (a<b)) else none
 |.leq,.int k a,.int k' b=>if k=k' then some (True,.bool (a<=b)) else none
 |.gtr,.int k a,.int k' b=>if k=k' then some (True,.bool (b<a)) else none
 |.geq,.int k a,.int k' b=>if k=k' then some (True,.bool (b<=a)) else none
 |.add,.string a,.string b=>some (a.size+b.size<=9223372036854775807,.string (a++b))
 |.eql,.string a,.string b=>some (True,.bool (a.toList==b.toList))
 |.neq,.string a,.string b=>some (True,.bool !(a.toList==b.toList))
 |.lss,.string a,.string b=>some (True,.bool (Op.bytesLess a.toList b.toList))
 |.leq,.string a,.string b=>some (True,.bool (Op.bytesLess a.toList b.toList||a.toList==b.toList))
 |.gtr,.string a,.string b=>some (True,.bool !(Op.bytesLess a.toList b.toList||a.toList==b.toList))
 |.geq,.string a,.string b=>some (True,.bool !(Op.bytesLess a.toList b.toList))
 |_,_,_=>none
def eq1:AV->AV->Option Bool
 |.v (.int k a),.v (.int k' b)=>if k=k' then some (a==b) else none
 |_,_=>none
def eqA(xs ys:List AV):List (Nat×Nat)->Option Bool
 |[]=>some true
 |(i,_)::fs=>match eq1 (xs.getD i .any) (ys.getD i .any),eqA xs ys fs with
  |some a,some b=>some (a&&b)
  |_,_=>none
def unV:UnOp->Value->Option Value
 |.neg,.int k n=>some (.int k (k.wrap (0-n)))
 |.not,.bool b=>some (.bool !b)
 |_,_=>none
def setCells(e:AV)(o:Nat)(cs:List AV):AV :=
 match e with
 |.agg es=>.agg (es.take o++cs++es.drop (o+cs.length))
 |_=>cs.headD .any
def st1(pr:Bool):AV->Bool
 |.v x=>x.oneCell'
 |.list _ _|.iF _=>true
 |.row ..|.ptr ..=>!pr
 |_=>false
def dB(pr:Bool):AV->Option (List AV)
 |.agg cs=>if cs.all (st1 pr) then some cs else none
 |a=>if st1 pr a then some [a] else none
def jY(h:List aH):AV->Option AV
 |.any=>none
 |.v x=>if x.oneCell' then some (.v x) else none
 |.list sz xs=>some (.list sz xs)
 |.iF cs=>some (.iF cs)
 |.row id G sz off len=>match h[id]? with
  |some o=>if o.es.length=G/\o.sz=sz/\o.pr=true then some (.list sz ((o.es.drop off).take len)) else none
  |none=>none
 |_=>none
def jK(h:List aH):List AV->Option (List AV)
 |[]=>some []
 |a::l=>match jY h a,jK h l with
  |some b,some m=>some (b::m)
  |_,_=>none
def gW(h:List aH):AV->Option AV
 |.agg cs=>(jK h cs).map .agg
 |a=>jY h a
def dV(h:List aH):List AV->Option (List AV)
 |[]=>some []
 |a::l=>match gW h a,dV h l with
  |some b,some m=>some (b::m)
  |_,_=>none
def CG(h:List aH):AV->Option AV
 |.tup vs=>(dV h vs).map .tup
 |a=>gW h a
def bZ:AV->List Nat
 |.row id _ _ _ _=>[id]
 |_=>[]
def dU:AV->List Nat
 |.agg cs=>cs.flatMap bZ
 |a=>bZ a
def freeze(h:List aH)(ids:List Nat):List aH:=ids.foldl (λh id=>match h[id]? with|some o=>h.set id { o with fz:=o.es.length }|none=>h) h
def plE(e:AV):Bool:=e.cells.all (st1 true)
def iC(h:List aH)(sz:Nat):AV->Option (List AV)
 |.list sz' xs=>if sz'=sz then some xs else none
 |.v (.slice none 0 0)=>some []
 |.row id G sz' off len=>match h[id]? with
  |some o=>if o.es.length=G/\sz'=sz/\o.sz=sz/\(o.pr=true\/o.es.all plE=true) then some ((o.es.drop off).take len) else none
  |none=>none
 |_=>none
def asN:AV->Option Int
 |.v (.int _ n)=>some n
 |_=>none
def qD(n:Nat)(lo hi:Option AV):Option (Prop×Int×Int) :=
 match(match lo with|none=>some 0|some a=>asN a),(match hi with|none=>some (n:Int)|some a=>asN a) with
 |some l,some h=>some (0<=l/\l<=h/\h<=n,l,h)
 |_,_=>none
def wK:AV->Bool
 |.v _=>true
 |_=>false
def scalar:AV->Bool
 |.v _=>true
 |.agg cs=>cs.all wK
 |.tup vs=>vs.all λa=>match a with|.v _=>true|.agg cs=>cs.all wK|_=>false
 |_=>false
def l6(Gl:Nat->Option (List AV))(σ:St):List AV->List (Nat×Nat×Opd)->Option (List AV)
 |cs,[]=>some cs
 |cs,(off,sz,x)::r=>match dB false (σ.val Gl x) with
  |some vs=>if vs.length=sz/\off+sz<=cs.length then l6 Gl σ (cs.take off++vs++cs.drop (off+sz)) r else none
  |none=>none
def lU:Nat:=140737488355328
def jJ(s:ByteArray):List AV:=s.data.toList.map λc=>.v (.int .u8 c.toNat)
def byteOf:AV->Option UInt8
 |.v (.int .u8 n)=>some (UInt8.ofNat n.toNat)
 |_=>none
def bytesOf:List AV->Option (List UInt8)
 |[]=>some []
 |a::l=>match byteOf a,bytesOf l with
  |some b,some m=>some (b::m)
  |_,_=>none
def tF(h:List aH)(ty sz bytes:Nat)(a:AV)(ys:List AV):Option (Prop×AV×List aH) :=
 match a with
 |.v (.slice none 0 0)=>some (ys.length*bytes<=lU/\ys.length<=4611686018427387904,.row h.length ys.length sz 0 ys.length,h++[⟨ty,sz,0,true,ys⟩])
 |.row id G sz' off len=>match h[id]? with
  | some ob=>if len < G/\rz ty=true/\ys.length=1/\ob.es.length=G/\sz'=sz/\ob.ty=ty/\ob.sz=sz/\off=0/\ob.fz=0 then
    some (True,.row id G sz 0 (len+1),h.set id { ob with es:=ob.es.set len (ys.headD .any) })
   else if ob.es.length=G/\sz'=sz/\ob.ty=ty/\ob.sz=sz/\off=0/\(ob.pr=true\/rz ty=true)/\ob.fz=0 then
    some (len=G/\(G+ys.length)*bytes<=lU/\G+ys.length<=4611686018427387904,.row id (G+ys.length) sz 0 (G+ys.length),h.set id { ob with es:=ob.es++ys })
   else none
  |none=>none
 |_=>none
def step(Gl:Nat->Option (List AV))(σ:St):I->Option (Prop×AV×List aH)
 |.mov x=>some (True,σ.val Gl x,σ.h)
 |.pick c a b=>match σ.val Gl c with
  |.v (.bool t)=>some (True,if t then σ.val Gl a else σ.val Gl b,σ.h)
  |_=>none
 |.bin op x y=>match σ.val Gl x,σ.val Gl y with
  |.v a,.v b=>(bV op a b).map fun(p,r)=>(p,.v r,σ.h)
  |_,_=>none
 |.aeq neg fs x y=>match σ.val Gl x,σ.val Gl y with
  |.agg xs,.agg ys=>(eqA xs ys fs).map λb=>(True,.v (.bool (if neg then !b else b)),σ.h)
  |_,_=>none
 |.un op x=>match σ.val Gl x with
  |.v a=>(unV op a).map λr=>(True,.v r,σ.h)
  |_=>none
 |.conv k x=>match σ.val Gl x with
  |.v (.int _ n)=>some (True,.v (.int k (k.wrap n)),σ.h)
  |_=>none
 |.ext i x=>match σ.val Gl x with
  |.tup vs=>(vs[i]?).map λa=>(True,a,σ.h)
  |_=>none
 |.fO off x=>match σ.val Gl x with
  |.ptr id G i o=>some (True,.ptr id G i (o+off),σ.h)
  |.iF cs=>some (True,.iF (cs.drop off),σ.h)
  |_=>none
 |.rA sz x i=>match σ.val Gl x,σ.val Gl i with
  |.list sz' xs,.v (.int _ n)=>if sz'=sz then some (0<=n/\n<xs.length,.iF (xs.getD n.toNat .any).cells,σ.h) else none
  |.row id G sz' off len,.v (.int _ n)=>if sz'=sz then some (0<=n/\n<len,.ptr id G (off+n.toNat) 0,σ.h) else none
  |_,_=>none
 |.load sz ag x=>match σ.val Gl x with
  |.iF cs=>if ag then(if sz<=cs.length then some (True,.agg (cs.take sz),σ.h) else none) else cs.head?.map λa=>(True,a,σ.h)
  |.ptr id G i o=>match σ.h[id]? with
   | some ob=>if ob.es.length=G then
     if ag then some (o+sz<=ob.sz/\i<G,.agg (((ob.es.getD i .any).cells.drop o).take sz),σ.h)
     else some (o<ob.sz/\i<G,(ob.es.getD i .any).cells.getD o .any,σ.h)
    else none
   |none=>none
  |_=>none
 |.store sz x y=>match σ.val Gl x with
  |.ptr id G i o=>match σ.h[id]? with
   | some ob=>if ob.es.length=G then
     match dB ob.pr (σ.val Gl y) with
     |some cs=>if cs.length=sz then some (o+sz<=ob.sz/\i<G/\ob.fz<=i,.any,σ.h.set id { ob with es:=ob.es.set i (setCells (ob.es.getD i .any) o cs) }) else none
     |none=>match gW σ.h (σ.val Gl y),(freeze σ.h (dU (σ.val Gl y)))[id]? with
      |some b,some oc=>match dB oc.pr b with
       |some cs=>if cs.length=sz then some (o+sz<=oc.sz/\i<G/\oc.fz<=i,.any,(freeze σ.h (dU (σ.val Gl y))).set id { oc with es:=oc.es.set i (setCells (oc.es.getD i .any) o cs) }) else none
       |none=>none
      |_,_=>none
    else none
   |none=>none
  |_=>none
 |.slice sz x lo hi=>match σ.val Gl x with
  |.list sz' xs=>if sz'=sz then(qD xs.length (lo.map (σ.val Gl)) (hi.map (σ.val Gl))).map fun(p,l,h)=>(p,.list sz ((xs.take h.toNat).drop l.toNat),σ.h) else none
  |.v (.slice none 0 0)=>(qD 0 (lo.map (σ.val Gl)) (hi.map (σ.val Gl))).map fun(p,_,_)=>(p,.v (.slice none 0 0),σ.h)
  |.row id G sz' off len=>if sz'=sz then(qD len (lo.map (σ.val Gl)) (hi.map (σ.val Gl))).map fun(p,l,h)=>(p,.row id G sz (off+l.toNat) (h-l).toNat,σ.h) else none
  |_=>none
 |.yg x lo hi=>match σ.val Gl x with
  |.v (.string s)=>(qD s.size (lo.map (σ.val Gl)) (hi.map (σ.val Gl))).map fun(p,l,h)=>(p,.v (.string (s.extract l.toNat h.toNat)),σ.h)
  |_=>none
 |.len x=>match σ.val Gl x with
  |.list _ xs=>some (True,.v (.int .i64 xs.length),σ.h)
  |.row _ _ _ _ len=>some (True,.v (.int .i64 len),σ.h)
  |.v (.slice none 0 0)=>some (True,.v (.int .i64 0),σ.h)
  |_=>none
 |.nck x=>match σ.val Gl x with
  |.ptr id G i o=>some (True,.ptr id G i o,σ.h)
  |.iF cs=>some (True,.iF cs,σ.h)
  |_=>none
 |.AQ x=>match σ.val Gl x with
  |.v (.string s)=>some (True,.v (.int .i64 s.size),σ.h)
  |_=>none
 |.idx x i=>match σ.val Gl x,σ.val Gl i with
  |.v (.string s),.v (.int _ n)=>some (0<=n/\n<s.size,.v (.int .u8 (s.data.getD n.toNat 0).toNat),σ.h)
  |_,_=>none
 |.app ty sz bytes s x=>match iC σ.h sz (σ.val Gl x) with
  |some ys=>tF σ.h ty sz bytes (σ.val Gl s) ys
  |none=>none
 |.apps ty bytes s x=>match σ.val Gl x with
  |.v (.string b)=>tF σ.h ty 1 bytes (σ.val Gl s) (jJ b)
  |_=>none
 |.b2s x=>match iC σ.h 1 (σ.val Gl x) with
  |some ys=>(bytesOf ys).map λl=>(True,.v (.string ⟨l.toArray⟩),σ.h)
  |none=>none
 |.lI ty sz xs=>match dV σ.h (xs.map (σ.val Gl)) with
  | some ys=>if ys.all (fun y=>y.cells.length == sz) then
    some (True,.row σ.h.length ys.length sz 0 ys.length,freeze σ.h ((xs.map (σ.val Gl)).flatMap dU)++[⟨ty,sz,0,!rz ty,ys⟩]) else none
  |none=>none
 |.Aq _ sz xs=>match dV σ.h (xs.map (σ.val Gl)) with
  |some ys=>if ys.all (λy=>y.cells.length==sz)&&(xs.map (σ.val Gl)).all (λa=>(dU a).isEmpty) then some (True,.list sz ys,σ.h) else none
  |none=>none
 |.bsc ty xs=>if(xs.map (σ.val Gl)).all sc1=true then some (True,.row σ.h.length xs.length 1 0 xs.length,σ.h++[⟨ty,1,0,!rz ty,xs.map (σ.val Gl)⟩]) else none
 |.build zero parts=>(l6 Gl σ (zero.map .v) parts).map λcs=>(True,.agg cs,σ.h)
 |.box ty sz x=>match dB false (σ.val Gl x) with
  |some cs=>if cs.length=sz then some (True,.ptr σ.h.length 1 0 0,σ.h++[⟨ty,sz,0,false,[σ.val Gl x]⟩]) else none
  |none=>none
 |.alloc ty zero=>some (True,.ptr σ.h.length 1 0 0,σ.h++[⟨ty,zero.cells.size,0,false,[jO zero]⟩])
 |.mk ty sz bytes zero n=>match σ.val Gl n with
  |.v (.int .i64 n)=>some (0<=n/\n*bytes<=lU/\n<=4611686018427387904,.row σ.h.length n.toNat sz 0 n.toNat,σ.h++[⟨ty,sz,0,true,List.replicate n.toNat (jO zero)⟩])
  |_=>none
 |.mQ bsz st n x i=>match σ.val Gl x,σ.val Gl i with
  |.ptr id G j o,.v (.int _ m)=>match σ.h[id]? with
   |some ob=>if o=0/\ob.sz=bsz then some (0<=m/\m<n,.ptr id G (j+m.toNat*st) 0,σ.h) else if st=1/\bsz=1 then some (0<=m/\m<n,.ptr id G j (o+m.toNat),σ.h) else none
   |none=>none
  |.iF cs,.v (.int _ m)=>some (0<=m/\m<n,.iF ((cs.drop (m.toNat*(st*bsz))).take (st*bsz)),σ.h)
  |_,_=>none
 |.min2 x y=>match σ.val Gl x,σ.val Gl y with
  |.v (.int k a),.v (.int _ b)=>some (True,.v (.int k (min a b)),σ.h)
  |_,_=>none
 |.max2 x y=>match σ.val Gl x,σ.val Gl y with
  |.v (.int k a),.v (.int _ b)=>some (True,.v (.int k (max a b)),σ.h)
  |_,_=>none
 |.call _ _=>none
theorem RP.mono{F F':Addr->Option Value}{x:Value}{a:AV}(h:RP F x a)(hF:∀ad y,F ad=some y->F' ad=some y):RP F' x a:=by
 induction h with
 |any x=>exact .any x
 |v x=>exact .v x
 |nil sz=>exact .nil sz
 |list ad n cap sz xs cv hn hc hz hf _ ih=>exact .list ad n cap sz xs cv hn hc hz (λi j e a h1 h2=>⟨hF _ _ (hf i j e a h1 h2).1,(hf i j e a h1 h2).2⟩) ih
 |iF ad cs cv hf _ ih=>exact .iF ad cs cv (λj a h=>⟨hF _ _ (hf j a h).1,(hf j a h).2⟩) ih
 |agg xs cs hl h1 _ ih=>exact .agg xs cs hl h1 ih
 |tup xs cs hl _ ih=>exact .tup xs cs hl ih
def Le(own own':List Ent):Prop:=∀(id:Nat) (e:Ent),own[id]?=some e->∃e',own'[id]?=some e'/\(e'=e\/(e.G<e'.G/\0<e.sz/\0<e'.sz))
theorem Le.refl(own:List Ent):Le own own:=λ_ e h=>⟨e,h,.inl rfl⟩
theorem Le.snoc(own l:List Ent):Le own (own++l):=λid e h=>⟨e,by
 have:=(aj.1 h).1
 rw[au this];exact h,.inl rfl⟩
theorem Le.len{a b:List Ent}(h:Le a b):a.length<=b.length:=by
 rcases bI b.length a.length with q|q
 .obtain⟨e,he,_⟩:=h b.length a[b.length] (ah q)
  rw[aX (aS _)]at he
  cases he
 .exact q
theorem Le.take{a b:List Ent}(h:Le a b)(n:Nat):Le (a.take n) (b.take n):=λid e he=>by
 rw[bU]at he
 split at he
 .rename_i hid
  obtain⟨e',h1,h2⟩:=h id e he
  exact⟨e',by rw[bU,if_pos hid];exact h1,h2⟩
 .cases he
theorem Le.JI(a:List Ent)(n:Nat):Le (a.take n) a:=λid e he=>by
 rw[bU]at he
 split at he
 .exact⟨e,he,.inl rfl⟩
 .cases he
theorem Le.trans{a b c:List Ent}(h:Le a b)(k:Le b c):Le a c:=λid e he=>by
 obtain⟨e',h1,h2⟩:=h id e he
 obtain⟨e'',h3,h4⟩:=k id e' h1
 refine⟨e'',h3,?_⟩
 rcases h2 with rfl|h2<;>rcases h4 with rfl|h4
 .exact .inl rfl
 .exact .inr h4
 .exact .inr h2
 .exact .inr ⟨by omega,h2.2.1,h4.2.2⟩
theorem R.mono{F F':Addr->Option Value}{own own':List Ent}{x:Value}{a:AV}(h:R F own x a)(hF:∀ad y,F ad=some y->F' ad=some y)(ho:Le own own'):R F' own' x a:=by
 induction h with
 |pure h=>exact .pure (h.mono hF)
 |row x id G sz off len e he hG hs hx hz =>
  obtain⟨e',h1,h2⟩:=ho id e he
  rcases h2 with rfl|h2
  .exact .row x id G sz off len _ h1 hG hs hx hz
  .exact .row x id G sz off len _ h1 (by omega) hs (λq=>by omega) h2.2.2
 |ptr x id G i off e he hG hs hx hz =>
  obtain⟨e',h1,h2⟩:=ho id e he
  rcases h2 with rfl|h2
  .exact .ptr x id G i off _ h1 hG hs hx hz
  .exact .ptr x id G i off _ h1 (by omega) hs (λq=>by omega) h2.2.2
 |agg xs cs hl h1 _ ih=>exact .agg xs cs hl h1 ih
 |tup xs cs hl _ ih=>exact .tup xs cs hl ih
section
variable{F:Addr->Option Value}{own:List Ent}{x:Value}
theorem R.dK{y:Value}(h:R F own x (.v y)):x=y:=by
 cases h with|pure h=>cases h;rfl
theorem R.jG{sz:Nat}{xs:List AV}(h:R F own x (.list sz xs)):RP F x (.list sz xs):=by
 cases h with|pure h=>exact h
theorem R.pU{cs:List AV}(h:R F own x (.iF cs)):RP F x (.iF cs):=by
 cases h with|pure h=>exact h
theorem R.ny{id G sz off len:Nat}(h:R F own x (.row id G sz off len)):∃e,own[id]?=some e/\G<=e.G/\(∃a cap,x=.slice a len cap/\len<=cap/\(0<len\/off≠0->a.isSome=true))/\(G=e.G->sz=e.sz/\off+len<=G/\(0<len\/off=0->∃cp,off+cp=e.cap/\x=.slice (e.g.map λg=>⟨g,off*sz,none⟩) len cp)):=by
 cases h with
 |pure h=>cases h
 |row _ _ _ _ _ _ e he hG hs hx=>exact⟨e,he,hG,hs,hx⟩
theorem R.nR{id G i off:Nat}(h:R F own x (.ptr id G i off)):∃e,own[id]?=some e/\G<=e.G/\(∃a,x=.pointer (some a))/\(G=e.G->∃g,e.g=some g/\x=.pointer (some ⟨g,i*e.sz+off,none⟩)):=by
 cases h with
 |pure h=>cases h
 |ptr _ _ _ _ _ e he hG hs hx=>exact⟨e,he,hG,hs,hx⟩
theorem R.vZ{id G sz off len:Nat}(h:R F own x (.row id G sz off len)){e:Ent}(he:own[id]?=some e):0<e.sz:=by
 cases h with
 |pure h=>cases h
 |row _ _ _ _ _ _ e' he' hG hs hx hz=>rw[he]at he';cases he';exact hz
theorem R.uN{id G i off:Nat}(h:R F own x (.ptr id G i off)){e:Ent}(he:own[id]?=some e):0<e.sz:=by
 cases h with
 |pure h=>cases h
 |ptr _ _ _ _ _ e' he' hG hs hx hz=>rw[he]at he';cases he';exact hz
theorem R.iX{cs:List AV}(h:R F own x (.agg cs)):∃xs,x=.agg xs/\xs.size=cs.length/\(∀(j:Nat) (x:Value),xs[j]?=some x->x.oneCell'=true)/\(∀(j:Nat) (x:Value) (a:AV),xs[j]?=some x->cs[j]?=some a->R F own x a):=by
 cases h with
 |pure h=>cases h with|agg xs cs hl h1 hR=>exact⟨xs,rfl,hl,h1,λj x a p q=>.pure (hR j x a p q)⟩
 |agg xs cs hl h1 hR=>exact⟨xs,rfl,hl,h1,hR⟩
theorem R.tQ{cs:List AV}(h:R F own x (.tup cs)):∃xs,x=.tuple xs/\xs.size=cs.length/\(∀(j:Nat) (x:Value) (a:AV),xs[j]?=some x->cs[j]?=some a->R F own x a):=by
 cases h with
 |pure h=>cases h with|tup xs cs hl hR=>exact⟨xs,rfl,hl,λj x a p q=>.pure (hR j x a p q)⟩
 |tup xs cs hl hR=>exact⟨xs,rfl,hl,hR⟩
def AV.one:AV->Bool
 |.v x=>x.oneCell'
 |.list _ _|.iF _=>true
 |_=>false
end
theorem RC.mono{F F':Addr->Option Value}{own own':List Ent}{pr:Bool}{x:Value}{a:AV}(h:RC F own pr x a)(hF:∀ad y,F ad=some y->F' ad=some y)(ho:Le own own'):RC F' own' pr x a:=by
 unfold RC at *
 split
 .rename_i q;rw[if_pos q]at h;exact h.mono hF
 .rename_i q;rw[if_neg q]at h;exact h.mono hF ho
theorem RC.r{F:Addr->Option Value}{own:List Ent}{pr:Bool}{x:Value}{a:AV}(h:RC F own pr x a):R F own x a:=by
 unfold RC at h
 split at h
 .exact .pure h
 .exact h
theorem og.mono{F F':Addr->Option Value}{own own':List Ent}{w w':World}{e:Ent}{o:aH}(h:og F own w e o)(hF:∀ad y,F ad=some y->F' ad=some y)(ho:Le own own')
  (hb:∀g,e.g=some g->w'.heap[g]?=w.heap[g]?) (hf:∀g j,e.g=some g->o.fz*o.sz<=j->F' ⟨g,j,none⟩=none):og F' own' w' e o:=by
 obtain⟨h1,h2,h3,h4,h5,h5',h6,h7⟩:=h
 refine⟨h1,h2,h3,h4,h5,h5',h6,?_⟩
 cases hg:e.g with
 |none=>rw[hg]at h7;exact h7
 |some g =>
  rw[hg]at h7
  obtain⟨cs,k1,k2,k3,k4⟩:=h7
  obtain⟨fr,k1,kf⟩:=k1
  refine⟨cs,⟨fr,(hb g hg).trans k1,kf⟩,k2,λi j x a p q=>?_,λj hj=>hf g j hg hj⟩
  obtain⟨y,a1,a2,a3⟩:=k3 i j x a p q
  exact⟨y,a1,a2,a3.mono hF ho⟩
theorem og.fz{F:Addr->Option Value}{own:List Ent}{w:World}{o:aH}{e:Ent}(h:og F own w e o){g:Nat}(hg:e.g=some g){j:Nat}(hj:o.fz*o.sz<=j):F ⟨g,j,none⟩=none:=by
 have:=h.2.2.2.2.2.2.2
 rw[hg]at this
 obtain⟨_,_,_,_,k⟩:=this
 exact k j hj
section
variable{Gl:Nat->Option (List AV)}{F F':Addr->Option Value}{own own':List Ent}{B:Nat}{w0:W0}{σ:St}{act:Act}{w w':World}
theorem Inv.eval(h:Inv Gl F own B w0 σ act w)(x:Operand)(y:Opd)(hxy:(match x with|.tmp t=>some (Opd.t t)|.const v=>some (.k v)|.global g=>some (.g g)|.func f=>some (.k (.func (.func f) #[] #[])))=some y):R F own (act.eval x) (σ.val Gl y):=by
 cases x with
 |tmp t =>
  obtain rfl:=aI hxy
  show R F own (act.tmps.getD t undef) (σ.t.getD t .any)
  by_cases ht:t<act.tmps.size
  .have ht':t<σ.t.length:=by rw[<- h.tl];exact ht
   have e1:act.tmps[t]?=some (act.tmps.getD t undef):=by simp[Array.getD,ht]
   have e2:σ.t[t]?=some (σ.t.getD t .any):=by simp[List.getD,ah ht']
   exact h.tr t _ _ e1 e2
  .have ht':¬t<σ.t.length:=by rw[<- h.tl];exact ht
   have e2:σ.t.getD t .any=.any:=by simp[List.getD,aX (Nat.le_of_not_lt ht')]
   rw[e2]
   exact .pure (.any _)
 |const v =>
  obtain rfl:=aI hxy
  exact .pure (.v v)
 |global g =>
  obtain rfl:=aI hxy
  show R F own (.pointer (some ⟨g,0,none⟩)) (match Gl g with|some cs=>.iF cs|none=>.any)
  cases hg:Gl g with
  |none=>exact .pure (.any _)
  |some cs=>exact .pure (h.gl g cs hg)
 |func f =>
  obtain rfl:=aI hxy
  exact .pure (.v _)
theorem Inv.put(h:Inv Gl F own B w0 σ act w){x:Value}{a:AV}(hx:R F own x a)(d:Option Nat):Inv Gl F own B w0 (σ.put d a) (act.put d x) w:=by
 cases d with
 |none=>exact h
 |some i =>
  have e:(act.put (some i) x).tmps=act.tmps.setIfInBounds i x:=rfl
  refine{ h with tl:=?_,tr:=?_ }
  .show(act.tmps.setIfInBounds i x).size=(σ.t.set i a).length
   simp[h.tl]
  .intro j y b hy hb
   rw[e,jc]at hy
   have hb':(σ.t.set i a)[j]?=some b:=hb
   rw[dh]at hb'
   by_cases hij:i=j
   .subst hij
    rw[if_pos rfl]at hb' hy
    split at hy
    .split at hb'
     .obtain rfl:=aI hy
      obtain rfl:=aI hb'
      exact hx
     .cases hb'
    .cases hy
   .rw[if_neg hij]at hb' hy
    exact h.tr j y b hy hb'
theorem EJ.turn{l:List PdE}(h:EJ B l F own w)(hw:∀g,g<w.heap.size->zm own g->w'.heap[g]?=w.heap[g]?)(hF:∀g j y,F' ⟨g,j,none⟩=some y->F ⟨g,j,none⟩=some y\/¬zm own g\/w.heap.size<=g)
  (ho:∀(id:Nat) (e:Ent) (g:Nat),own'[id]?=some e->e.g=some g->¬zm own g\/w.heap.size<=g):EJ B l F' own' w':=by
 intro q hq g hg
 obtain⟨h1,h2,h3,h4⟩:=h q hq g hg
 have hlt:g<w.heap.size:=(fC.1 h1).1
 refine⟨(hw g hlt h3).trans h1,λj=>?_,λid e he hg'=>?_,h4⟩
 .cases hf:F' ⟨g,j,none⟩with
  |none=>rfl
  |some y =>
   rcases hF g j y hf with r|r|r
   .rw[h2 j]at r;cases r
   .exact absurd h3 r
   .omega
 .rcases ho id e g he hg' with r|r
  .exact absurd h3 r
  .omega
theorem Inv.turn(h:Inv Gl F own B w0 σ act w){h':List aH}(hF:∀ad y,F ad=some y->F' ad=some y)(ho:Le own own')(hs:∀a x,F' a=some x->w'.cell? a=some x)(hl:own'.length=h'.length)
    (hob:∀(id:Nat) (e:Ent) (o:aH),own'[id]?=some e->h'[id]?=some o->og F' own' w' e o)
    (hij:∀(i j:Nat) (e e':Ent) (g:Nat),own'[i]?=some e->own'[j]?=some e'->e.g=some g->e'.g=some g->i=j) (hb:Below B w0.w w')
    (hbs:∀(id:Nat) (e:Ent) (g:Nat),own'[id]?=some e->e.g=some g->B<=g) (hex:∀(ad:Addr) (y:Value),F' ad=some y->F ad=some y\/B<=ad.block:=by exact λ_ _ q=>.inl q)
    (hpw:∀g,g<w.heap.size->zm own g->w'.heap[g]?=w.heap[g]?:=by exact λ_ _ _=>rfl) (hpF:∀g j y,F' ⟨g,j,none⟩=some y->F ⟨g,j,none⟩=some y\/¬zm own g\/w.heap.size<=g:=by exact λ_ _ _ q=>.inl q)
    (hpo:∀(id:Nat) (e:Ent) (g:Nat),own'[id]?=some e->e.g=some g->¬zm own g\/w.heap.size<=g:=by exact λid e g p q=>.inl λr=>r id e p q):Inv Gl F' own' B w0 ⟨σ.t,h'⟩ act w' :=
  { tl:=h.tl,tr:=λi x a p q=>(h.tr i x a p q).mono hF ho,defers:=h.defers,sub:=hs,hl:=hl,objs:=hob,inj:=hij,below:=hb,base:=hbs,gl:=λg cs q=>(h.gl g cs q).mono hF,gw:=h.gw,room:=h.room,ext:=λad y q=>(hex ad y q).elim (h.ext ad y) .inr,jI:=λad y q=>hF ad y (h.jI ad y q),nl:=by have:=h.nl;have:=ho.len;have:=h.hl;simp only;omega,fr:=λq hq=>(h.fr q hq).mono hF (ho.take _),pd:=EJ.turn h.pd hpw hpF hpo }
theorem Inv.same(h:Inv Gl F own B w0 σ act w)(hw:w'.heap=w.heap)(h1:w'.os=w.os)(h2:w'.tape=w.tape)(h3:w'.output=w.output):Inv Gl F own B w0 σ act w':=by
 have hc:∀a,w'.cell? a=w.cell? a:=λa=>by unfold World.cell?;rw[hw]
 refine h.turn (h':=σ.h) (λ_ _ q=>q) (Le.refl _) (λa x q=>(hc a).trans (h.sub a x q)) h.hl (λid e o p q=>(h.objs id e o p q).mono (λ_ _ r=>r) (Le.refl _) (λg _=>by rw[hw]) (λg j hg hj=>?_)) h.inj ?_ h.base (hpw:=λ_ _ _=>by rw[hw])
 .exact(h.objs id e o p q).fz hg hj
 .exact⟨h1.trans h.below.os,h2.trans h.below.tape,h3.trans h.below.output,by rw[hw];exact h.below.size,λk hk=>by rw[hw];exact h.below.block k hk⟩
theorem Ug(n:Nat):KA (0,0) n:=λj _ q=>by have:=q.2;simp at this
theorem og.EB{o:aH}{e:Ent}(h:og F own w e o){g:Nat}(hg:e.g=some g):∃(cs:Array Value) (fr:Nat×Nat),w.heap[g]?=some (.cells cs o.ty fr)/\b3N fr cs.size o.pr o.fz o.es.length/\cs.size=e.cap*o.sz/\
      (∀(i j:Nat) (x a:AV),o.es[i]?=some x->x.cells[j]?=some a->∃y,cs[i*o.sz+j]?=some y/\y.oneCell'=true/\RC F own o.pr y a):=by
  have:=h.2.2.2.2.2.2.2
  rw[hg]at this
  obtain⟨cs,⟨fr,a,q⟩,b,c,_⟩:=this
  exact⟨cs,fr,a,q,b,c⟩
theorem og.blk{o:aH}{e:Ent}(h:og F own w e o){g:Nat}(hg:e.g=some g)(hop:o.fz=0\/o.fz≠o.es.length):∃(cs:Array Value) (fr:Nat×Nat),w.heap[g]?=some (.cells cs o.ty fr)/\KA fr cs.size/\cs.size=e.cap*o.sz/\
      (∀(i j:Nat) (x a:AV),o.es[i]?=some x->x.cells[j]?=some a->∃y,cs[i*o.sz+j]?=some y/\y.oneCell'=true/\RC F own o.pr y a):=by
  obtain⟨cs,fr,a,q,b,c⟩:=h.EB hg
  refine⟨cs,fr,a,?_,b,c⟩
  rcases q with q|⟨q1,q2⟩
  .exact q
  · rcases hop with r | r
    .omega
    .exact absurd q1 r
theorem og.lt{o:aH}{e:Ent}(h:og F own w e o){g:Nat}(hg:e.g=some g):g<w.heap.size:=by
 obtain⟨cs,fr,a,_⟩:=h.EB hg
 exact(fC.1 a).1
theorem Inv.zo(h:Inv Gl F own B w0 σ act w){id:Nat}{e:Ent}(he:own[id]?=some e):∃o,σ.h[id]?=some o/\og F own w e o:=by
 have hlt:=(aj.1 he).1
 have hlt':id<σ.h.length:=by rw[<- h.hl];exact hlt
 exact⟨σ.h[id],ah hlt',h.objs id e _ he (ah hlt')⟩
theorem Inv.xE(h:Inv Gl F own B w0 σ act w){id:Nat}{o:aH}(ho:σ.h[id]?=some o):∃e,own[id]?=some e/\og F own w e o:=by
 have hlt:=(aj.1 ho).1
 have hlt':id<own.length:=by rw[h.hl];exact hlt
 exact⟨own[id],ah hlt',h.objs id _ o (ah hlt') ho⟩
theorem Inv.DY(h:Inv Gl F own B w0 σ act w){id:Nat}{e:Ent}{g:Nat}(he:own[id]?=some e)(hg:e.g=some g):g<w.heap.size:=by
 obtain⟨o,_,k⟩:=h.zo he
 exact k.lt hg
theorem Inv.Ah(h:Inv Gl F own B w0 σ act w){a:Addr}{x:Value}(hx:F a=some x):a.block<w.heap.size:=World.block_lt_of_cell? w a (h.sub a x hx)
theorem O4{e0:Ent}{n:Nat}(hn:∀g,e0.g=some g->n<=g):∀(id:Nat) (e:Ent) (g:Nat),(own++[e0])[id]?=some e->e.g=some g->¬zm own g\/n<=g:=λid e g p q=>by
 rcases bI id own.length with hid|hid
 .rw[au hid]at p
  exact .inl λr=>r id e p q
 .rw[aO hid]at p
  have h0:id-own.length=0:=by
   rcases eD (id-own.length) with h0|h0
   .exact h0
   .rw[aX (by simp;omega)]at p;cases p
  rw[h0]at p
  simp at p
  subst p
  exact .inr (hn g q)
theorem Inv.new(h:Inv Gl F own B w0 σ act w)(cs:Array Value)(o:aH)(cap:Nat)(hsz:0<o.sz)(hfz:o.fz=0)(hcap:o.es.length<=cap)(hm:cap<=maxLen)(hes:∀(i:Nat) (x:AV),o.es[i]?=some x->x.cells.length=o.sz)
  (hcs:cs.size=cap*o.sz) (hR:∀(i j:Nat) (x a:AV),o.es[i]?=some x->x.cells[j]?=some a->∃y,cs[i*o.sz+j]?=some y/\y.oneCell'=true/\RC F own o.pr y a) (hbx:o.pr=false->rz o.ty=false->cap=o.es.length:=by intro q _;first|rfl|(cases q;done)|(simp;done)) :
  Inv Gl F (own++[⟨some w.heap.size,o.es.length,o.sz,cap⟩]) B w0 ⟨σ.t,σ.h++[o]⟩ act (w.alloc (.cells cs o.ty)):=by
 have hnew:=heap_alloc_new w (.cells cs o.ty)
 refine h.turn (λ_ _ q=>q) (Le.snoc _ _) (λa x q=>?_) (by simp[h.hl]) (λid e o' p q=>?_) (λi j e e' g p q r s=>?_) (h.below.alloc (bF h.room h.below.size) _) (λid e g p q=>?_) (hpw:=λg hg _=>Below.heap_alloc _ _ _ hg) (hpo:=O4 λg q=>by cases q;exact aS _)
 .rw[World.cell?_alloc_lt _ _ _ (h.Ah q)];exact h.sub a x q
 .rcases bI id own.length with hid|hid
  .rw[au hid]at p
   rw[au (by rw[<- h.hl];exact hid)]at q
   have k:=h.objs id e o' p q
   exact k.mono (λ_ _ r=>r) (Le.snoc _ _) (λg hg=>Below.heap_alloc _ _ _ (k.lt hg)) (λg j hg hj=>k.fz hg hj)
  .rw[aO hid]at p
   rw[aO (by rw[<- h.hl];exact hid),<- h.hl]at q
   have h0:id-own.length=0:=by
    rcases eD (id-own.length) with h0|h0
    .exact h0
    .rw[aX (by simp;omega)]at p;cases p
   rw[h0]at p q
   simp at p q
   subst p q
   refine⟨rfl,rfl,hsz,hcap,⟨hm,hbx⟩,by omega,hes,⟨cs,⟨_,hnew,.inl (Ug _)⟩,hcs,λi j x a p q=>?_,λj _=>?_⟩⟩
   .obtain⟨y,a1,a2,a3⟩:=hR i j x a p q
    exact⟨y,a1,a2,a3.mono (λ_ _ r=>r) (Le.snoc _ _)⟩
   .rcases hF:F ⟨w.heap.size,j,none⟩with _|y
    .rfl
    .have:=h.Ah hF;simp at this
 ·have key:∀ (i:Nat) (e:Ent),(own ++ [(⟨some w.heap.size,o.es.length,o.sz,cap⟩:Ent)])[i]?=some e->e.g=some g->(i < own.length/\own[i]?=some e/\g < w.heap.size)\/(i=own.length/\g=w.heap.size):=by
   intro i e p r
   rcases bI i own.length with hid|hid
   .rw[au hid]at p
    exact .inl ⟨hid,p,h.DY p r⟩
   .rw[aO hid]at p
    have h0:i-own.length=0:=by
     rcases eD (i-own.length) with h0|h0
     .exact h0
     .rw[aX (by simp;omega)]at p;cases p
    rw[h0]at p
    simp at p
    subst p
    simp at r
    exact .inr ⟨by omega,r.symm⟩
  rcases key i e p r with⟨a1,a2,a3⟩|⟨a1,a2⟩<;>rcases key j e' q s with⟨b1,b2,b3⟩|⟨b1,b2⟩
  .exact h.inj i j e e' g a2 b2 r s
  .omega
  .omega
  .omega
 .rcases bI id own.length with hid|hid
  .rw[au hid]at p
   exact h.base id e g p q
  .rw[aO hid]at p
   have h0:id-own.length=0:=by
    rcases eD (id-own.length) with h0|h0
    .exact h0
    .rw[aX (by simp;omega)]at p;cases p
   rw[h0]at p
   simp at p
   subst p
   simp at q
   subst q
   exact bF h.room h.below.size
end
def bH:Operand->Opd
 |.tmp t=>.t t
 |.const v=>.k v
 |.global g=>.g g
 |.func f=>.k (.func (.func f) #[] #[])
def agT(P:Program)(t:TypeId):Option (Bool×Nat) :=
 match P.underlying t,P.info? t with
 |some d,some i=>some (match d with|.struct _|.array _ _=>true|_=>false,i.size)
 |_,_=>none
section
variable{P:Program}{Gl:Nat->Option (List AV)}{F:Addr->Option Value}{own:List Ent}{B:Nat}{w0:W0}{σ:St}{act:Act}{w:World}
def Ok1(P:Program)(Gl:Nat->Option (List AV))(B:Nat)(w0:W0)(σ:St)(act:Act)(w:World)(o:Oper)(a:AV)(h':List aH):Prop :=
 ∃nx x w' F' own',(execOp act.eval o).run P w=.ok nx w'/\(nx=.value x\/(nx=.skip/\x=undef))/\Inv Gl F' own' B w0 ⟨σ.t,h'⟩ act w'/\R F' own' x a
theorem Inv.ev(h:Inv Gl F own B w0 σ act w)(x:Operand):R F own (act.eval x) (σ.val Gl (bH x)):=h.eval x (bH x) (by cases x<;>rfl)
theorem Ok1.mk(h:Inv Gl F own B w0 σ act w){o:Oper}{x:Value}{a:AV}(hr:(execOp act.eval o).run P w=.ok (.value x) w)(hR:R F own x a):Ok1 P Gl B w0 σ act w o a σ.h :=
 ⟨_,x,w,F,own,hr,.inl rfl,h,hR⟩
theorem Ok1.v(h:Inv Gl F own B w0 σ act w){o:Oper}{x:Value}(hr:(execOp act.eval o).run P w=.ok (.value x) w):Ok1 P Gl B w0 σ act w o (.v x) σ.h :=
 Ok1.mk h hr (.pure (.v x))
theorem b1t(h:Inv Gl F own B w0 σ act w){o:Oper}{op:BinOp}{xt yt:TypeId}{x y:Operand}(ho:o.op=.binOp op xt x y yt){a b:Value}(hx:σ.val Gl (bH x)=.v a)(hy:σ.val Gl (bH y)=.v b)
    {p:Prop} {r:Value} (hb:bV op a b=some (p,r)) (hp:p):Ok1 P Gl B w0 σ act w o (.v r) σ.h:=by
  have ex:act.eval x=a:=by have:=h.ev x;rw[hx]at this;exact this.dK
  have ey:act.eval y=b:=by have:=h.ev y;rw[hy]at this;exact this.dK
  refine Ok1.v h ?_
  unfold execOp
  simp only[ho,ex,ey]
  unfold bV at hb
  split at hb <;> first
    |(cases hb;done)
    | (split at hb
       · rename_i hk
         subst hk
         obtain⟨rfl,rfl⟩:=aP (aI hb)
         simp[eqGuard,binOp,Op.intArith,Op.intDiv,Op.intBits,Op.intCmp,hp]<;>done
       .cases hb)
    | (obtain ⟨rfl,rfl⟩:=aP (aI hb)
       have hp':=hp
       simp[eqGuard,binOp,Op.shift,Op.stringOp,Int.not_lt.2 hp']<;>done)
    | (obtain ⟨rfl,rfl⟩:=aP (aI hb)
       have hp':=hp
       have hm:IntKind.i64.max=9223372036854775807:=by decide
       simp[eqGuard,binOp,Op.stringOp,hm]<;>omega)
theorem b5H(h:Inv Gl F own B w0 σ act w){o:Oper}{op:UnOp}{xt:TypeId}{x:Operand}(ho:o.op=.unOp op xt x){a:Value}(hx:σ.val Gl (bH x)=.v a){r:Value}(hb:unV op a=some r):Ok1 P Gl B w0 σ act w o (.v r) σ.h:=by
  have ex:act.eval x=a:=by have:=h.ev x;rw[hx]at this;exact this.dK
  refine Ok1.v h ?_
  unfold execOp
  simp only[ho,ex]
  unfold unV at hb
  split at hb <;> first
    |(cases hb;done)
    | (obtain rfl:=aI hb
       simp[Op.unary,Op.intArith])
theorem a6e(h:Inv Gl F own B w0 σ act w){o:Oper}{s d:TypeId}{x:Operand}(ho:o.op=.convert s d x){sd:TypeDesc}{k k':IntKind}{n:Int}(hs:P.underlying s=some sd)(hd:P.underlying d=some (.int k))(hx:σ.val Gl (bH x)=.v (.int k' n)) :
  Ok1 P Gl B w0 σ act w o (.v (.int k (k.wrap n))) σ.h:=by
 have ex:act.eval x=.int k' n:=by have:=h.ev x;rw[hx]at this;exact this.dK
 refine Ok1.v h ?_
 unfold execOp
 simp only[ho,ex]
 simp[convert,run_underlying hs,run_underlying hd,Conv.intToInt]
theorem a6P(d:Nat)(t:TypeId)(k k':IntKind)(a b:Int)(h:P.underlying t=some (.int k')):(Op.equalIn (d+1) t (.int k a) (.int k b)).run P w=.ok (a==b) w:=run_equalIn_int w d t k k' a b h
theorem b6z(t:TypeId)(x y:Value){b:Bool}(h:(Op.equalIn (9999+1) t x y).run P w=.ok b w):(Op.equal t x y).run P w=.ok b w:=h
def vO(P:Program)(fs:List Field):Option (List (Nat×Nat)) :=
 match fs with
 |[]=>some []
 |f::fs=>match vO P fs,P.underlying f.type with
  |some r,some (.int _)=>if f.name= "_" then none else some ((f.offset,1)::r)
  |_,_=>none
theorem Z9(d:Nat){xs ys:Array Value}{as bs:List AV}(hx:R F own (.agg xs) (.agg as))(hy:R F own (.agg ys) (.agg bs)) :
  ∀(fs:List Field) (l:List (Nat×Nat)) (r:Bool),vO P fs=some l->eqA as bs l=some r->(Op.eqFields (d+1) xs ys fs).run P w=.ok r w:=by
 obtain⟨xs',ex,lx,_,rx⟩:=hx.iX
 obtain rfl:xs=xs':=by injection ex
 obtain⟨ys',ey,ly,_,ry⟩:=hy.iX
 obtain rfl:ys=ys':=by injection ey
 have at_:∀(zs:Array Value) (cs:List AV),zs.size=cs.length->(∀(j:Nat) (x:Value) (a:AV),zs[j]?=some x->cs[j]?=some a->R F own x a)->∀i v,cs.getD i .any=.v v->zs[i]?=some v:=by
  intro zs cs hl hr i v hv
  by_cases hi:i<cs.length
  ·have e2:cs[i]?=some (.v v):=by
    rw[<- hv];simp[List.getD,ah hi]
   have e1:zs[i]?=some (zs[i]'(by omega)):=aF (by omega)
   have:=(hr i _ _ e1 e2).dK
   rw[e1,this]
  .simp[List.getD,aX (Nat.le_of_not_lt hi)]at hv
 have hpart:∀(t:TypeId) (zs:Array Value) (i:Nat) (v:Value) (k:IntKind),P.underlying t=some (.int k)->zs[i]?=some v->(part t zs i).run P w=.ok v w:=by
  intro t zs i v k ht hz
  unfold part isAgg
  simp only[Sem.run_bind,run_underlying ht,Result.andThen_ok]
  simp[hz]
 intro fs
 induction fs with
 |nil=>intro l r hc he;cases hc;cases he;rfl
 |cons f fs ih =>
  intro l r hc he
  unfold vO at hc
  split at hc
  .rename_i r' k hr hk
   split at hc
   .cases hc
   .rename_i hn
    cases hc
    unfold Op.eqFields
    rw[if_pos hn]
    simp only[eqA]at he
    cases h1:eq1 (as.getD f.offset .any) (bs.getD f.offset .any) with
    |none=>rw[h1]at he;cases he
    |some b1 =>
     rw[h1]at he
     cases h2:eqA as bs r' with
     |none=>rw[h2]at he;cases he
     |some b2 =>
      rw[h2]at he
      cases he
      unfold eq1 at h1
      split at h1
      .rename_i ka a kb b q1 q2
       split at h1
       .rename_i hkk
        subst hkk
        cases h1
        simp only[Sem.run_bind,hpart f.type xs f.offset _ k hk (at_ xs as lx rx _ _ q1),hpart f.type ys f.offset _ k hk (at_ ys bs ly ry _ _ q2),Result.andThen_ok,a6P d f.type _ k _ _ hk]
        cases hb:(a==b)
        .simp
        .simpa using ih r' b2 hr h2
       .cases h1
      .cases h1
  .cases hc
theorem b1w(h:Inv Gl F own B w0 σ act w){o:Oper}{neg:Bool}{xt yt:TypeId}{x y:Operand}(ho:o.op=.binOp (if neg then .neq else .eql) xt x y yt){fs:Array Field}{l:List (Nat×Nat)}(ht:P.underlying xt=some (.struct fs))(hl:vO P fs.toList=some l)
  (hm:P.eqGuardType P.depth xt=false) (hh:P.stoodInHeld xt=false) {as bs:List AV} (hx:σ.val Gl (bH x)=.agg as) (hy:σ.val Gl (bH y)=.agg bs) {r:Bool} (hr:eqA as bs l=some r) :
  Ok1 P Gl B w0 σ act w o (.v (.bool (if neg then !r else r))) σ.h:=by
 have rx:=h.ev x;rw[hx]at rx
 have ry:=h.ev y;rw[hy]at ry
 obtain⟨xs,ex,_⟩:=rx.iX
 obtain⟨ys,ey,_⟩:=ry.iX
 rw[ex]at rx;rw[ey]at ry
 have hf:P.fieldsOf xt=fs:=by unfold Program.fieldsOf;rw[ht]
 have k:=Z9 (w:=w) 9998 rx ry fs.toList l r hl hr
 have q:=run_equalIn_agg (P:=P) w 9999 xt xs ys (by rw[hf];exact ht) hh
 rw[hf,k]at q
 have hq:=b6z (P:=P) (w:=w) xt _ _ q
 refine Ok1.v h ?_
 unfold execOp
 cases neg<;>simp only[ho,ex,ey,if_true,if_false,dH]<;>simp[run_eqGuard_agg w _ xt _ _ _ _ hm,binOp,hq]
end
theorem Ab(a:Addr)(i j:Nat):(a.add i).add j=a.add (i+j):=by
 unfold Addr.add
 by_cases hi:i=0<;>by_cases hj:j=0<;>simp[hi,hj,gG]
theorem EH(a:Addr):a.add 0=a:=by simp[Addr.add]
theorem FT{α:Type}(n:Nat)(p:Nat->α->Prop)(h:∀j,j<n->∃y,p j y):∃ys:List α,ys.length=n/\∀(j:Nat) (y:α),ys[j]?=some y->p j y:=by
 induction n with
 |zero=>exact⟨[],rfl,λj y hy=>by simp at hy⟩
 |succ n ih =>
  obtain⟨ys,hl,hp⟩:=ih (λj hj=>h j (by omega))
  obtain⟨y,hy⟩:=h n (by omega)
  refine⟨ys++[y],by simp[hl],λj z hz=>?_⟩
  rcases bI j n with q|q
  .rw[au (by omega)]at hz;exact hp j z hz
  .rw[aO (by omega)]at hz
   have:j=n:=by
    rcases bI n j with q'|q'
    .rw[aX (by simp;omega)]at hz;cases hz
    .omega
   subst this
   simp[hl]at hz
   subst hz
   exact hy
section
variable{P:Program}{Gl:Nat->Option (List AV)}{F:Addr->Option Value}{own:List Ent}{B:Nat}{w0:W0}{σ:St}{act:Act}{w:World}
theorem vM{t:TypeId}{ag:Bool}{sz:Nat}(h:agT P t=some (ag,sz))(w:World):(isAgg t).run P w=.ok ag w/\(sizeOf t).run P w=.ok sz w:=by
 unfold agT at h
 split at h
 .rename_i d i hd hi
  obtain⟨rfl,rfl⟩:=aP (aI h)
  refine⟨?_,by simp[sizeOf,typeInfo,hi]⟩
  unfold isAgg
  simp only[Sem.run_bind,run_underlying hd,Result.andThen_ok]
  cases d<;>rfl
 .cases h
theorem b1r(h:Inv Gl F own B w0 σ act w){o:Oper}{x:Operand}{i:Nat}(ho:o.op=.extract x i)
  {p:Prop} {r:AV} {h':List aH} (hs:step Gl σ (.ext i (bH x))=some (p,r,h')) (hp:p):Ok1 P Gl B w0 σ act w o r h':=by
 have he:=h.ev x
 simp only[step]at hs
 split at hs
 .rename_i cs hv
  rw[hv]at he
  obtain⟨xs,ex,hl,hR⟩:=he.tQ
  cases hc:cs[i]? with
  |none=>rw[hc]at hs;cases hs
  |some a =>
   rw[hc]at hs
   obtain⟨_,h2⟩:=aP (aI hs)
   obtain⟨rfl,rfl⟩:=aP h2
   have hlt:i<xs.size:=by rw[hl];exact(aj.1 hc).1
   refine Ok1.mk h (x:=xs[i]) ?_ (hR _ _ _ (aF hlt) hc)
   unfold execOp
   simp only[ho,ex]
   simp[Instr.extract,aF hlt]
 .cases hs
theorem Ym(h:Inv Gl F own B w0 σ act w){o:Oper}{x:Operand}(ho:o.op=.move x\/o.op=.assign x):Ok1 P Gl B w0 σ act w o (σ.val Gl (bH x)) σ.h:=by
 refine Ok1.mk h ?_ (h.ev x)
 unfold execOp
 rcases ho with ho|ho<;>simp only[ho]<;>rfl
theorem b1n(h:Inv Gl F own B w0 σ act w){o:Oper}{x:Operand}(ho:o.op=.nilCheck x)
  {p:Prop} {r:AV} {h':List aH} (hs:step Gl σ (.nck (bH x))=some (p,r,h')) (hp:p):Ok1 P Gl B w0 σ act w o r h':=by
 have he:=h.ev x
 simp only[step]at hs
 split at hs
 .rename_i id G i o' hv
  rw[hv]at he
  obtain⟨_,h2⟩:=aP (aI hs)
  obtain⟨rfl,rfl⟩:=aP h2
  obtain⟨e,he1,hG,⟨a,hx0⟩,hx⟩:=he.nR
  refine Ok1.mk h ?_ he
  unfold execOp
  simp only[ho,hx0]
  rfl
 .rename_i cs hv
  rw[hv]at he
  obtain⟨_,h2⟩:=aP (aI hs)
  obtain⟨rfl,rfl⟩:=aP h2
  have hq:=he.pU
  refine Ok1.mk h ?_ he
  generalize hv':act.eval x=v at hq
  cases hq with
  |iF ad cs cv hF hR =>
   unfold execOp
   simp only[ho,hv']
   rfl
 .cases hs
theorem a6b(h:Inv Gl F own B w0 σ act w){o:Oper}{c a b:Operand}(ho:o.op=.pick c a b)
  {p:Prop} {r:AV} {h':List aH} (hs:step Gl σ (.pick (bH c) (bH a) (bH b))=some (p,r,h')) (hp:p):Ok1 P Gl B w0 σ act w o r h':=by
 have he:=h.ev c
 simp only[step]at hs
 split at hs
 .rename_i t hv
  rw[hv]at he
  have ec:=he.dK
  obtain⟨_,h2⟩:=aP (aI hs)
  obtain⟨rfl,rfl⟩:=aP h2
  refine Ok1.mk h (x:=if t then act.eval a else act.eval b) ?_ ?_
  .unfold execOp
   simp only[ho,ec]
   simp[asBool]
  .cases t
   .exact h.ev b
   .exact h.ev a
 .cases hs
theorem a1O(h:Inv Gl F own B w0 σ act w){o:Oper}{t:TypeId}{x:Operand}{f:Nat}(ho:o.op=.fieldAddr t x f){fs:Array Field}{fd:Field}{ag:Bool}{sz:Nat}(ht:P.underlying t=some (.struct fs))(hf:fs[f]?=some fd)(ha:agT P fd.type=some (ag,sz))(h0:sz≠0)
  {p:Prop} {r:AV} {h':List aH} (hs:step Gl σ (.fO fd.offset (bH x))=some (p,r,h')) (hp:p):Ok1 P Gl B w0 σ act w o r h':=by
 have he:=h.ev x
 have hag:=vM ha
 have run:∀a,act.eval x=.pointer (some a)->(execOp act.eval o).run P w=.ok (.value (.pointer (some (a.add fd.offset)))) w:=by
  intro a ex
  unfold execOp
  simp only[ho,ex]
  simp[Instr.fieldAt,run_underlying ht,hf,Instr.sureAddr,fieldPlace,hag,h0]
 simp only[step]at hs
 split at hs
 .rename_i id G i o' hv
  rw[hv]at he
  obtain⟨_,h2⟩:=aP (aI hs)
  obtain⟨rfl,rfl⟩:=aP h2
  obtain⟨e,he1,hG,⟨a,ea⟩,hx⟩:=he.nR
  refine Ok1.mk h (run a ea) (.ptr _ _ _ _ _ e he1 hG ⟨_,rfl⟩ (λq=>?_) (by first|exact he.uN he1|exact he.vZ he1|exact he.FK he1))
  obtain⟨g,hg,hx'⟩:=hx q
  rw[ea]at hx'
  cases hx'
  exact⟨g,hg,by simp[Addr.add_lit,gG]⟩
 .rename_i cs hv
  rw[hv]at he
  obtain⟨_,h2⟩:=aP (aI hs)
  obtain⟨rfl,rfl⟩:=aP h2
  have hq:=he.pU
  generalize hv':act.eval x=v at hq
  cases hq with
  |iF ad cs cv hF hR =>
   refine Ok1.mk h (run ad hv') (.pure (.iF _ _ (λj=>cv (fd.offset+j)) (λj a q=>?_) (λj a q=>?_)))
   .rw[fT]at q;rw[Ab];exact hF _ _ q
   .rw[fT]at q;exact hR _ _ q
 .cases hs
theorem a1M(h:Inv Gl F own B w0 σ act w){o:Oper}{t:TypeId}{x ix:Operand}(ho:o.op=.indexAddr t x ix){et:TypeId}{ag:Bool}{sz:Nat}(ht:P.underlying t=some (.slice et))(ha:agT P et=some (ag,sz))
  {p:Prop} {r:AV} {h':List aH} (hs:step Gl σ (.rA sz (bH x) (bH ix))=some (p,r,h')) (hp:p):Ok1 P Gl B w0 σ act w o r h':=by
 have he:=h.ev x
 have hi:=h.ev ix
 have hag:=vM ha
 have run:∀a n c k (m:Int),act.eval x=.slice (some a) n c->act.eval ix=.int k m->0<=m->m<n->(execOp act.eval o).run P w=.ok (.value (.pointer (some (a.add (m.toNat*sz))))) w:=by
  intro a n c k m ex ei h0 h1
  unfold execOp
  simp only[ho,ex,ei]
  simp[Instr.indexAt,asIntOf,run_underlying ht,hag,h0,h1]
 simp only[step]at hs
 split at hs
 .rename_i sz' xs k n hv hvi
  rw[hv]at he
  rw[hvi]at hi
  split at hs
  .rename_i hsz
   subst hsz
   obtain⟨rfl,h2⟩:=aP (aI hs)
   obtain⟨rfl,rfl⟩:=aP h2
   have hq:=he.jG
   generalize hv':act.eval x=v at hq
   have hlt:n.toNat<xs.length:=by omega
   have hg:xs[n.toNat]?=some (xs.getD n.toNat .any):=by simp[List.getD,ah hlt]
   cases hq with
   |nil=>simp at hlt
   |list ad n' cap sz xs cv hn hc hz hF hR =>
    refine Ok1.mk h (run ad _ _ _ n hv' hi.dK hp.1 (by omega)) (.pure (.iF _ _ (λj=>cv (n.toNat*sz'+j)) (λj a q=>?_) (λj a q=>?_)))
    .rw[Ab];exact hF _ _ _ _ hg q
    .exact hR _ _ _ _ hg q
  .cases hs
 .rename_i id G sz' off len k n hv hvi
  rw[hv]at he
  rw[hvi]at hi
  split at hs
  .rename_i hsz
   subst hsz
   obtain⟨rfl,h2⟩:=aP (aI hs)
   obtain⟨rfl,rfl⟩:=aP h2
   obtain⟨e,he1,hG,⟨a,cap,hx0,hl,ha'⟩,hx⟩:=he.ny
   have hsome:=ha' (.inl (by omega))
   cases a with
   |none=>cases hsome
   |some a =>
    refine Ok1.mk h (run a _ _ _ n hx0 hi.dK hp.1 (by omega)) (.ptr _ _ _ _ _ e he1 hG ⟨_,rfl⟩ (λq=>?_) (by first|exact he.uN he1|exact he.vZ he1|exact he.FK he1))
    obtain⟨q1,q2,qe⟩:=hx q
    obtain⟨cp,qc,q3⟩:=qe (.inl (by omega))
    rw[hx0]at q3
    injection q3 with q3
    cases hg:e.g with
    |none=>rw[hg]at q3;cases q3
    |some g =>
     rw[hg]at q3
     simp at q3
     refine⟨g,rfl,?_⟩
     rw[q3,Addr.add_lit,<- q1,dF]
     rfl
  .cases hs
 .cases hs
theorem b1p(h:Inv Gl F own B w0 σ act w){o:Oper}{t:TypeId}{x:Operand}(ho:o.op=.call { callee:=.builtin .len,args:=#[x],argTypes:=#[t] }){et:TypeId}(ht:P.underlying t=some (.slice et))
  {p:Prop} {r:AV} {h':List aH} (hs:step Gl σ (.len (bH x))=some (p,r,h')) (hp:p):Ok1 P Gl B w0 σ act w o r h':=by
 have he:=h.ev x
 have run:∀a n c et,P.underlying t=some (.slice et)->act.eval x=.slice a n c->(execOp act.eval o).run P w=.ok (.value (.int .i64 n)) w:=by
  intro a n c et ht ex
  unfold execOp
  simp only[ho]
  simp[resolve,invoke,builtin,ex,Builtin.len_,run_underlying ht,goInt]
 simp only[step]at hs
 split at hs
 .rename_i sz xs hv
  rw[hv]at he
  obtain⟨_,h2⟩:=aP (aI hs)
  obtain⟨rfl,rfl⟩:=aP h2
  have hq:=he.jG
  generalize hv':act.eval x=v at hq
  cases hq with
  |nil=>exact Ok1.v h (run _ _ _ _ ht hv')
  |list ad n' cap sz xs cv hn hc hz hF hR=>subst hn;exact Ok1.v h (run _ _ _ _ ht hv')
 .rename_i id G sz off len hv
  rw[hv]at he
  obtain⟨_,h2⟩:=aP (aI hs)
  obtain⟨rfl,rfl⟩:=aP h2
  obtain⟨e,he1,hG,⟨a,cap,hx0,hl,ha'⟩,hx⟩:=he.ny
  exact Ok1.v h (run _ _ _ _ ht hx0)
 .rename_i hv
  rw[hv]at he
  obtain⟨_,h2⟩:=aP (aI hs)
  obtain⟨rfl,rfl⟩:=aP h2
  exact Ok1.v h (run _ _ _ _ ht he.dK)
 .cases hs
theorem a6a(h:Inv Gl F own B w0 σ act w){o:Oper}{t:TypeId}{x:Operand}(ho:o.op=.call { callee:=.builtin .len,args:=#[x],argTypes:=#[t] })(ht:P.underlying t=some .string)
  {p:Prop} {r:AV} {h':List aH} (hs:step Gl σ (.AQ (bH x))=some (p,r,h')) (hp:p):Ok1 P Gl B w0 σ act w o r h':=by
 have he:=h.ev x
 simp only[step]at hs
 split at hs
 .rename_i s hv
  rw[hv]at he
  obtain⟨_,h2⟩:=aP (aI hs)
  obtain⟨rfl,rfl⟩:=aP h2
  refine Ok1.v h ?_
  unfold execOp
  simp only[ho]
  simp[resolve,invoke,builtin,he.dK,Builtin.len_,run_underlying ht,goInt]
 .cases hs
theorem b1q(h:Inv Gl F own B w0 σ act w){o:Oper}{t:TypeId}{x ix:Operand}(ho:o.op=.index t x ix)(ht:P.underlying t=some .string)
  {p:Prop} {r:AV} {h':List aH} (hs:step Gl σ (.idx (bH x) (bH ix))=some (p,r,h')) (hp:p):Ok1 P Gl B w0 σ act w o r h':=by
 have he:=h.ev x
 have hi:=h.ev ix
 simp only[step]at hs
 split at hs
 .rename_i s k n hv hvi
  rw[hv]at he
  rw[hvi]at hi
  obtain⟨rfl,h2⟩:=aP (aI hs)
  obtain⟨rfl,rfl⟩:=aP h2
  refine Ok1.v h ?_
  have hlt:n.toNat<s.size:=by omega
  have hd:s.data.getD n.toNat 0=s[n.toNat]:=by
   have hlt':n.toNat<s.data.size:=hlt
   unfold Array.getD
   rw[dif_pos hlt']
   rfl
  have hg:s[n.toNat]?=some s[n.toNat]:=getElem?_pos s n.toNat hlt
  unfold execOp
  simp only[ho,he.dK,hi.dK]
  simp only[Instr.index,asIntOf,Sem.run_bind,Sem.run_pure,Result.andThen_ok,run_underlying ht,hp.1,if_true,hg,hd]
 .cases hs
theorem KU(h:Inv Gl F own B w0 σ act w){o:Oper}{ts:Array TypeId}{x y:Operand}{mx:Bool}(ho:o.op=.call { callee:=.builtin (if mx then .max else .min),args:=#[x,y],argTypes:=ts })
    {p:Prop} {r:AV} {h':List aH} (hs:step Gl σ (if mx then .max2 (bH x) (bH y) else .min2 (bH x) (bH y))=some (p,r,h')) (hp:p):Ok1 P Gl B w0 σ act w o r h':=by
  have he:=h.ev x
  have hi:=h.ev y
  cases mx <;> simp only [if_true,if_false,dH,step] at hs ho <;> split at hs <;> first
    |(cases hs;done)
    | (rename_i k a k' b hv hvi
       rw[hv]at he
       rw[hvi]at hi
       obtain⟨_,h2⟩:=aP (aI hs)
       obtain⟨rfl,rfl⟩:=aP h2
       refine Ok1.v h ?_
       unfold execOp
       simp only[ho]
       simp[resolve,invoke,builtin,he.dK,hi.dK,Builtin.min_,Builtin.max_,Builtin.min2,Builtin.max2]
       first|(split<;>omega)|omega)
theorem DT{t:TypeId}{sz:Nat}(ha:agT P t=some (true,sz))(ad:Addr)(ys:List Value)(hl:ys.length=sz)(hc:∀(j:Nat) (y:Value),ys[j]?=some y->w.cell? (ad.add j)=some y):(loadVar t ad).run P w=.ok (.agg ys.toArray) w:=by
 have hag:=vM ha
 have:=run_loadCells_list (P:=P) w ad ys hc
 rw[hl]at this
 simp[loadVar,hag,this]
theorem DR{t:TypeId}{sz:Nat}(ha:agT P t=some (false,sz))(ad:Addr)(y:Value)(hc:w.cell? ad=some y):(loadVar t ad).run P w=.ok y w:=by
 have hag:=vM ha
 simp[loadVar,hag,hc]
theorem Px(h:Inv Gl F own B w0 σ act w){t:TypeId}{x:Operand}{ag:Bool}{sz:Nat}(ha:agT P t=some (ag,sz))
  {p:Prop} {r:AV} {h':List aH} (hs:step Gl σ (.load sz ag (bH x))=some (p,r,h')) (hp:p):∃a y,act.eval x=.pointer (some a)/\(loadVar t a).run P w=.ok y w/\R F own y r/\h'=σ.h:=by
 have he:=h.ev x
 simp only[step]at hs
 split at hs
 .rename_i cs hv
  rw[hv]at he
  have hq:=he.pU
  generalize hv':act.eval x=v at hq
  cases hq with
  |iF ad cs cv hF hR =>
   cases ag with
   |true =>
    simp only[if_true]at hs
    split at hs
    .rename_i hle
     obtain⟨_,h2⟩:=aP (aI hs)
     obtain⟨rfl,rfl⟩:=aP h2
     have hat:∀j,j<sz->cs[j]?=some (cs.getD j .any):=λj hj=>by simp[List.getD,ah (show j<cs.length by omega)]
     have hys:∀(j:Nat) (y:Value),((List.range sz).map cv)[j]?=some y->j<sz/\y=cv j:=λj y hy=>by
      have hj:j<sz:=by have:=(aj.1 hy).1;simpa using this
      simp[ah,hj]at hy
      exact⟨hj,hy.symm⟩
     refine⟨ad,_,rfl,DT ha ad ((List.range sz).map cv) (by simp) (λj y hy=>?_),?_,rfl⟩
     .obtain⟨hj,rfl⟩:=hys j y hy
      exact h.sub _ _ (hF j _ (hat j hj)).1
     .refine .agg _ _ (by simp;omega) (λj y hy=>?_) (λj y a hy hb=>?_)
      .obtain⟨hj,rfl⟩:=hys j y (by simpa using hy)
       exact(hF j _ (hat j hj)).2
      .obtain⟨hj,rfl⟩:=hys j y (by simpa using hy)
       rw[bU,if_pos hj]at hb
       exact .pure (hR j a hb)
    .cases hs
   |false =>
    simp only[dH,if_false]at hs
    cases cs with
    |nil=>cases hs
    |cons a cs =>
     obtain⟨_,h2⟩:=aP (aI hs)
     obtain⟨rfl,rfl⟩:=aP h2
     have h0:=(hF 0 a rfl).1
     rw[EH]at h0
     exact⟨ad,_,rfl,DR ha ad (cv 0) (h.sub _ _ h0),.pure (hR 0 a rfl),rfl⟩
 .rename_i id G i off hv
  rw[hv]at he
  obtain⟨e,he1,hG,hst,hx⟩:=he.nR
  obtain⟨ob,hob,hO⟩:=h.zo he1
  rw[hob]at hs
  simp only at hs
  split at hs
  .rename_i hlen
   obtain⟨g,hg,ex⟩:=hx (by rw[hO.1,hlen])
   obtain⟨cs,fr,hblk,_,hsz,hcell⟩:=hO.EB hg
   have hcl:=hO.2.2.2.2.2.2.1
   have hsz':e.sz=ob.sz:=hO.2.1
   have a4H:∀(j:Nat) (y:Value),cs[i*ob.sz+(off+j)]?=some y->w.cell? ((⟨g,i*e.sz+off,none⟩:Addr).add j)=some y:=λj y hy=>by
    rw[Addr.add_lit,cell_of_row w g _ cs ob.ty fr hblk,<- hy,hsz',gG]
   cases ag with
   |true =>
    simp only[if_true]at hs
    obtain⟨rfl,h2⟩:=aP (aI hs)
    obtain⟨rfl,rfl⟩:=aP h2
    have hel:ob.es[i]?=some (ob.es.getD i .any):=by simp[List.getD,ah (show i<ob.es.length by omega)]
    have hc1:=hcl i _ hel
    obtain⟨ys,hyl,hyp⟩:=FT sz (λj y=>cs[i*ob.sz+(off+j)]?=some y/\y.oneCell'=true/\∀a,(ob.es.getD i .any).cells[off+j]?=some a->R F own y a) (λj hj=>by
     have:off+j<(ob.es.getD i .any).cells.length:=by omega
     obtain⟨y,h1,h2,h3⟩:=hcell i (off+j) _ _ hel (ah this)
     exact⟨y,h1,h2,λa ha'=>by rw[ah this]at ha';cases ha';exact h3.r⟩)
    refine⟨_,_,ex,DT ha _ ys hyl (λj y hy=>a4H j y (hyp j y hy).1),?_,rfl⟩
    generalize ob.es.getD i .any=E at *
    refine .agg _ _ (by simp;omega) (λj y hy=>(hyp j y (by simpa using hy)).2.1) (λj y a hy hb=>?_)
    rw[bU]at hb
    split at hb
    .rw[fT]at hb
     exact(hyp j y (by simpa using hy)).2.2 a hb
    .cases hb
   |false =>
    simp only[dH,if_false]at hs
    obtain⟨rfl,h2⟩:=aP (aI hs)
    obtain⟨rfl,rfl⟩:=aP h2
    have hel:ob.es[i]?=some (ob.es.getD i .any):=by simp[List.getD,ah (show i<ob.es.length by omega)]
    have hc1:=hcl i _ hel
    have hlt:off<(ob.es.getD i .any).cells.length:=by omega
    generalize ob.es.getD i .any=E at *
    have hge:E.cells[off]?=some (E.cells.getD off .any):=by simp[List.getD,ah hlt]
    obtain⟨y,h1,h2,h3⟩:=hcell i off _ _ hel hge
    have hw:=a4H 0 y (by simpa using h1)
    rw[EH]at hw
    exact⟨_,_,ex,DR ha _ y hw,h3.r,rfl⟩
  .cases hs
 .cases hs
theorem a6c(h:Inv Gl F own B w0 σ act w){o:Oper}{t:TypeId}{x:Operand}(ho:o.op=.load t x){ag:Bool}{sz:Nat}(ha:agT P t=some (ag,sz))
  {p:Prop} {r:AV} {h':List aH} (hs:step Gl σ (.load sz ag (bH x))=some (p,r,h')) (hp:p):Ok1 P Gl B w0 σ act w o r h':=by
 obtain⟨a,y,ex,hy,hR,rfl⟩:=Px h ha hs hp
 refine Ok1.mk h ?_ hR
 unfold execOp
 simp only[ho,ex]
 simp[Instr.loadAt,Instr.sureAddr,hy]
theorem Ap{n:Nat}{lo hi:Option AV}{p:Prop}{l u:Int}(h:qD n lo hi=some (p,l,u)):p=(0<=l/\l<=u/\u<=n)/\((lo=none/\l=0)\/∃k,lo=some (.v (.int k l)))/\((hi=none/\u=n)\/∃k,hi=some (.v (.int k u))):=by
 unfold qD at h
 split at h
 .rename_i l' u' h1 h2
  cases h
  have asn:∀{a:AV} {m:Int},asN a=some m->∃k,a=.v (.int k m):=by
   intro a m q
   unfold asN at q
   split at q
   .cases q;exact⟨_,rfl⟩
   .cases q
  refine⟨rfl,?_,?_⟩
  .cases lo with
   |none=>cases h1;exact .inl ⟨rfl,rfl⟩
   |some a=>obtain⟨k,rfl⟩:=asn h1;exact .inr ⟨k,rfl⟩
  .cases hi with
   |none=>cases h2;exact .inl ⟨rfl,rfl⟩
   |some a=>obtain⟨k,rfl⟩:=asn h2;exact .inr ⟨k,rfl⟩
 .cases h
theorem vY(h:Inv Gl F own B w0 σ act w){lo hi:Option Operand}{n cap:Nat}{p:Prop}{l u:Int}(hc:qD n ((lo.map bH).map (σ.val Gl)) ((hi.map bH).map (σ.val Gl))=some (p,l,u))(hp:p)(hn:n<=cap)(b:Bool) :
  (Instr.sliceBounds b n cap (lo.map act.eval) (hi.map act.eval) none).run P w=.ok (l.toNat,u.toNat,cap) w:=by
 obtain⟨rfl,h1,h2⟩:=Ap hc
 have s2:∀x code,hi=some x->(Instr.sliceBound (act.eval x) cap code).run P w=.ok u.toNat w:=by
  rintro x code rfl
  rcases h2 with⟨q,_⟩|⟨k,q⟩
  .cases q
  .have he:=h.ev x
   rw[show σ.val Gl (bH x)=.v (.int k u) from by simpa using q]at he
   simp[he.dK,Instr.sliceBound,asIntOf,show(0:Int)<=u from by omega,show u<=cap from by omega]
 have s1:∀x code,lo=some x->(Instr.sliceBound (act.eval x) u.toNat code).run P w=.ok l.toNat w:=by
  rintro x code rfl
  rcases h1 with⟨q,_⟩|⟨k,q⟩
  .cases q
  .have he:=h.ev x
   rw[show σ.val Gl (bH x)=.v (.int k l) from by simpa using q]at he
   have:(0:Int)<=l/\l<=((u.toNat:Nat):Int):=by omega
   simp only[he.dK,Instr.sliceBound,asIntOf,Sem.run_bind,Sem.run_pure,Result.andThen_ok,if_pos this]
 have hu:hi=none->u.toNat=n:=by
  rintro rfl
  rcases h2 with⟨_,q⟩|⟨k,q⟩
  .omega
  .cases q
 have hl:lo=none->l.toNat=0:=by
  rintro rfl
  rcases h1 with⟨_,q⟩|⟨k,q⟩
  .omega
  .cases q
 cases hi with
 |none =>
  cases lo with
  |none=>simp[Instr.sliceBounds,hu rfl,hl rfl]
  |some x =>
   have:=s1 x .sliceB rfl
   rw[hu rfl]at this
   simp[Instr.sliceBounds,hu rfl,this]
 |some y =>
  cases lo with
  |none=>simp[Instr.sliceBounds,s2 y _ rfl,hl rfl]
  |some x=>simp[Instr.sliceBounds,s2 y _ rfl,s1 x _ rfl]
theorem Yl(h:Inv Gl F own B w0 σ act w){o:Oper}{t:TypeId}{x:Operand}{lo hi:Option Operand}(ho:o.op=.slice t x lo hi none)(ht:P.underlying t=some .string)
  {p:Prop} {r:AV} {h':List aH} (hs:step Gl σ (.yg (bH x) (lo.map bH) (hi.map bH))=some (p,r,h')) (hp:p):Ok1 P Gl B w0 σ act w o r h':=by
 have he:=h.ev x
 simp only[step]at hs
 split at hs
 .rename_i s hv
  rw[hv]at he
  cases hc:qD s.size ((lo.map bH).map (σ.val Gl)) ((hi.map bH).map (σ.val Gl)) with
  |none=>rw[hc]at hs;cases hs
  |some q =>
   obtain⟨p',l,u⟩:=q
   rw[hc]at hs
   obtain⟨rfl,h2⟩:=aP (aI hs)
   obtain⟨rfl,rfl⟩:=aP h2
   have hb:=vY (P:=P) h hc hp (aS _) false
   refine Ok1.v h ?_
   unfold execOp
   simp only[ho,he.dK]
   simp[Instr.sliceAt,Instr.slice,run_underlying ht,hb]
 .cases hs
theorem ok_slice(h:Inv Gl F own B w0 σ act w){o:Oper}{t et:TypeId}{x:Operand}{lo hi:Option Operand}(ho:o.op=.slice t x lo hi none){ag:Bool}{sz:Nat}(ht:P.underlying t=some (.slice et))(ha:agT P et=some (ag,sz))
  {p:Prop} {r:AV} {h':List aH} (hs:step Gl σ (.slice sz (bH x) (lo.map bH) (hi.map bH))=some (p,r,h')) (hp:p):Ok1 P Gl B w0 σ act w o r h':=by
 have he:=h.ev x
 have hag:=vM ha
 have run:∀a n c l u,act.eval x=.slice a n c->(Instr.sliceBounds true n c (lo.map act.eval) (hi.map act.eval) none).run P w=.ok (l,u,c) w->(execOp act.eval o).run P w=.ok (.value (.slice (if c=l then a else a.map (·.add (l*sz))) (u-l) (c-l))) w:=by
  intro a n c l u ex hb
  unfold execOp
  simp only[ho,ex]
  simp[Instr.sliceAt,Instr.slice,run_underlying ht,hb,hag]
 simp only[step]at hs
 split at hs
 .rename_i sz' xs hv
  rw[hv]at he
  split at hs
  .rename_i hsz
   subst hsz
   cases hc:qD xs.length ((lo.map bH).map (σ.val Gl)) ((hi.map bH).map (σ.val Gl)) with
   |none=>rw[hc]at hs;cases hs
   |some q =>
    obtain⟨p',l,u⟩:=q
    rw[hc]at hs
    obtain⟨rfl,h2⟩:=aP (aI hs)
    obtain⟨rfl,rfl⟩:=aP h2
    have hp':=hp
    rw[(Ap hc).1]at hp'
    have hq:=he.jG
    generalize hv':act.eval x=v at hq
    cases hq with
    |nil =>
     have hb:=vY (P:=P) (cap:=0) h hc hp (by simp) true
     have hl0:l.toNat=0:=by have:=hp';simp at this;omega
     have hu0:u.toNat=0:=by have:=hp';simp at this;omega
     have:=run _ _ _ _ _ hv' hb
     rw[hl0,hu0]at this
     refine Ok1.mk h (by simpa using this) ?_
     simp
     exact .pure (.nil _)
    |list ad n cap sz xs cv hn hcap hz hF hR =>
     have hb:=vY (P:=P) (cap:=cap) h hc hp (by omega) true
     rw[hn]at hb
     refine Ok1.mk h (run _ _ _ _ _ hv' hb) ?_
     have hlen:((xs.take u.toNat).drop l.toNat).length=u.toNat-l.toNat:=by simp;omega
     by_cases hcl:cap=l.toNat
     .rw[if_pos hcl]
      have h0:u.toNat-l.toNat=0:=by omega
      have hnil:(xs.take u.toNat).drop l.toNat=[]:=fU (by omega)
      rw[hnil,h0]
      exact .pure (.list ad 0 _ _ [] cv rfl (by omega) (λi e q=>by simp at q) (λi j e a q=>by simp at q) (λi j e a q=>by simp at q))
     .rw[if_neg hcl]
      have key:∀(i:Nat) (e:AV),((xs.take u.toNat).drop l.toNat)[i]?=some e->xs[l.toNat+i]?=some e:=λi e q=>by
       rw[fT,bU]at q
       split at q
       .exact q
       .cases q
      refine .pure (.list (ad.add (l.toNat*sz')) _ _ _ _ (λj=>cv (l.toNat*sz'+j)) hlen (by omega) (λi e q=>hz _ _ (key i e q)) (λi j e a q q'=>?_) (λi j e a q q'=>?_))
      .have:=hF _ j _ _ (key i e q) q'
       rw[Ab]
       rw[dF,gG]at this
       exact this
      .have:=hR _ j _ _ (key i e q) q'
       rw[dF,gG]at this
       exact this
  .cases hs
 .rename_i hv
  rw[hv]at he
  cases hc:qD 0 ((lo.map bH).map (σ.val Gl)) ((hi.map bH).map (σ.val Gl)) with
  |none=>rw[hc]at hs;cases hs
  |some q =>
   obtain⟨p',l,u⟩:=q
   rw[hc]at hs
   obtain⟨rfl,h2⟩:=aP (aI hs)
   obtain⟨rfl,rfl⟩:=aP h2
   have hp':=hp
   rw[(Ap hc).1]at hp'
   have hb:=vY (P:=P) (cap:=0) h hc hp (by simp) true
   have hl0:l.toNat=0:=by have:=hp';simp at this;omega
   have hu0:u.toNat=0:=by have:=hp';simp at this;omega
   have:=run _ _ _ _ _ he.dK hb
   rw[hl0,hu0]at this
   exact Ok1.v h (by simpa using this)
 .rename_i id G sz' off len hv
  rw[hv]at he
  split at hs
  .rename_i hsz
   subst hsz
   cases hc:qD len ((lo.map bH).map (σ.val Gl)) ((hi.map bH).map (σ.val Gl)) with
   |none=>rw[hc]at hs;cases hs
   |some q =>
    obtain⟨p',l,u⟩:=q
    rw[hc]at hs
    simp only[bq]at hs
    obtain⟨rfl,h2⟩:=aP (aI hs)
    obtain⟨rfl,rfl⟩:=aP h2
    have hp':=hp
    rw[(Ap hc).1]at hp'
    obtain⟨e,he1,hG,⟨a,cap,hx0,hl,ha'⟩,hx⟩:=he.ny
    have hb:=vY (P:=P) (cap:=cap) h hc hp hl true
    have hr:=run _ _ _ _ _ hx0 hb
    have hul:u.toNat-l.toNat=(u-l).toNat:=by omega
    rw[hul]at hr
    refine Ok1.mk h hr (.row _ _ _ _ _ _ e he1 hG ⟨_,_,rfl,by omega,λq=>?_⟩ (λq=>?_) (by first|exact he.uN he1|exact he.vZ he1|exact he.FK he1))
    .have:=ha' (by omega)
     cases a with
     |none=>cases this
     |some a=>split<;>rfl
    .obtain⟨q1,q2,qe⟩:=hx q
     clear hx
     refine⟨q1,(by clear qe;omega),λhne=>?_⟩
     have hne':0<len\/off=0:=by clear qe;omega
     obtain⟨cp,qc,q3⟩:=qe hne'
     clear qe
     have b6n:(if cap=l.toNat then a else a.map (·.add (l.toNat*sz')))=a.map (·.add (l.toNat*sz')):=by
      rcases hne with h0|hlt
      .rw[if_neg (by omega)]
      .have:l.toNat=0:=by omega
       rw[this,jP]
       split
       .cases a<;>simp[EH]
       .rfl
     rw[b6n]
     rw[hx0]at q3
     injection q3 with q3 q4 q5
     refine⟨cp-l.toNat,by omega,?_⟩
     rw[q3,q5]
     cases hg:e.g with
     |none=>simp
     |some g=>simp[Addr.add_lit,dF]
  .cases hs
 .cases hs
end
section
variable{P:Program}{Gl:Nat->Option (List AV)}{F:Addr->Option Value}{own:List Ent}{B:Nat}{w0:W0}{σ:St}{act:Act}{w:World}
theorem KI{pr:Bool}{x:Value}{a:AV}(h:R F own x a)(hs:st1 pr a=true):x.oneCell'=true/\RC F own pr x a/\a.cells=[a]:=by
 have key:∀{q:Prop},q->(pr=true->RP F x a)->RC F own pr x a:=by
  intro _ _ hq
  unfold RC
  split
  .rename_i e;exact hq e
  .exact h
 cases a with
 |v y =>
  have:=h.dK
  subst this
  exact⟨hs,key trivial (λ_=>.v _),rfl⟩
 |list sz xs =>
  have hq:=h.jG
  refine⟨?_,key trivial (λ_=>hq),rfl⟩
  cases hq<;>rfl
 |iF cs =>
  have hq:=h.pU
  refine⟨?_,key trivial (λ_=>hq),rfl⟩
  cases hq;rfl
 |row id G sz off len =>
  obtain⟨e,_,_,⟨a,c,rfl,_⟩,_⟩:=h.ny
  refine⟨rfl,key trivial (λq=>?_),rfl⟩
  subst q;cases hs
 |ptr id G i off =>
  obtain⟨e,_,_,⟨a,rfl⟩,_⟩:=h.nR
  refine⟨rfl,key trivial (λq=>?_),rfl⟩
  subst q;cases hs
 |any=>cases hs
 |agg cs=>cases hs
 |tup cs=>cases hs
theorem yJ{pr:Bool}{x:Value}{a:AV}{cs:List AV}(h:R F own x a)(hs:dB pr a=some cs) :
  a.cells=cs/\x.cells.size=cs.length/\(∀(j:Nat) (y:Value) (b:AV),x.cells[j]?=some y->cs[j]?=some b->y.oneCell'=true/\RC F own pr y b/\b.cells=[b]):=by
 by_cases ha:∃ds,a=.agg ds
 .obtain⟨ds,rfl⟩:=ha
  have hs':(if ds.all (st1 pr) then some ds else none)=some cs:=hs
  split at hs'
  .rename_i hall
   cases hs'
   obtain⟨xs,rfl,hl,h1,hR⟩:=h.iX
   refine⟨rfl,hl,λj y b p q=>?_⟩
   exact KI (hR j y b p q) (aD.1 hall b (bP q))
  .cases hs'
 ·have hs':(if st1 pr a then some [a] else none)=some cs:=by
   cases a<;>first|exact hs|exact absurd ⟨_,rfl⟩ ha
  split at hs'
  .rename_i h1
   cases hs'
   obtain⟨q1,q2,q3⟩:=KI h h1
   have e1:x.cells=#[x]:=by cases x<;>simp_all [Value.cells,Value.oneCell']
   rw[e1,q3]
   refine⟨rfl,rfl,λj y b p q=>?_⟩
   have:j=0:=by
    rcases eD j with h0|h0
    .exact h0
    .rw[aX (by simp;omega)]at q;cases q
   subst this
   simp at p q
   subst p q
   exact⟨q1,q2,q3⟩
  .cases hs'
theorem Ok1.new(h:Inv Gl F own B w0 σ act w){o:Oper}{cs:Array Value}{ob:aH}{cap:Nat}{x:Value}{a:AV}(hsz:0<ob.sz)(hfz:ob.fz=0)(hcap:ob.es.length<=cap)(hm:cap<=maxLen)(hes:∀(i:Nat) (x:AV),ob.es[i]?=some x->x.cells.length=ob.sz)
  (hcs:cs.size=cap*ob.sz) (hR:∀(i j:Nat) (x a:AV),ob.es[i]?=some x->x.cells[j]?=some a->∃y,cs[i*ob.sz+j]?=some y/\y.oneCell'=true/\RC F own ob.pr y a)
  (hr:(execOp act.eval o).run P w=.ok (.value x) (w.alloc (.cells cs ob.ty))) (ha:R F (own++[⟨some w.heap.size,ob.es.length,ob.sz,cap⟩]) x a) (hbx:ob.pr=false->rz ob.ty=false->cap=ob.es.length:=by intro q _;first|rfl|(cases q;done)|(simp;done)):Ok1 P Gl B w0 σ act w o a (σ.h++[ob]) :=
 ⟨_,x,_,F,_,hr,.inl rfl,h.new cs ob cap hsz hfz hcap hm hes hcs hR hbx,ha⟩
theorem pQ{e:Ent}:(own++[e])[own.length]?=some e:=by simp
theorem b1s(h:Inv Gl F own B w0 σ act w){o:Oper}{t:TypeId}{x:Operand}(ho:o.op=.box t x){sz:Nat}(h0:0<sz)
  {p:Prop} {r:AV} {h':List aH} (hs:step Gl σ (.box t sz (bH x))=some (p,r,h')) (hp:p):Ok1 P Gl B w0 σ act w o r h':=by
 have he:=h.ev x
 simp only[step]at hs
 cases hc:dB false (σ.val Gl (bH x)) with
 |none=>rw[hc]at hs;cases hs
 |some cs =>
  rw[hc]at hs
  simp only at hs
  split at hs
  .rename_i hl
   obtain⟨_,h2⟩:=aP (aI hs)
   obtain⟨rfl,rfl⟩:=aP h2
   obtain⟨q1,q2,q3⟩:=yJ he hc
   refine Ok1.new h (ob:=⟨t,sz,0,false,[σ.val Gl (bH x)]⟩) (cap:=1) (cs:=(act.eval x).cells) (x:=.pointer (some ⟨w.heap.size,0,none⟩)) h0 rfl (by simp) (by simp[maxLen]) ?_ (by simp;omega) ?_ ?_ ?_
   .intro i y hy
    have:i=0:=by
     rcases eD i with h0|h0
     .exact h0
     .rw[aX (by simp;omega)]at hy;cases hy
    subst this
    simp at hy
    subst hy
    rw[q1];exact hl
   .intro i j y a hy hb
    have:i=0:=by
     rcases eD i with h0|h0
     .exact h0
     .rw[aX (by simp;omega)]at hy;cases hy
    subst this
    simp at hy
    subst hy
    rw[q1]at hb
    have hj:j<(act.eval x).cells.size:=by rw[q2];exact(aj.1 hb).1
    refine⟨(act.eval x).cells[j],by simp,(q3 j _ a (aF hj) hb).1,(q3 j _ a (aF hj) hb).2.1⟩
   .unfold execOp
    simp only[ho]
    simp[Instr.box,newVar,newRow]
   .rw[<- h.hl]
    exact .ptr _ _ _ _ _ _ pQ (by simp) ⟨_,rfl⟩ (λ_=>⟨_,rfl,by simp⟩) (by first|omega|assumption|(simp;done)|(simp;omega)|(dsimp only;omega))
  .cases hs
theorem wH(z:Value):(jO z).cells=z.cells.toList.map .v:=by cases z<;>rfl
theorem a1R(h:Inv Gl F own B w0 σ act w){o:Oper}{t:TypeId}(ho:o.op=.alloc t){i:TypeInfo}{z:Value}(hi:P.info? t=some i)(hz:i.zero=some z)(h0:0<z.cells.size)(h1:z.cells.all (·.oneCell')=true) :
  Ok1 P Gl B w0 σ act w o (.ptr σ.h.length 1 0 0) (σ.h++[⟨t,z.cells.size,0,false,[jO z]⟩]):=by
 refine Ok1.new h (ob:=⟨t,z.cells.size,0,false,[jO z]⟩) (cap:=1) (cs:=z.cells) (x:=.pointer (some ⟨w.heap.size,0,none⟩)) h0 rfl (by simp) (by simp[maxLen]) ?_ (by simp) ?_ ?_ ?_
 .intro i y hy
  have:i=0:=by
   rcases eD i with h0|h0
   .exact h0
   .rw[aX (by simp;omega)]at hy;cases hy
  subst this
  simp at hy
  subst hy
  rw[wH];simp
 .intro i j y a hy hb
  have:i=0:=by
   rcases eD i with h0|h0
   .exact h0
   .rw[aX (by simp;omega)]at hy;cases hy
  subst this
  simp at hy
  subst hy
  rw[wH]at hb
  simp at hb
  obtain⟨v,hv,rfl⟩:=hb
  refine⟨v,by simpa using hv,?_,R.pure (.v v)⟩
  exact fD.1 h1 v (Array.mem_of_getElem? hv)
 .unfold execOp
  simp only[ho]
  simp[Instr.alloc,zeroValue,typeInfo,hi,hz,newVar,newRow]
 .rw[<- h.hl]
  exact .ptr _ _ _ _ _ _ pQ (by simp) ⟨_,rfl⟩ (λ_=>⟨_,rfl,by simp⟩) (by first|omega|assumption|(simp;done)|(simp;omega)|(dsimp only;omega))
theorem b5I(h:Inv Gl F own B w0 σ act w){o:Oper}{t et:TypeId}{x:Operand}(ho:o.op=.makeSlice t x x){i:TypeInfo}{z:Value}(ht:P.underlying t=some (.slice et))(hi:P.info? et=some i)(hz:i.zero=some z)(hsz:z.cells.size=i.size)(h0:0<i.size)(h1:z.cells.all (·.oneCell')=true)
  {p:Prop} {r:AV} {h':List aH} (hs:step Gl σ (.mk et i.size i.bytes z (bH x))=some (p,r,h')) (hp:p):Ok1 P Gl B w0 σ act w o r h':=by
 have he:=h.ev x
 simp only[step]at hs
 split at hs
 .rename_i n hv
  rw[hv]at he
  obtain⟨rfl,h2⟩:=aP (aI hs)
  obtain⟨rfl,rfl⟩:=aP h2
  obtain⟨p1,p2,p3⟩:=hp
  have hb:(i.bytes:Int)*n<=281474976710656:=by
   rw[Int.mul_comm];unfold lU at p2;omega
  have run:=run_make (P:=P) w t et i z ht hi hz .i64 .i64 n n p1 (mU _) hb (by omega)
  have hel:∀(k:Nat) (y:AV),(List.replicate n.toNat (jO z))[k]?=some y->k<n.toNat/\y=jO z:=λk y hy=>by
   have hk:k<n.toNat:=by have:=(aj.1 hy).1;simpa using this
   simp[hk]at hy
   exact⟨hk,hy.symm⟩
  refine Ok1.new h (ob:=⟨et,i.size,0,true,List.replicate n.toNat (jO z)⟩) (cap:=n.toNat) (cs:=madeCells z.cells (n.toNat*i.size)) (x:=.slice (some ⟨w.heap.size,0,none⟩) n.toNat n.toNat) h0 rfl (by simp) (by simp[maxLen];omega) ?_ (by simp[size_madeCells]) ?_ ?_ ?_
  .intro k y hy
   obtain⟨_,rfl⟩:=hel k y hy
   rw[wH];simpa using hsz
  .intro k j y a hy hb'
   obtain⟨hk,rfl⟩:=hel k y hy
   rw[wH]at hb'
   simp at hb'
   obtain⟨v,hv',rfl⟩:=hb'
   have hj:j<z.cells.size:=(fC.1 hv').1
   have hlt:k*i.size+j<n.toNat*i.size:=by
    have:(k+1)*i.size<=n.toNat*i.size:=bM _ hk
    rw[dF]at this;omega
   have hmod:(k*i.size+j)%z.cells.size=j:=by
    rw[hsz,Nat.mul_comm,Nat.mul_add_mod]
    exact Nat.mod_eq_of_lt (by omega)
   refine⟨v,?_,fD.1 h1 v (Array.mem_of_getElem? hv'),RP.v v⟩
   simp only
   unfold madeCells
   rw[tN,Array.getElem?_range,if_pos hlt]
   simp only[bq,hmod]
   rw[getElem!_pos z.cells j hj]
   rw[aF hj]at hv'
   exact hv'
  .unfold execOp
   simp only[ho,he.dK]
   simp[run]
  .rw[<- h.hl]
   refine .row _ _ _ _ _ _ _ pQ (by simp) ⟨_,_,rfl,by simp,λ_=>rfl⟩ (λ_=>⟨rfl,by simp,λ_=>⟨_,dD _,?_⟩⟩) (by first|omega|assumption|(simp;done)|(simp;omega)|(dsimp only;omega))
   simp
 .cases hs
theorem qd(P:Program)(g o:Nat)(t:TypeId)(fr:Nat×Nat):∀(vs:List Value) (i:Nat) (cur:Array Value) (w:World),w.heap[g]?=some (.cells cur t fr)->KA fr cur.size->o+i+vs.length<=cur.size->(∀v∈vs,v.oneCell'=true)->
  (storeCells ⟨g,o,none⟩ vs i).run P w=.ok () (w.setRow g (cur.toList.take (o+i)++vs++cur.toList.drop (o+i+vs.length)).toArray)
 |[],i,cur,w,hg,_,_,_=>by
  simp only[storeCells,cu,dS,jQ,qL,Array.toArray_toList]
  rw[setRow_self w g cur t fr hg]
  rfl
 |v::rest,i,cur,w,hg,hnf,hl,h1=>by
  have hi:o+i<cur.size:=by simp at hl;omega
  have hadd:(⟨g,o,none⟩:Addr).add i=⟨g,o+i,none⟩:=by unfold Addr.add;split<;>simp_all
  have hcell:w.cell? ⟨g,o+i,none⟩=some cur[o+i]:=by simp[World.cell?,hg,hi]
  have hfro:w.frozen? ⟨g,o+i,none⟩=false:=by
   have:=hnf (o+i) hi
   unfold World.frozen?
   rw[hg]
   simp only[Bool.and_eq_false_iff,jm]
   by_cases q:fr.1<=o+i
   .right;intro q2;exact this ⟨q,q2⟩
   .left;exact q
  have hst:(store ((⟨g,o,none⟩:Addr).add i) v).run P w=.ok () (w.setRow g (cur.setIfInBounds (o+i) v)):=by
   rw[hadd,run_store P w _ v _ (h1 v (by simp)),hcell]
   simp[hfro,setCell_eq_setRow w g (o+i) cur t fr v hg]
  have ih:=qd P g o t fr rest (i+1) (cur.setIfInBounds (o+i) v) (w.setRow g (cur.setIfInBounds (o+i) v)) (setRow_heap w g cur _ t _ hg) (by simpa using hnf) (by simp at hl ⊢;omega) (λx hx=>h1 x (by simp[hx]))
  simp only[storeCells,Sem.run_bind,hst,Result.andThen_ok,ih,setRow_setRow]
  congr 3
  have e:=list_seg_step cur.toList (o+i) v rest (by simp at hl ⊢;omega)
  simpa[Array.toList_setIfInBounds,gG]using e
theorem Inv.set(h:Inv Gl F own B w0 σ act w){id:Nat}{e:Ent}{ob ob':aH}{g:Nat}(he:own[id]?=some e)(hob:σ.h[id]?=some ob)(hg:e.g=some g)(h0:0<e.sz)(cs':Array Value)
  (hty:ob'.ty=ob.ty) (hsz:ob'.sz=ob.sz) (hfz:ob'.fz=ob.fz) (hpr:ob'.pr=ob.pr) (hlen:ob'.es.length=ob.es.length) (hes:∀(i:Nat) (x:AV),ob'.es[i]?=some x->x.cells.length=ob'.sz)
  (hcs:cs'.size=e.cap*ob.sz) (hold:∀j x,j<ob.fz*ob.sz->w.cell? ⟨g,j,none⟩=some x->cs'[j]?=some x)
  (hR:∀(i j:Nat) (x a:AV),ob'.es[i]?=some x->x.cells[j]?=some a->∃y,cs'[i*ob.sz+j]?=some y/\y.oneCell'=true/\RC F own ob.pr y a) :
  Inv Gl F own B w0 ⟨σ.t,σ.h.set id ob'⟩ act (w.setRow g cs'):=by
 have hOr:=h.objs id e ob he hob
 have hO:=hOr
 obtain⟨cs,fr,hblk,hfr,hcsz,hcell⟩:=hO.EB hg
 have CU:id<σ.h.length:=(aj.1 hob).1
 refine h.turn (λ_ _ q=>q) (Le.refl _) (λa x q=>?_) (by simp[h.hl]) (λid' e' o' p q=>?_) h.inj ?_ h.base (hpw:=λk _ hk=>setRow_other w g k cs' λq=>hk id e he (by rw[hg,q]))
 .have hc:=h.sub a x q
  by_cases hab:a.block=g
  .obtain⟨b,off,spot⟩:=a
   simp only at hab
   subst hab
   cases spot with
   |some s=>simp[World.cell?,hblk]at hc
   |none =>
    rw[cell_setRow_same w b off cs cs' ob.ty fr hblk]
    rcases bI off (ob.fz*ob.sz) with hlt|hge
    .exact hold off x hlt hc
    .rw[hOr.fz hg hge]at q;cases q
  .rw[World.cell?_of_block (w:=w) (setRow_other w g a.block cs' hab)];exact hc
 .by_cases hid:id'=id
  .subst hid
   rw[he]at p
   cases p
   have q':(σ.h.set id' ob')[id']?=some o':=q
   rw[aK CU]at q'
   cases q'
   obtain⟨k1,k2,k3,k4,k5,k6,k7,k8⟩:=hO
   refine⟨by rw[hlen];exact k1,by rw[hsz];exact k2,by rw[hsz];exact k3,k4,⟨k5.1,by rw[hpr,hlen,hty];exact k5.2⟩,by rw[hfz,hlen];exact k6,hes,?_⟩
   rw[hg]
   refine⟨cs',⟨fr,by rw[hty];exact setRow_heap w g cs cs' ob.ty fr hblk,by rw[hpr,hfz,hlen,hcs,<- hcsz];exact hfr⟩,by rw[hsz];exact hcs,λi j x a p q=>?_,λj hj=>?_⟩
   .obtain⟨y,a1,a2,a3⟩:=hR i j x a p q
    exact⟨y,by rw[hsz];exact a1,a2,by rw[hpr];exact a3⟩
   .rw[hfz,hsz]at hj
    rw[hg]at k8
    obtain⟨_,_,_,_,k⟩:=k8
    exact k j hj
  .have q':(σ.h.set id ob')[id']?=some o':=q
   rw[aC (λe=>hid e.symm)]at q'
   have hO':=h.objs id' e' o' p q'
   refine hO'.mono (λ_ _ r=>r) (Le.refl _) (λg' hg'=>setRow_other w g g' cs' (λe=>?_)) (λg' j hg' hj=>hO'.fz hg' hj)
   subst e
   exact hid (h.inj id' id e' _ g' p he hg' hg)
 .refine h.below.trans ⟨rfl,rfl,rfl,by simp,λk hk=>setRow_other w g k cs' (λe'=>?_)⟩
  subst e'
  have:=h.base id e k he hg
  omega
theorem qQ{α:Type}(l m:List α)(p:Nat)(hp:p+m.length<=l.length)(j:Nat) :
  (l.take p++m++l.drop (p+m.length))[j]?=if j<p then l[j]? else if j<p+m.length then m[j-p]? else l[j]?:=by
 rw[aZ,List.getElem?_append]
 have h1:(l.take p).length=p:=by simp;omega
 rw[h1]
 by_cases h:j<p
 .rw[if_pos h,if_pos h,bU,if_pos h]
 .rw[if_neg h,if_neg h,List.getElem?_append]
  by_cases h2:j-p<m.length
  .rw[if_pos h2,if_pos (by omega)]
  .rw[if_neg h2,if_neg (by omega),fT]
   congr 1
   omega
theorem I6(h:Inv Gl F own B w0 σ act w){o:Oper}{t:TypeId}{x y:Operand}(ho:o.op=.store t x y){ag:Bool}{sz:Nat}(ha:agT P t=some (ag,sz))(h0:0<sz){id G i off:Nat}(he:R F own (act.eval x) (.ptr id G i off)){a:AV}(hy:R F own (act.eval y) a)
  {ob:aH} (hob:σ.h[id]?=some ob) (hlen:ob.es.length=G) {cs:List AV} (hc:dB ob.pr a=some cs) (hcl:cs.length=sz) (hp:off+sz<=ob.sz/\i<G/\ob.fz<=i):Ok1 P Gl B w0 σ act w o .any (σ.h.set id { ob with es:=ob.es.set i (setCells (ob.es.getD i .any) off cs) }):=by
 have hag:=vM ha
 obtain⟨e,he1,hG,hst,hx⟩:=he.nR
 have hOr:=h.objs id e ob he1 hob
 have hO:=hOr
 obtain⟨p1,p2,p3⟩:=hp
 obtain⟨g,hg,ex⟩:=hx (by rw[hO.1,hlen])
 obtain⟨cur,fr,hblk,hnf,hcsz,hcell⟩:=hO.blk hg (.inr (by omega))
 obtain⟨q1,q2,q3⟩:=yJ hy hc
 have hsz':e.sz=ob.sz:=hO.2.1
 have hcap:e.G<=e.cap:=hO.2.2.2.1
 have hcells:=hO.2.2.2.2.2.2.1
 have hsp:=hO.2.2.1
 have hvl:(act.eval y).cells.toList.length=sz:=by simp;omega
 have hone:∀v∈(act.eval y).cells.toList,v.oneCell'=true:=λv hv=>by
  obtain⟨j,hj,rfl⟩:=nM.1 hv
  have hj':j<(act.eval y).cells.size:=by simpa using hj
  have hjc:j<cs.length:=by omega
  have:=(q3 j (act.eval y).cells[j] cs[j] (aF hj') (ah hjc)).1
  simpa using this
 have hi1:(i+1)*ob.sz<=e.cap*ob.sz:=bM _ (by rw[hO.1]at hcap;omega)
 rw[dF,gN]at hi1
 have hfit:(i*ob.sz+off)+(act.eval y).cells.toList.length<=cur.toList.length:=by simp;omega
 have hrun:=qd P g (i*ob.sz+off) ob.ty fr (act.eval y).cells.toList 0 cur w hblk hnf (by simpa using hfit) hone
 simp only[jQ]at hrun
 generalize hcs':(cur.toList.take (i*ob.sz+off)++(act.eval y).cells.toList++cur.toList.drop (i*ob.sz+off+(act.eval y).cells.toList.length)).toArray=cs' at hrun
 have hat:∀j,cs'[j]?=if j<i*ob.sz+off then cur[j]? else if j<i*ob.sz+off+sz then(act.eval y).cells[j-(i*ob.sz+off)]? else cur[j]?:=λj=>by
  rw[<- hcs',qP,qQ _ _ _ hfit,hvl]
  simp
 have hel:ob.es[i]?=some (ob.es.getD i .any):=by simp[List.getD,ah (show i<ob.es.length by omega)]
 have a2s:=hcells i _ hel
 have run:(execOp act.eval o).run P w=.ok .skip (w.setRow g cs'):=by
  unfold execOp
  simp only[ho,ex]
  have:(act.eval y).cells.size=sz:=by omega
  simp[Instr.storeAt,Instr.sureAddr,storeVar,hag,this,hsz',hrun]
 have hset:(setCells (ob.es.getD i .any) off cs).cells=(ob.es.getD i .any).cells.take off++cs++(ob.es.getD i .any).cells.drop (off+cs.length):=by
  generalize ob.es.getD i .any=E at *
  by_cases hE:∃l,E=.agg l
  .obtain⟨l,rfl⟩:=hE;rfl
  .have hE1:E.cells=[E]:=by cases E<;>first|rfl|exact absurd ⟨_,rfl⟩ hE
   rw[hE1]at a2s ⊢
   simp at a2s
   have h1:cs.length=1:=by omega
   have hoff:off=0:=by omega
   subst hoff
   match cs,h1 with
   |[c],_ =>
    have hs1:setCells E 0 [c]=c:=by
     cases E<;>first|rfl|exact absurd ⟨_,rfl⟩ hE
    rw[hs1]
    have hy0:0<(act.eval y).cells.size:=by omega
    have:=(q3 0 _ c (aF hy0) rfl).2.2
    rw[this]
    simp
 refine⟨_,undef,_,F,own,run,.inr ⟨rfl,rfl⟩,?_,.pure (.any _)⟩
 refine h.set he1 hob hg (he.uN he1) cs' rfl rfl rfl rfl (by simp) ?_ ?_ ?_ ?_
 .intro k z hz
  simp only at hz ⊢
  rw[dh]at hz
  split at hz
  .split at hz
   .cases hz
    rw[hset]
    simp only[ak,jR,rJ]
    omega
   .cases hz
  .exact hcells k z hz
 .rw[<- hcs']
  simp
  omega
 .intro j z hj hz
  have:ob.fz*ob.sz<=i*ob.sz:=bM _ p3
  rw[hat j,if_pos (by omega)]
  rw[cell_of_row w g j cur ob.ty fr hblk]at hz
  exact hz
 .intro k j z a hz hb
  simp only at hz
  rw[dh]at hz
  split at hz
  .rename_i hik
   subst hik
   split at hz
   .cases hz
    rw[hset,qQ _ _ _ (by omega)]at hb
    have hjlt:j<ob.sz:=by
     rcases bI j ob.sz with q|q
     .exact q
     .rw[if_neg (by omega),if_neg (by omega),aX (by omega)]at hb;cases hb
    split at hb
    .rename_i hjo
     obtain⟨v,a1,a2,a3⟩:=hcell i j _ a hel hb
     exact⟨v,by rw[hat,if_pos (by omega)];exact a1,a2,a3⟩
    .rename_i hjo
     split at hb
     .rename_i hjs
      have hjc:j-off<(act.eval y).cells.size:=by omega
      obtain⟨a2,a3,_⟩:=q3 (j-off) _ a (aF hjc) hb
      refine⟨(act.eval y).cells[j-off],?_,a2,a3⟩
      rw[hat,if_neg (by omega),if_pos (by omega)]
      rw[show i*ob.sz+j-(i*ob.sz+off)=j-off from by omega]
      exact aF hjc
     .rename_i hjs
      obtain⟨v,a1,a2,a3⟩:=hcell i j _ a hel hb
      exact⟨v,by rw[hat,if_neg (by omega),if_neg (by omega)];exact a1,a2,a3⟩
   .cases hz
  .rename_i hik
   obtain⟨v,a1,a2,a3⟩:=hcell k j z a hz hb
   refine⟨v,?_,a2,a3⟩
   have hjlt:j<ob.sz:=by rw[<- hcells k z hz];exact(aj.1 hb).1
   rw[hat]
   rcases Nat.lt_or_gt_of_ne hik with q|q
   .have:(i+1)*ob.sz<=k*ob.sz:=bM _ q
    rw[dF,gN]at this
    rw[if_neg (by omega),if_neg (by omega)];exact a1
   .have:(k+1)*ob.sz<=i*ob.sz:=bM _ q
    rw[dF,gN]at this
    rw[if_pos (by omega)];exact a1
end
section
variable{P:Program}{Gl:Nat->Option (List AV)}{F:Addr->Option Value}{own:List Ent}{B:Nat}{w0:W0}{σ:St}{act:Act}{w w':World}
theorem Le.set{id:Nat}{e e':Ent}(he:own[id]?=some e)(hle:e'=e\/(e.G<e'.G/\0<e.sz/\0<e'.sz)):Le own (own.set id e'):=λk f hf=>by
 by_cases hk:id=k
 .subst hk
  rw[he]at hf
  cases hf
  exact⟨e',by rw[aK (aj.1 he).1],hle⟩
 .exact⟨f,by rw[aC hk];exact hf,.inl rfl⟩
theorem Inv.upd(h:Inv Gl F own B w0 σ act w){id:Nat}{e e':Ent}{ob ob':aH}(he:own[id]?=some e)(hob:σ.h[id]?=some ob)(hle:e'=e\/(e.G<e'.G/\0<e.sz/\0<e'.sz))(hF:∀a x,F a=some x->w'.cell? a=some x)
  (hoth:∀(id':Nat) (f:Ent) (g:Nat),id'≠id->own[id']?=some f->f.g=some g->w'.heap[g]?=w.heap[g]?/\e'.g≠some g) (hO':og F (own.set id e') w' e' ob') (hb:Below B w0.w w') (hbase:∀g,e'.g=some g->B<=g)
  (hpw:∀g,g<w.heap.size->zm own g->w'.heap[g]?=w.heap[g]?) (hpe:∀g,e'.g=some g->e.g=some g\/w.heap.size<=g) :
  Inv Gl F (own.set id e') B w0 ⟨σ.t,σ.h.set id ob'⟩ act w':=by
 have hlt:id<own.length:=(aj.1 he).1
 have hlt':id<σ.h.length:=(aj.1 hob).1
 have hLe:Le own (own.set id e'):=Le.set he hle
 have get:∀(k:Nat) (f:Ent),(own.set id e')[k]?=some f->(k=id/\f=e')\/(k≠id/\own[k]?=some f):=λk f hf=>by
  by_cases hk:id=k
  .subst hk;rw[aK hlt]at hf;cases hf;exact .inl ⟨rfl,rfl⟩
  .rw[aC hk]at hf;exact .inr ⟨λq=>hk q.symm,hf⟩
 refine h.turn (λ_ _ q=>q) hLe hF (by simp[h.hl]) (λk f o' p q=>?_) (λi j f f' g p q r s=>?_) hb (λk f g p q=>?_) (hpw:=hpw) (hpo:=λk f g p q=>by
  rcases get k f p with⟨rfl,rfl⟩|⟨hk,hf⟩
  .rcases hpe g q with r|r
   .exact .inl λn=>n k e he r
   .exact .inr r
  .exact .inl λn=>n k f hf q)
 .have q':(σ.h.set id ob')[k]?=some o':=q
  rcases get k f p with⟨rfl,rfl⟩|⟨hk,hf⟩
  .rw[aK hlt']at q';cases q';exact hO'
  .rw[aC (λq=>hk q.symm)]at q'
   have hO:=h.objs k f o' hf q'
   exact hO.mono (λ_ _ r=>r) hLe (λg hg=>(hoth k f g hk hf hg).1) (λg j hg hj=>hO.fz hg hj)
 .rcases get i f p with⟨rfl,rfl⟩|⟨hi,hf⟩<;>rcases get j f' q with⟨rfl,rfl⟩|⟨hj,hf'⟩
  .rfl
  .exact absurd r (hoth j f' g hj hf' s).2
  .exact absurd s (hoth i f g hi hf r).2
  .exact h.inj i j f f' g hf hf' r s
 .rcases get k f p with⟨rfl,rfl⟩|⟨hk,hf⟩
  .exact hbase g q
  .exact h.base k f g hf q
theorem Inv.Ea(h:Inv Gl F own B w0 σ act w)(ty sz:Nat)(pr:Bool)(hsz:0<sz):Inv Gl F (own++[⟨none,0,sz,0⟩]) B w0 ⟨σ.t,σ.h++[⟨ty,sz,0,pr,[]⟩]⟩ act w:=by
 have get:∀(k:Nat) (f:Ent),(own++[(⟨none,0,sz,0⟩:Ent)])[k]?=some f->(k=own.length/\f=⟨none,0,sz,0⟩)\/(k<own.length/\own[k]?=some f):=λk f hf=>by
  rcases bI k own.length with hk|hk
  .rw[au hk]at hf;exact .inr ⟨hk,hf⟩
  .rw[aO hk]at hf
   have h0:k-own.length=0:=by
    rcases eD (k-own.length) with h0|h0
    .exact h0
    .rw[aX (by simp;omega)]at hf;cases hf
   rw[h0]at hf
   simp at hf
   exact .inl ⟨by omega,hf.symm⟩
 refine h.turn (λ_ _ q=>q) (Le.snoc _ _) h.sub (by simp[h.hl]) (λk f o' p q=>?_) (λi j f f' g p q r s=>?_) h.below (λk f g p q=>?_) (hpo:=O4 λg q=>by cases q)
 .have q':(σ.h++[(⟨ty,sz,0,pr,[]⟩:aH)])[k]?=some o':=q
  rcases get k f p with⟨rfl,rfl⟩|⟨hk,hf⟩
  .rw[h.hl,aO (aS _)]at q'
   simp at q'
   subst q'
   exact⟨rfl,rfl,hsz,aS _,by simp[maxLen],by simp,λi x hx=>by simp at hx,rfl⟩
  .rw[au (by rw[<- h.hl];exact hk)]at q'
   have hO:=h.objs k f o' hf q'
   exact hO.mono (λ_ _ r=>r) (Le.snoc _ _) (λg hg=>rfl) (λg j hg hj=>hO.fz hg hj)
 .rcases get i f p with⟨rfl,rfl⟩|⟨hi,hf⟩
  .cases r
  .rcases get j f' q with⟨rfl,rfl⟩|⟨hj,hf'⟩
   .cases s
   .exact h.inj i j f f' g hf hf' r s
 .rcases get k f p with⟨rfl,rfl⟩|⟨hk,hf⟩
  .cases q
  .exact h.base k f g hf q
structure Src (F:Addr->Option Value) (w:World) (sz:Nat) (x:Value) (ys:List AV):Prop where
 ex:∃(A:Option Addr) (c:Nat) (news:List Value),x=.slice A ys.length c/\(A=none->ys=[])/\(A=none->c=0)/\news.length=ys.length*sz/\(∀ad,A=some ad->∀(j:Nat) (u:Value),news[j]?=some u->w.cell? (ad.add j)=some u)/\(∀u∈news,u.oneCell'=true)/\
  (∀(i j:Nat) (e a:AV),ys[i]?=some e->e.cells[j]?=some a->∃y,news[i*sz+j]?=some y/\y.oneCell'=true/\RP F y a)
 cl:∀(i:Nat) (e:AV),ys[i]?=some e->e.cells.length=sz
theorem RC.Ms{pr:Bool}{y:Value}{a:AV}(h:RP F y a):RC F own pr y a:=by unfold RC;split;exact h;exact .pure h
theorem RC.pl{pr:Bool}{y:Value}{a:AV}(h:RC F own pr y a)(hp:st1 true a=true):RP F y a:=by
 unfold RC at h
 split at h
 .exact h
 .cases a with
  |v x=>rw[h.dK];exact .v _
  |list sz xs=>exact h.jG
  |iF cs=>exact h.pU
  |_=>cases hp
theorem KJ(h:Inv Gl F own B w0 σ act w){x:Value}{a:AV}(hR:R F own x a){sz:Nat}(hsz:0<sz){ys:List AV}(hs:iC σ.h sz a=some ys):Src F w sz x ys:=by
 have idx:∀(k n:Nat),k<n*sz->k/sz<n/\k%sz<sz/\k/sz*sz+k%sz=k:=λk n hk =>
  ⟨(Nat.div_lt_iff_lt_mul hsz).2 hk,Nat.mod_lt _ hsz,by rw[Nat.mul_comm];exact Nat.div_add_mod k sz⟩
 have IQ:∀(i j n:Nat),i<n->j<sz->i*sz+j<n*sz:=λi j n hi hj=>by
  have:(i+1)*sz<=n*sz:=bM _ hi
  rw[dF,gN]at this;omega
 unfold iC at hs
 split at hs
 .rename_i sz' xs
  split at hs
  .rename_i e
   subst e
   cases hs
   have hq:=hR.jG
   cases hq with
   |nil=>exact⟨⟨none,0,[],rfl,λ_=>rfl,λ_=>rfl,by simp,(λad q=>by cases q),(λu q=>by simp at q),(λi j e a q=>by simp at q)⟩,λi e q=>by simp at q⟩
   |list ad n cap sz xs cv hn hc hz hF hR' =>
    have hnews:∀(k:Nat) (u:Value),((List.range (ys.length*sz')).map cv)[k]?=some u->k<ys.length*sz'/\u=cv k:=λk u hu=>by
     have hk:k<ys.length*sz':=by have:=(aj.1 hu).1;simpa using this
     simp[ah,hk]at hu
     exact⟨hk,hu.symm⟩
    have cell:∀k,k<ys.length*sz'->F (ad.add k)=some (cv k)/\(cv k).oneCell'=true:=λk hk=>by
     obtain⟨k1,k2,k3⟩:=idx k _ hk
     have e1:ys[k/sz']?=some ys[k/sz']:=ah k1
     have hl:=hz _ _ e1
     have e2:(ys[k/sz']).cells[k%sz']?=some ((ys[k/sz']).cells[k%sz']'(by omega)):=ah (by omega)
     have:=hF _ _ _ _ e1 e2
     rw[k3]at this
     exact this
    refine⟨⟨some ad,cap,(List.range (ys.length*sz')).map cv,by rw[hn],(λq=>by cases q),(λq=>by cases q),by simp,?_,?_,?_⟩,hz⟩
    .rintro ad' rfl' j u hu
     cases rfl'
     obtain⟨hj,rfl⟩:=hnews j u hu
     exact h.sub _ _ (cell j hj).1
    .intro u hu
     obtain⟨j,hj,rfl⟩:=nM.1 hu
     obtain⟨hj',e⟩:=hnews j _ (ah hj)
     rw[e];exact(cell j hj').2
    .intro i j e a q q'
     have hi:i<ys.length:=(aj.1 q).1
     have hj:j<sz':=by rw[<- hz i e q];exact(aj.1 q').1
     have hlt:=IQ i j _ hi hj
     refine⟨cv (i*sz'+j),?_,(cell _ hlt).2,hR' i j e a q q'⟩
     simp[ah,hlt]
  .cases hs
 .cases hs
  have:=hR.dK
  subst this
  exact⟨⟨none,0,[],rfl,λ_=>rfl,λ_=>rfl,by simp,(λad q=>by cases q),(λu q=>by simp at q),(λi j e a q=>by simp at q)⟩,λi e q=>by simp at q⟩
 .rename_i id G sz' off len
  obtain⟨e,he1,hG,hst,hx⟩:=hR.ny
  obtain⟨ob,hob,hO⟩:=h.zo he1
  rw[hob]at hs
  simp only at hs
  split at hs
  .rename_i hc
   obtain⟨c1,c2,c3,c4⟩:=hc
   subst c2
   cases hs
   obtain⟨q1,q2,qe⟩:=hx (by rw[hO.1,c1])
   by_cases hex:0<len\/off=0
   case neg =>
    obtain⟨a,cap,hx0,_,ha'⟩:=hst
    have hl0:len=0:=by omega
    subst hl0
    have:=ha' (by omega)
    cases a with
    |none=>cases this
    |some ad=>exact⟨⟨some ad,cap,[],by rw[hx0];simp,(λq=>by cases q),(λq=>by cases q),by simp,(λad' q j u hu=>by simp at hu),(λu q=>by simp at q),(λi j e a q=>by simp at q)⟩,λi e q=>by simp at q⟩
   obtain⟨cp,qc,q3⟩:=qe hex
   have b2O:len<=cp:=by obtain⟨_,_,e1,e2,_⟩:=hst;rw[q3]at e1;injection e1 with _ _ e1;omega
   have hcl:=hO.2.2.2.2.2.2.1
   have hlen:((ob.es.drop off).take len).length=len:=by simp;omega
   have hel:∀(i:Nat) (y:AV),((ob.es.drop off).take len)[i]?=some y->i<len/\ob.es[off+i]?=some y:=λi y hy=>by
    rw[bU]at hy
    split at hy
    .rw[fT]at hy;exact⟨by assumption,hy⟩
    .cases hy
   have hcl':∀(i:Nat) (y:AV),((ob.es.drop off).take len)[i]?=some y->y.cells.length=sz':=λi y hy=>by rw[<- c3];exact hcl _ _ (hel i y hy).2
   refine⟨?_,hcl'⟩
   rw[hlen]
   cases hg:e.g with
   |none =>
    have hcap:e.cap=0:=by have:=hO.2.2.2.2.2.2.2;rw[hg]at this;exact this
    have hG0:e.G=0:=by have:=hO.2.2.2.1;omega
    have IZ:len=0:=by omega
    subst IZ
    rw[hg]at q3
    exact⟨none,_,[],q3,(λ_=>by simp),(λ_=>by omega),by simp,(λad q=>by cases q),(λu q=>by simp at q),(λi j e a q=>by simp at q)⟩
   |some g =>
    rw[hg]at q3
    obtain⟨cs,fr,hblk,_,hcsz,hcell⟩:=hO.EB hg
    rw[c3]at hcsz hcell
    have hcap:e.G<=e.cap:=hO.2.2.2.1
    have hle:(off+len)*sz'<=cs.size:=by rw[hcsz];exact bM _ (by omega)
    rw[dF]at hle
    have hn:∀(j:Nat),j<len*sz'->((cs.toList.drop (off*sz')).take (len*sz'))[j]?=cs[off*sz'+j]?:=λj hj=>by
     rw[bU,if_pos hj,fT];simp
    have hnl:((cs.toList.drop (off*sz')).take (len*sz')).length=len*sz':=by simp;omega
    refine⟨some ⟨g,off*sz',none⟩,_,(cs.toList.drop (off*sz')).take (len*sz'),q3,(λq=>by cases q),(λq=>by cases q),hnl,?_,?_,?_⟩
    .rintro ad' rfl' j u hu
     cases rfl'
     have hj:j<len*sz':=by rw[<- hnl];exact(aj.1 hu).1
     rw[hn j hj]at hu
     rw[Addr.add_lit,cell_of_row w g _ cs ob.ty fr hblk];exact hu
    .intro u hu
     obtain⟨j,hju⟩:=dP.1 hu
     have hj:=(aj.1 hju).1
     rw[hnl]at hj
     rw[hn j hj]at hju
     obtain⟨k1,k2,k3⟩:=idx j _ hj
     have e1:ob.es[off+j/sz']?=some (ob.es[off+j/sz']'(by omega)):=ah (by omega)
     have hl:=hcl _ _ e1
     rw[c3]at hl
     have e2:=ah (l:=(ob.es[off+j/sz']'(by omega)).cells) (i:=j%sz') (by omega)
     obtain⟨y,a1,a2,_⟩:=hcell _ _ _ _ e1 e2
     rw[dF,gG,k3,hju]at a1
     cases a1
     exact a2
    .intro i j y a q q'
     obtain⟨hi,q0⟩:=hel i y q
     have hj:j<sz':=by rw[<- hcl' i y q];exact(aj.1 q').1
     obtain⟨v,a1,a2,a3⟩:=hcell _ _ _ _ q0 q'
     refine⟨v,?_,a2,?_⟩
     .rw[hn _ (IQ i j _ hi hj),<- a1,dF,gG]
     .rcases c4 with c4|c4
      .unfold RC at a3;rw[if_pos c4]at a3;exact a3
      .exact a3.pl (aD.1 (aD.1 c4 y (bP q0)) a (bP q'))
  .cases hs
 .cases hs
theorem Bo{Rr:Value->AV->Prop}{sz m n:Nat}{olds news:List Value}{es ys:List AV}{zs:Array Value}(hn:es.length=n)(hm:ys.length=m)(ho:olds.length=n*sz)(hl:news.length=m*sz)
  (hO:∀(i j:Nat) (e a:AV),es[i]?=some e->e.cells[j]?=some a->∃y,olds[i*sz+j]?=some y/\y.oneCell'=true/\Rr y a) (hce:∀(i:Nat) (e:AV),es[i]?=some e->e.cells.length=sz)
  (hN:∀(i j:Nat) (e a:AV),ys[i]?=some e->e.cells[j]?=some a->∃y,news[i*sz+j]?=some y/\y.oneCell'=true/\Rr y a) (hcy:∀(i:Nat) (e:AV),ys[i]?=some e->e.cells.length=sz) :
  (∀(i:Nat) (e:AV),(es++ys)[i]?=some e->e.cells.length=sz)/\
  ∀(i j:Nat) (e a:AV),(es++ys)[i]?=some e->e.cells[j]?=some a->∃y,(olds.toArray++news.toArray++zs)[i*sz+j]?=some y/\y.oneCell'=true/\Rr y a:=by
 have IQ:∀(i j n:Nat),i<n->j<sz->i*sz+j<n*sz:=λi j n hi hj=>by
  have:(i+1)*sz<=n*sz:=bM _ hi
  rw[dF,gN]at this;omega
 refine⟨λi e q=>?_,λi j e a q q'=>?_⟩
 .rcases bI i es.length with hi|hi
  .rw[au hi]at q;exact hce i e q
  .rw[aO hi]at q;exact hcy _ e q
 .rcases bI i es.length with hi|hi
  .rw[au hi]at q
   have hj:j<sz:=by rw[<- hce i e q];exact(aj.1 q').1
   obtain⟨y,a1,a2,a3⟩:=hO i j e a q q'
   have hlt:=IQ i j n (by omega) hj
   refine⟨y,?_,a2,a3⟩
   rw[gU (by simp;omega),gU (by simp;omega)]
   simpa using a1
  .rw[aO hi]at q
   have hj:j<sz:=by rw[<- hcy _ e q];exact(aj.1 q').1
   have hi2:i-es.length<m:=by rw[<- hm];exact(aj.1 q).1
   obtain⟨y,a1,a2,a3⟩:=hN _ j e a q q'
   have hlt:=IQ (i-es.length) j m hi2 hj
   have heq:i*sz+j=n*sz+((i-es.length)*sz+j):=by
    rw[<- gG,<- dF];congr 2;omega
   refine⟨y,?_,a2,a3⟩
   rw[gU (by simp;omega),Array.getElem?_append_right (by simp;omega)]
   rw[<- a1]
   simp
   congr 1
   omega
def KF(P:Program)(w:World)(t tx ty et:TypeId)(i:TypeInfo)(z x:Value)(n:Nat)(news:List Value):Prop :=
 (n=0->∀(a:Option Addr) (m cap:Nat),m<=cap->(Builtin.append_ #[t,tx] ty #[.slice a m cap,x]).run P w=.ok (.slice a m cap) w)/\
 (0<n->n*i.bytes<=lU->n<=4611686018427387904->(Builtin.append_ #[t,tx] ty #[.slice none 0 0,x]).run P w=.ok (.slice (some ⟨w.heap.size,0,none⟩) n (grownCap w n 0 et)) (w.drew.alloc (.cells (news.toArray++Builtin.zeroCells z.cells (grownCap w n 0 et-n)) et)))/\
 (0<n->∀(g len cp:Nat) (cur:Array Value) (fr:Nat×Nat),w.heap[g]?=some (.cells cur et fr)->KA fr cur.size->len+n<=cp->len*i.size+news.length<=cur.size->(Builtin.append_ #[t,tx] ty #[.slice (some ⟨g,0,none⟩) len cp,x]).run P w=.ok (.slice (some ⟨g,0,none⟩) (len+n) cp) (w.setRow g (cur.toList.take (len*i.size)++news++cur.toList.drop (len*i.size+news.length)).toArray))/\
 (0<n->∀(g len cp:Nat) (olds:List Value),olds.length=len*i.size->(∀j v,olds[j]?=some v->w.cell? ((⟨g,0,none⟩:Addr).add j)=some v)->cp<len+n->len+n<=4611686018427387904->Builtin.nextslicecap (len+n) cp*i.bytes<=281474976710656->(Builtin.append_ #[t,tx] ty #[.slice (some ⟨g,0,none⟩) len cp,x]).run P w=.ok (.slice (some ⟨w.heap.size,0,none⟩) (len+n) (grownCap w (len+n) cp et)) (w.drew.alloc (.cells (olds.toArray++news.toArray++Builtin.zeroCells z.cells (grownCap w (len+n) cp et-(len+n))) et)))
theorem LH{t ty et:TypeId}{i:TypeInfo}{z:Value}(ht:P.underlying t=some (.slice et))(hi:P.info? et=some i)(hz:i.zero=some z)(A:Option Addr)(n c:Nat)(news:List Value)(hA:A=none->n=0)(hnl:news.length=n*i.size)(zU:∀ad,A=some ad->∀j v,news[j]?=some v->w.cell? (ad.add j)=some v)(hn1:∀u∈news,u.oneCell'=true):KF P w t t ty et i z (.slice A n c) n news:=by
 refine⟨λhn a m cap hle=>?_,λhpos hb hl=>?_,λhpos g len cp cur fr hg hnf hroom hfit=>?_,λhpos g len cp olds hlo holds hcp hl hfit=>?_⟩
 .subst hn
  cases A with
  |none=>cases a<;>simp[Builtin.append_,run_underlying ht,sizeOf,typeInfo,hi,Builtin.lenOf,Builtin.firstCells,hle,storeCells]
  |some ad=>cases a<;>simp[Builtin.append_,run_underlying ht,sizeOf,typeInfo,hi,Builtin.lenOf,Builtin.firstCells,loadCells,loadCellsFrom,hle,storeCells]
 .cases A with
  |none=>have:=hA rfl;omega
  |some ad=>exact run_append_nil w t ty et i z ht hi hz ad n c news hnl (zU ad rfl) hpos (by omega) (by unfold lU at hb;omega)
 .cases A with
  |none=>have:=hA rfl;omega
  |some ad =>
   have hf:=run_firstCells_some (P:=P) w i.size n ad n c news hnl (zU ad rfl)
   have hst:=qd P g (len*i.size) et fr news 0 cur w hg hnf (by simpa using hfit) hn1
   simp only[jQ]at hst
   simp[Builtin.append_,run_underlying ht,sizeOf,typeInfo,hi,Builtin.lenOf,hroom,hf,Addr.add_lit,hst]
 .cases A with
  |none=>have:=hA rfl;omega
  |some ad=>exact run_append_grow (P:=P) w t ty et i z ht hi hz ⟨g,0,none⟩ len cp olds hlo holds ad n c news hnl (zU ad rfl) hcp (by omega) hfit
theorem Ku{t u ty et:TypeId}{i:TypeInfo}{z:Value}(ht:P.underlying t=some (.slice et))(hu:P.underlying u=some .string)(hi:P.info? et=some i)(hz:i.zero=some z)(hs1:i.size=1)(s:ByteArray):KF P w t u ty et i z (.string s) s.size (Lib.strCells s):=by
 refine⟨λhn a m cap hle=>?_,λhpos hb hl=>?_,λhpos g len cp cur fr hg hnf hroom hfit=>?_,λhpos g len cp olds hlo holds hcp hl hfit=>?_⟩
 .have hf:=Lib.run_firstCells_string (P:=P) w i.size s
  have h0:Lib.strCells s=[]:=fU (by rw[Lib.strCells_length];exact hn)
  rw[hn,h0]at hf
  cases a<;>simp[Builtin.append_,run_underlying ht,run_underlying hu,sizeOf,typeInfo,hi,Builtin.lenOf,hn,hf,hle,storeCells]
 .have hr:=run_append_nil_string (P:=P) w t u ty et i z ht hu hi hz s hpos (by omega) (by unfold lU at hb;omega)
  have e1:(s.data.map λb=>Value.int .u8 b.toNat)=(Lib.strCells s).toArray:=by
   apply Array.ext'
   simp[Lib.strCells]
  rw[e1]at hr
  exact hr
 .have hf:=Lib.run_firstCells_string (P:=P) w i.size s
  have hst:=qd P g (len*i.size) et fr (Lib.strCells s) 0 cur w hg hnf (by simpa using hfit) (Lib.strCells_oneCell s)
  simp only[jQ]at hst
  simp[Builtin.append_,run_underlying ht,run_underlying hu,sizeOf,typeInfo,hi,Builtin.lenOf,hroom,hf,Addr.add_lit,hst]
 .exact Lib.run_append_grow_string (P:=P) w t u ty et i z ht hu hi hz ⟨g,0,none⟩ len cp olds hlo holds s hcp (by omega) hfit
theorem QD(h:Inv Gl F own B w0 σ act w){o:Oper}{t tx et:TypeId}{s x:Operand}(ho:o.op=.call { callee:=.builtin .append,args:=#[s,x],argTypes:=#[t,tx] }){i:TypeInfo}{z:Value}(hzs:z.cells.size=i.size)(h0:0<i.size)
  {ys:List AV} {news:List Value} (hnl:news.length=ys.length*i.size) (hn1:∀u∈news,u.oneCell'=true) (hnR:∀(k j:Nat) (e a:AV),ys[k]?=some e->e.cells[j]?=some a->∃y,news[k*i.size+j]?=some y/\y.oneCell'=true/\RP F y a) (Bj:∀(k:Nat) (e:AV),ys[k]?=some e->e.cells.length=i.size)
  (HA:KF P w t tx o.type et i z (act.eval x) ys.length news)
  {p:Prop} {r:AV} {h':List aH} (hs:tF σ.h et i.size i.bytes (σ.val Gl (bH s)) ys=some (p,r,h')) (hp:p):Ok1 P Gl B w0 σ act w o r h':=by
 have hes:=h.ev s
 obtain⟨HE,HN,HR,HG⟩:=HA
 have run:∀v w',(Builtin.append_ #[t,tx] o.type #[act.eval s,act.eval x]).run P w=.ok v w'->(execOp act.eval o).run P w=.ok (.value v) w':=by
  intro v w' hr
  unfold execOp
  simp only[ho,resolve,invoke,builtin,Sem.run_bind,Sem.run_pure,Result.andThen_ok,List.map_toArray,bg,List.map_nil,hr]
 have empty:∀(a:Option Addr) (n cap:Nat),ys=[]->act.eval s=.slice a n cap->n<=cap->(execOp act.eval o).run P w=.ok (.value (.slice a n cap)) w:=by
  intro a n cap hy0 hv hle
  refine run _ _ ?_
  rw[hv]
  exact HE (by rw[hy0];rfl) a n cap hle
 have fresh:act.eval s=.slice none 0 0->0 < ys.length->ys.length * i.bytes<=lU->ys.length<=4611686018427387904 ->
   (execOp act.eval o).run P w=.ok (.value (.slice (some ⟨w.heap.size,0,none⟩) ys.length (grownCap w ys.length 0 et))) (w.drew.alloc (.cells (news.toArray++Builtin.zeroCells z.cells (grownCap w ys.length 0 et-ys.length)) et)):=by
  intro hv hpos hb hl
  refine run _ _ ?_
  rw[hv]
  exact HN hpos hb hl
 unfold tF at hs
 refine(fun(q:Ok1 P Gl B w0 σ act w o r h')=>q) ?_
 .skip
  have hdr:Inv Gl F own B w0 σ act w.drew:=h.same rfl rfl rfl rfl
  have hcapge:=grownCap_ge w ys.length 0 et
  have hcells0:=Bo (Rr:=RP F) (zs:=Builtin.zeroCells z.cells (grownCap w ys.length 0 et-ys.length)) (n:=0) (es:=[]) (olds:=[]) rfl rfl (by simp) hnl (λi j e a q=>by simp at q) (λi e q=>by simp at q) hnR Bj
  simp only[fF,Array.empty_append]at hcells0
  split at hs
  .rename_i hv
   rw[hv]at hes
   have hsv:=hes.dK
   obtain⟨rfl,h2⟩:=aP (aI hs)
   obtain⟨rfl,rfl⟩:=aP h2
   obtain⟨p1,p2⟩:=hp
   rcases eD ys.length with hy0|hy0
   .have hy0':ys=[]:=fU hy0
    refine⟨_,_,w,F,own++[⟨none,0,i.size,0⟩],empty none 0 0 hy0' hsv (aS _),.inl rfl,?_,?_⟩
    .subst hy0';exact h.Ea et i.size true h0
    .subst hy0'
     rw[<- h.hl]
     exact .row _ _ _ _ _ _ _ pQ (by simp) ⟨_,_,rfl,by simp,λq=>by simp at q⟩ (λ_=>⟨rfl,by simp,λ_=>⟨_,dD _,by simp⟩⟩) (by first|omega|assumption|(simp;done)|(simp;omega)|(dsimp only;omega))
   .have hcm:=grownCap_le_maxLen w ys.length 0 et (by simp only[maxLen];omega)
    refine⟨_,_,_,F,_,fresh hsv hy0 p1 p2,.inl rfl,hdr.new _ ⟨et,i.size,0,true,ys⟩ (grownCap w ys.length 0 et) h0 rfl hcapge hcm Bj ?_ (λk j e a q q'=>?_),?_⟩
    .simp only[yT,ql,size_zeroCells,hzs,hnl,<- dF]
     congr 1;omega
    .obtain⟨y,a1,a2,a3⟩:=hcells0.2 k j e a q q'
     exact⟨y,a1,a2,a3⟩
    .rw[<- h.hl]
     refine .row _ _ _ _ _ _ _ pQ (by simp) ⟨_,_,rfl,hcapge,λ_=>rfl⟩ (λ_=>⟨rfl,by simp,λ_=>⟨_,dD _,?_⟩⟩) (by first|omega|assumption|(simp;done)|(simp;omega)|(dsimp only;omega))
     simp
  .rename_i id G sz' off len hv
   rw[hv]at hes
   obtain⟨e,he1,hG,hst,hx⟩:=hes.ny
   obtain⟨ob,hob,hO⟩:=h.zo he1
   rw[hob]at hs
   simp only at hs
   split at hs
   .rename_i hc
    obtain⟨hlG,cT,cy,c1,rfl,c3,c4,rfl,c7⟩:=hc
    obtain⟨rfl,h2⟩:=aP (aI hs)
    obtain⟨rfl,rfl⟩:=aP h2
    obtain⟨q1,q2,qe⟩:=hx (by rw[hO.1,c1])
    obtain⟨cp,qc,q3⟩:=qe (.inr rfl)
    simp only[jP,dD]at q3 qc
    have hcap:e.G<=e.cap:=hO.2.2.2.1
    have heG:e.G=G:=by rw[hO.1,c1]
    obtain⟨y0,rfl⟩:=mR.1 cy
    cases hg:e.g with
    |none =>
     have hcap0:e.cap=0:=by have:=hO.2.2.2.2.2.2.2;rw[hg]at this;exact this
     omega
    |some g =>
     rw[hg]at q3
     simp only[bq]at q3
     obtain⟨cur,fr,hblk,hnf,hcsz,hcell⟩:=hO.blk hg (.inl c7)
     rw[c4]at hcsz hcell
     have hcl:=hO.2.2.2.2.2.2.1
     rw[c4]at hcl
     have b2F:news.length=i.size:=by rw[hnl];simp
     have hle1:(len+1)*i.size<=e.cap*i.size:=bM _ (by omega)
     rw[dF,gN]at hle1
     have hfit:len*i.size+news.length<=cur.size:=by rw[b2F,hcsz];exact hle1
     have hr:=HR (by simp) g len cp cur fr (by rw[<- c3];exact hblk) hnf (by simp only[aJ];omega) hfit
     have hr':=run _ _ (by rw[q3];exact hr)
     have hsp:=qQ cur.toList news (len*i.size) (by simpa using hfit)
     generalize hcs':(cur.toList.take (len*i.size)++news++cur.toList.drop (len*i.size+news.length)).toArray=cs' at hr'
     have hat:∀k:Nat,cs'[k]?=if k<len*i.size then cur[k]? else if k<len*i.size+i.size then news[k-len*i.size]? else cur[k]?:=λk=>by
      have:=hsp k
      rw[b2F]at this hcs'
      rw[<- hcs',qP,this]
      simp
     have hsize:cs'.size=cur.size:=by rw[<- hcs'];simp;omega
     refine⟨_,_,_,F,own,hr',.inl rfl,h.set he1 hob hg (by have:=hO.2.1;have:=hO.2.2.1;omega) cs' rfl rfl rfl rfl (by simp) (λk x hk=>?_) (by rw[hsize,hcsz,c4]) (λj x hj=>by rw[c7]at hj;omega) (λk j x a q q'=>?_),?_⟩
     .have hk:(ob.es.set len y0)[k]?=some x:=hk
      rw[dh]at hk
      split at hk
      .split at hk
       .cases hk;have:=Bj 0 y0 rfl;rw[this];exact c4.symm
       .cases hk
      .have:=hcl k x hk;rw[this];exact c4.symm
     .have q2:(ob.es.set len y0)[k]?=some x:=q
      clear q
      rw[c4]
      rw[dh]at q2
      split at q2
      .rename_i hk
       subst hk
       split at q2
       .cases q2
        obtain⟨y,a1,a2,a3⟩:=hnR 0 j y0 a rfl q'
        have hj:j<i.size:=by rw[<- Bj 0 y0 rfl];exact(aj.1 q').1
        refine⟨y,?_,a2,.Ms a3⟩
        rw[hat,if_neg (by omega),if_pos (by omega),uz]
        simpa using a1
       .cases q2
      .rename_i hk
       obtain⟨v,a1,a2,a3⟩:=hcell k j x a q2 q'
       have hj:j<i.size:=by rw[<- hcl k x q2];exact(aj.1 q').1
       refine⟨v,?_,a2,a3⟩
       rw[hat]
       rcases bI k len with hlt|hge
       .have:(k+1)*i.size<=len*i.size:=bM _ hlt
        rw[dF,gN]at this
        rw[if_pos (by omega)];exact a1
       .have:(len+1)*i.size<=k*i.size:=bM _ (by omega)
        rw[dF,gN]at this
        rw[if_neg (by omega),if_neg (by omega)];exact a1
     .refine .row _ _ _ _ _ _ e he1 (by omega) ⟨_,_,rfl,by omega,λ_=>rfl⟩ (λ_=>⟨q1,by omega,λ_=>⟨cp,by omega,by rw[hg];simp⟩⟩) (by have:=hO.2.1;have:=hO.2.2.1;omega)
   split at hs
   .rename_i hc
    obtain⟨c1,rfl,c3,c4,rfl,c6,c7⟩:=hc
    obtain⟨rfl,h2⟩:=aP (aI hs)
    obtain⟨rfl,rfl⟩:=aP h2
    obtain⟨rfl,p1,p2⟩:=hp
    obtain⟨q1,q2,qe⟩:=hx (by rw[hO.1,c1])
    obtain⟨cp,qc,q3⟩:=qe (.inr rfl)
    simp only[jP,dD]at q3 qc
    have b2O:len<=cp:=by obtain⟨_,_,e1,e2,_⟩:=hst;rw[q3]at e1;injection e1 with _ _ e1;omega
    have hcap:e.G<=e.cap:=hO.2.2.2.1
    have heG:e.G=len:=by rw[hO.1,c1]
    have hcl:=hO.2.2.2.2.2.2.1
    have CU:id<own.length:=(aj.1 he1).1
    rcases eD ys.length with hy0|hy0
    .have hy0':ys=[]:=fU hy0
     refine⟨_,_,w,F,own,empty _ _ _ hy0' q3 (by omega),.inl rfl,?_,?_⟩
     .subst hy0'
      simp only[cu]
      have:σ.h.set id { ob with es:=ob.es }=σ.h:=by
       apply gX
       intro k
       rw[dh]
       split
       .rename_i hk;subst hk;split
        .rw[hob]
        .rename_i hn;rw[aX (by omega)]
       .rfl
      rw[this];exact h
     .subst hy0'
      rw[<- q3]
      simpa using hes
    .have hlt:e.G<(⟨some w.heap.size,len+ys.length,e.sz,grownCap w (len+ys.length) cp et⟩:Ent).G:=by simp only;omega
     cases hg:e.g with
     |none =>
      rw[hg]at q3
      have hcap0:e.cap=0:=by have:=hO.2.2.2.2.2.2.2;rw[hg]at this;exact this
      have hl0:len=0:=by omega
      subst hl0
      have hsv:act.eval s=.slice none 0 0:=by rw[q3,show cp=0 by omega];rfl
      have a2r:ob.es=[]:=fU c1
      have hcm:=grownCap_le_maxLen w ys.length 0 et (by simp only[maxLen];omega)
      have hnew:=heap_alloc_new w.drew (.cells (news.toArray++Builtin.zeroCells z.cells (grownCap w ys.length 0 et-ys.length)) et)
      have c0x:ob.fz=0:=by have:=hO.2.2.2.2.2.1;omega
      refine⟨_,_,_,F,own.set id ⟨some w.heap.size,ys.length,i.size,grownCap w ys.length 0 et⟩,fresh hsv hy0 (by simpa using p1) (by omega),.inl rfl,?_,?_⟩
      .refine hdr.upd he1 hob (.inr ⟨by simp only;omega,by have:=hO.2.1;have:=hO.2.2.1;omega,by have:=hO.2.1;have:=hO.2.2.1;simp only;omega⟩) (λa x q=>?_) (λk f g hk hf hg'=>⟨Below.heap_alloc _ _ _ (hdr.DY hf hg'),?_⟩) ?_ (hdr.below.alloc (bF h.room h.below.size) _) (λg q=>?_) (λg hg' _=>Below.heap_alloc _ _ _ hg') (λg q=>by cases q;exact .inr (aS _))
       .rw[World.cell?_alloc_lt _ _ _ (hdr.Ah q)];exact hdr.sub a x q
       .intro q;cases q;have:=h.DY hf hg';omega
       .refine⟨by simp[a2r],by simp[c4],by simp[c4,h0],hcapge,⟨hcm,λq r=>by have q:ob.pr=false:=q;have r:rz ob.ty=false:=r;rw[c3]at r;rcases c6 with c6|c6;(rw[c6]at q;cases q);(rw[c6]at r;cases r)⟩,by simp[c0x],λk y hy=>?_,?_⟩
        .simp only[a2r,fF]at hy;rw[c4];exact Bj k y hy
        .refine⟨_,⟨_,by rw[c3];exact hnew,.inl (Ug _)⟩,?_,λk j y a q q'=>?_,λj _=>?_⟩
         .simp only[yT,ql,size_zeroCells,hzs,hnl,<- dF,c4]
          congr 1;omega
         .simp only[a2r,fF]at q
          obtain⟨y',a1,a2,a3⟩:=hcells0.2 k j y a q q'
          exact⟨y',by rw[c4];exact a1,a2,.Ms a3⟩
         .rcases hF:F ⟨w.heap.size,j,none⟩with _|y'
          .rfl
          .have:=h.Ah hF;simp at this
       .cases q;exact bF h.room h.below.size
      .simp only[dD]
       refine .row _ _ _ _ _ _ ⟨some w.heap.size,ys.length,i.size,grownCap w ys.length 0 et⟩ (by rw[aK CU]) (by simp) ⟨_,_,rfl,hcapge,λ_=>rfl⟩ (λ_=>⟨rfl,by simp,λ_=>⟨_,dD _,by simp⟩⟩) (by first|omega|assumption|(simp;done)|(simp;omega)|(dsimp only;omega))
     |some g =>
      rw[hg]at q3
      simp only[bq]at q3
      obtain⟨cur,fr,hblk,hnf,hcsz,hcell⟩:=hO.blk hg (.inl c7)
      rw[c4]at hcsz hcell
      have c1q:len*i.size<=cur.size:=by rw[hcsz];exact bM _ (by omega)
      have FC:(cur.toList.take (len*i.size)).length=len*i.size:=by simp;omega
      have b2R:∀(k j:Nat) (y a:AV),ob.es[k]?=some y->y.cells[j]?=some a->∃v,(cur.toList.take (len*i.size))[k*i.size+j]?=some v/\v.oneCell'=true/\RC F own ob.pr v a:=λk j y a q q'=>by
       obtain⟨v,a1,a2,a3⟩:=hcell k j y a q q'
       have hk:k<len:=by rw[<- c1];exact(aj.1 q).1
       have hj:j<i.size:=by have:=hcl k y q;rw[c4]at this;rw[<- this];exact(aj.1 q').1
       have hlt':k*i.size+j<len*i.size:=by
        have:(k+1)*i.size<=len*i.size:=bM _ hk
        rw[dF,gN]at this;omega
       refine⟨v,by rw[bU,if_pos hlt'];simpa using a1,a2,a3⟩
      have b2P:∀(k:Nat) (y:AV),ob.es[k]?=some y->y.cells.length=i.size:=λk y q=>by rw[<- c4];exact hcl k y q
      .skip
       by_cases hroom:len+ys.length<=cp
       .have hfit:len*i.size+news.length<=cur.size:=by rw[hnl,hcsz,<- dF];exact bM _ (bF hroom (iY qc))
        have hr:=HR hy0 g len cp cur fr (by rw[<- c3];exact hblk) hnf hroom hfit
        have hr':=run _ _ (by rw[q3];exact hr)
        generalize hcs':(cur.toList.take (len*i.size)++news++cur.toList.drop (len*i.size+news.length)).toArray=cs' at hr'
        have hcs2:cs'=(cur.toList.take (len*i.size)).toArray++news.toArray++(cur.toList.drop (len*i.size+news.length)).toArray:=by rw[<- hcs'];simp
        have hcells:=Bo (Rr:=RC F own ob.pr) (zs:=(cur.toList.drop (len*i.size+news.length)).toArray) (n:=len) (es:=ob.es) c1 rfl FC hnl b2R b2P (λk j e a q q'=>by obtain⟨y,a1,a2,a3⟩:=hnR k j e a q q';exact⟨y,a1,a2,.Ms a3⟩) Bj
        rw[<- hcs2]at hcells
        refine⟨_,_,_,F,own.set id ⟨some g,len+ys.length,i.size,e.cap⟩,hr',.inl rfl,?_,?_⟩
        .refine h.upd he1 hob (.inr ⟨by simp only;omega,by have:=hO.2.1;have:=hO.2.2.1;omega,by have:=hO.2.1;have:=hO.2.2.1;simp only;omega⟩) (λa x q=>?_) (λk f g' hk hf hg'=>?_) ?_ ?_ (λg' q=>?_) (λk _ hk=>setRow_other w g k cs' λq=>hk id e he1 (by rw[hg,q])) (λg' q=>by cases q;exact .inl hg)
         .have hc:=h.sub a x q
          by_cases hab:a.block=g
          .obtain⟨b,off,spot⟩:=a
           simp only at hab
           subst hab
           cases spot with
           |some sp=>simp[World.cell?,hblk]at hc
           |none =>
            rw[cell_setRow_same w b off cur cs' ob.ty fr hblk]
            rcases bI off (ob.fz*ob.sz) with hlt'|hge
            .have c1C:ob.fz*ob.sz<=len*i.size:=by rw[c4];exact bM _ (by have:=hO.2.2.2.2.2.1;omega)
             rw[cell_of_row w b off cur ob.ty fr hblk]at hc
             rw[<- hcs',qP,qQ _ _ _ (by simpa using hfit),if_pos (by omega)]
             simpa using hc
            .rw[hO.fz hg hge]at q;cases q
          .rw[World.cell?_of_block (w:=w) (setRow_other w g a.block cs' hab)];exact hc
         .have hne:g'≠g:=λq=>hk (h.inj k id f e g' hf he1 hg' (by rw[q];exact hg))
          exact⟨setRow_other w g g' cs' hne,λq=>hne (by cases q;rfl)⟩
         .refine⟨by simp[c1],by simp[c4],by simp[c4,h0],bF hroom (iY qc),⟨hO.2.2.2.2.1.1,λq r=>by have q:ob.pr=false:=q;have r:rz ob.ty=false:=r;rw[c3]at r;rcases c6 with c6|c6;(rw[c6]at q;cases q);(rw[c6]at r;cases r)⟩,by have:=hO.2.2.2.2.2.1;simp;omega,λk y hy=>by rw[c4];exact hcells.1 k y hy,?_⟩
          refine⟨cs',⟨fr,setRow_heap w g cur cs' ob.ty fr hblk,.inl ?_⟩,?_,λk j y a q q'=>?_,λj hj=>?_⟩
          ·have:cs'.size=cur.size:=by
            rw[<- hcs']
            simp
            omega
           rw[this];exact hnf
          .rw[<- hcs',c4,<- hcsz]
           simp
           omega
          .obtain⟨v,a1,a2,a3⟩:=hcells.2 k j y a q q'
           exact⟨v,by rw[c4];exact a1,a2,a3.mono (λ_ _ r=>r) (Le.set he1 (.inr ⟨by simp only;omega,by have:=hO.2.1;have:=hO.2.2.1;omega,by have:=hO.2.1;have:=hO.2.2.1;simp only;omega⟩))⟩
          .exact hO.fz hg hj
         .refine h.below.trans ⟨rfl,rfl,rfl,by simp,λk hk=>setRow_other w g k cs' (λe'=>?_)⟩
          subst e'
          have:=h.base id e k he1 hg
          omega
         .cases q;exact h.base id e g he1 hg
        .refine .row _ _ _ _ _ _ ⟨some g,len+ys.length,i.size,e.cap⟩ (by rw[aK CU]) (by simp) ⟨_,_,rfl,hroom,λ_=>rfl⟩ (λ_=>⟨rfl,by simp,λ_=>⟨_,by simpa using qc,by simp⟩⟩) (by have:=hO.2.1;have:=hO.2.2.1;first|omega|(simp only;omega))
       ·have hr:=HG hy0 g len cp (cur.toList.take (len * i.size)) FC (fun j v q=>by
         rw[bU]at q
         split at q
         .rw[Addr.add_lit,dD,cell_of_row w g j cur ob.ty fr hblk];simpa using q
         .cases q) (by omega) (by omega) (growslice_fits (by omega) (by unfold lU at p1;exact p1))
        have hr':=run _ _ (by rw[q3];exact hr)
        have K9:=grownCap_ge w (len+ys.length) cp et
        have hcm:=grownCap_le_maxLen w (len+ys.length) cp et (by simp only[maxLen];omega)
        have hcells:=Bo (Rr:=RC F own ob.pr) (zs:=Builtin.zeroCells z.cells (grownCap w (len+ys.length) cp et-(len+ys.length))) (n:=len) (es:=ob.es) c1 rfl FC hnl b2R b2P (λk j e a q q'=>by obtain⟨y,a1,a2,a3⟩:=hnR k j e a q q';exact⟨y,a1,a2,.Ms a3⟩) Bj
        generalize hcs':(cur.toList.take (len*i.size)).toArray++news.toArray++Builtin.zeroCells z.cells (grownCap w (len+ys.length) cp et-(len+ys.length))=cs' at hr' hcells
        have hnew:=heap_alloc_new w.drew (.cells cs' et)
        refine⟨_,_,_,F,own.set id ⟨some w.heap.size,len+ys.length,i.size,grownCap w (len+ys.length) cp et⟩,hr',.inl rfl,?_,?_⟩
        .refine hdr.upd he1 hob (.inr ⟨by simp only;omega,by have:=hO.2.1;have:=hO.2.2.1;omega,by have:=hO.2.1;have:=hO.2.2.1;simp only;omega⟩) (λa x q=>?_) (λk f g' hk hf hg'=>⟨Below.heap_alloc _ _ _ (hdr.DY hf hg'),?_⟩) ?_ (hdr.below.alloc (bF h.room h.below.size) _) (λg' q=>?_) (λg hg' _=>Below.heap_alloc _ _ _ hg') (λg q=>by cases q;exact .inr (aS _))
         .rw[World.cell?_alloc_lt _ _ _ (hdr.Ah q)];exact hdr.sub a x q
         .intro q;cases q;have:=h.DY hf hg';omega
         .refine⟨by simp[c1],by simp[c4],by simp[c4,h0],K9,⟨hcm,λq r=>by have q:ob.pr=false:=q;have r:rz ob.ty=false:=r;rw[c3]at r;rcases c6 with c6|c6;(rw[c6]at q;cases q);(rw[c6]at r;cases r)⟩,by have:=hO.2.2.2.2.2.1;simp;omega,λk y hy=>by rw[c4];exact hcells.1 k y hy,?_⟩
          refine⟨cs',⟨_,by rw[c3];exact hnew,.inl (Ug _)⟩,?_,λk j y a q q'=>?_,λj _=>?_⟩
          .rw[<- hcs',c4]
           simp only[yT,ql,size_zeroCells,hzs,hnl,FC,<- dF]
           congr 1;omega
          .obtain⟨v,a1,a2,a3⟩:=hcells.2 k j y a q q'
           exact⟨v,by rw[c4];exact a1,a2,a3.mono (λ_ _ r=>r) (Le.set he1 (.inr ⟨by simp only;omega,by have:=hO.2.1;have:=hO.2.2.1;omega,by have:=hO.2.1;have:=hO.2.2.1;simp only;omega⟩))⟩
          .rcases hF:F ⟨w.heap.size,j,none⟩with _|y'
           .rfl
           .have:=h.Ah hF;simp at this
         .cases q;exact bF h.room h.below.size
        .refine .row _ _ _ _ _ _ ⟨some w.heap.size,len+ys.length,i.size,grownCap w (len+ys.length) cp et⟩ (by rw[aK CU]) (by simp) ⟨_,_,rfl,K9,λ_=>rfl⟩ (λ_=>⟨rfl,by simp,λ_=>⟨_,dD _,by simp⟩⟩) (by have:=hO.2.1;have:=hO.2.2.1;first|omega|(simp only;omega))
   .cases hs
  .cases hs
theorem b1v(h:Inv Gl F own B w0 σ act w){o:Oper}{t et:TypeId}{s x:Operand}(ho:o.op=.call { callee:=.builtin .append,args:=#[s,x],argTypes:=#[t,t] }){i:TypeInfo}{z:Value}(ht:P.underlying t=some (.slice et))(hi:P.info? et=some i)(hz:i.zero=some z)(hzs:z.cells.size=i.size)(h0:0<i.size)
  {p:Prop} {r:AV} {h':List aH} (hs:step Gl σ (.app et i.size i.bytes (bH s) (bH x))=some (p,r,h')) (hp:p):Ok1 P Gl B w0 σ act w o r h':=by
 have hex:=h.ev x
 simp only[step]at hs
 cases hy:iC σ.h i.size (σ.val Gl (bH x)) with
 |none=>rw[hy]at hs;cases hs
 |some ys =>
  rw[hy]at hs
  obtain⟨⟨A,c,news,ex,hA,hAc,hnl,zU,hn1,hnR⟩,Bj⟩:=KJ h hex h0 hy
  exact QD h ho hzs h0 hnl hn1 hnR Bj (by rw[ex];exact LH ht hi hz A _ c news (λq=>by have:=hA q;rw[this];rfl) hnl zU hn1) hs hp
theorem a6f(h:Inv Gl F own B w0 σ act w){o:Oper}{t u et:TypeId}{s x:Operand}(ho:o.op=.call { callee:=.builtin .append,args:=#[s,x],argTypes:=#[t,u] }){i:TypeInfo}{z:Value}(ht:P.underlying t=some (.slice et))(hu:P.underlying u=some .string)(hi:P.info? et=some i)(hz:i.zero=some z)(hzs:z.cells.size=i.size)(h1:i.size=1)
  {p:Prop} {r:AV} {h':List aH} (hs:step Gl σ (.apps et i.bytes (bH s) (bH x))=some (p,r,h')) (hp:p):Ok1 P Gl B w0 σ act w o r h':=by
 have hex:=h.ev x
 simp only[step]at hs
 split at hs
 .rename_i b hv
  rw[hv]at hex
  have ex:=hex.dK
  have hl:(jJ b).length=b.size:=by simp[jJ]
  have hat:∀(k:Nat) (e:AV),(jJ b)[k]?=some e->∃c,b.data.toList[k]?=some c/\e=.v (.int .u8 c.toNat):=λk e q=>by
   unfold jJ at q
   rw[aT]at q
   cases hc:b.data.toList[k]? with
   |none=>rw[hc]at q;cases q
   |some c=>rw[hc]at q;cases q;exact⟨c,rfl,rfl⟩
  refine QD h ho (ys:=jJ b) (news:=Lib.strCells b) hzs (by omega) (by rw[Lib.strCells_length,hl,h1,Nat.mul_one]) (Lib.strCells_oneCell b) (λk j e a q q'=>?_) (λk e q=>?_) (by rw[ex,hl];exact Ku ht hu hi hz h1 b) (by rw[h1];exact hs) hp
  .obtain⟨c,hc,rfl⟩:=hat k e q
   match j,q' with
   |0,q' =>
    cases q'
    refine⟨.int .u8 c.toNat,?_,rfl,.v _⟩
    rw[h1,Nat.mul_one,jQ]
    simp only[Lib.strCells,aT,hc];rfl
   |j+1,q'=>simp[AV.cells]at q'
  .obtain⟨c,hc,rfl⟩:=hat k e q
   rw[h1];rfl
 .cases hs
end
section
variable{P:Program}{Gl:Nat->Option (List AV)}{F:Addr->Option Value}{own:List Ent}{B:Nat}{w0:W0}{σ:St}{act:Act}{w w':World}
def Kept(F:Addr->Option Value)(own:List Ent)(h:List aH)(w:World)(id:Nat):Prop :=
 ∀ob e g,h[id]?=some ob->own[id]?=some e->e.g=some g->∀j,j<ob.es.length*ob.sz->F ⟨g,j,none⟩=w.cell? ⟨g,j,none⟩
open Classical in
theorem Inv.RO(h:Inv Gl F own B w0 σ act w){id:Nat}{ob:aH}(hob:σ.h[id]?=some ob) :
  ∃F',(∀ad y,F ad=some y->F' ad=some y)/\Inv Gl F' own B w0 ⟨σ.t,σ.h.set id { ob with fz:=ob.es.length }⟩ act w/\Kept F' own σ.h w id:=by
 obtain⟨e,he,hO⟩:=h.xE hob
 have CU:id<σ.h.length:=(aj.1 hob).1
 let F':Addr->Option Value:=λad=>if e.g=some ad.block/\ad.spot=none/\ad.off<ob.es.length*ob.sz then w.cell? ad else F ad
 have hF:∀ad y,F ad=some y->F' ad=some y:=λad y q=>by
  show(if _ then _ else _)=_
  split
  .exact h.sub ad y q
  .exact q
 refine⟨F',hF,?_,?_⟩
 ·refine h.turn hF (Le.refl _) (fun a x q=>?_) (by simp [h.hl]) (fun k f o' p q=>?_) h.inj h.below h.base (fun ad y q=>?_) (hpF:=fun g j y q=>by
   have q':(if e.g=some g/\(none:Option _)=none/\j<ob.es.length*ob.sz then w.cell? ⟨g,j,none⟩ else F ⟨g,j,none⟩)=some y:=q
   split at q'
   .rename_i c;exact .inr (.inl λn=>n id e he c.1)
   .exact .inl q')
  .have q':(if _ then w.cell? a else F a)=some x:=q
   split at q'
   .exact q'
   .exact h.sub a x q'
  .have q':(σ.h.set id { ob with fz:=ob.es.length })[k]?=some o':=q
   by_cases hk:k=id
   .subst hk
    rw[he]at p;cases p
    rw[aK CU]at q';cases q'
    have hO:=hO
    obtain⟨k1,k2,k3,k4,k5,k6,k7,k8⟩:=hO
    refine⟨k1,k2,k3,k4,k5,aS _,k7,?_⟩
    cases hg:e.g with
    |none=>rw[hg]at k8;exact k8
    |some g =>
     rw[hg]at k8
     obtain⟨cs,a1,a2,a3,a4⟩:=k8
     obtain⟨fr,a1,af⟩:=a1
     refine⟨cs,⟨fr,a1,af.imp id (λq=>⟨rfl,q.2⟩)⟩,a2,λi j x a r s=>?_,λj hj=>?_⟩
     .obtain⟨y,b1,b2,b3⟩:=a3 i j x a r s
      exact⟨y,b1,b2,b3.mono hF (Le.refl _)⟩
     .show(if _ then _ else _)=_
      rw[if_neg (λc=>by have:=c.2.2;simp only at this hj;omega)]
      exact a4 j (bF (bM _ k6) hj)
   .rw[aC (λe=>hk e.symm)]at q'
    have hO':=h.objs k f o' p q'
    refine hO'.mono hF (Le.refl _) (λg hg=>rfl) (λg j hg hj=>?_)
    show(if _ then _ else _)=_
    rw[if_neg (λc=>hk (h.inj k id f e g p he hg c.1))]
    exact hO'.fz hg hj
  .have q':(if _ then w.cell? ad else F ad)=some y:=q
   split at q'
   .rename_i c;exact .inr (h.base id e _ he c.1)
   .exact .inl q'
 .intro ob' e' g p q r j hj
  rw[hob]at p;cases p
  rw[he]at q;cases q
  show(if _ then _ else _)=_
  rw[if_pos ⟨r,rfl,hj⟩]
theorem Vi(h:List aH)(ids:List Nat)(k:Nat):∃f:aH->aH,(∀o,(f o).es=o.es/\(f o).sz=o.sz/\(f o).ty=o.ty/\(f o).pr=o.pr)/\(freeze h ids)[k]?=(h[k]?).map f:=by
 induction ids generalizing h with
 |nil=>exact⟨id,λo=>⟨rfl,rfl,rfl,rfl⟩,by simp[freeze]⟩
 |cons i ids ih =>
  unfold freeze
  simp only[eX]
  cases hi:h[i]? with
  |none=>exact ih h
  |some o =>
   simp only
   obtain⟨f,hf,hg⟩:=ih (h.set i { o with fz:=o.es.length })
   unfold freeze at hg
   rw[hg,dh]
   by_cases hik:i=k
   .subst hik
    have hlt:=(aj.1 hi).1
    rw[if_pos rfl,if_pos hlt,hi]
    exact⟨λo=>f { o with fz:=o.es.length },λo=>hf _,rfl⟩
   .rw[if_neg hik]
    exact⟨f,hf,rfl⟩
theorem Inv.um(h:Inv Gl F own B w0 σ act w)(ids:List Nat) :
  ∃F',(∀ad y,F ad=some y->F' ad=some y)/\Inv Gl F' own B w0 ⟨σ.t,freeze σ.h ids⟩ act w/\∀id∈ids,Kept F' own σ.h w id:=by
 induction ids generalizing F σ with
 |nil=>exact⟨F,λ_ _ q=>q,h,λid q=>by simp at q⟩
 |cons i ids ih =>
  cases hi:σ.h[i]? with
  |none =>
   obtain⟨F',a1,a2,a3⟩:=ih h
   refine⟨F',a1,?_,λid q=>?_⟩
   .have:freeze σ.h (i::ids)=freeze σ.h ids:=by unfold freeze;simp only[eX,hi]
    rw[this];exact a2
   .rcases bD.1 q with rfl|q
    .intro ob e g p;rw[hi]at p;cases p
    .exact a3 id q
  |some o =>
   obtain⟨F1,b1,b2,b3⟩:=h.RO hi
   obtain⟨F',a1,a2,a3⟩:=ih b2
   refine⟨F',λad y q=>a1 _ _ (b1 ad y q),?_,λid q=>?_⟩
   .have:freeze σ.h (i::ids)=freeze (σ.h.set i { o with fz:=o.es.length }) ids:=by unfold freeze;simp only[eX,hi]
    rw[this];exact a2
   .rcases bD.1 q with rfl|q
    .intro ob e g p p2 p3 j hj
     have:=b3 ob e g p p2 p3 j hj
     cases hc:w.cell? ⟨g,j,none⟩with
     |none =>
      rw[hc]at this
      cases hF':F' ⟨g,j,none⟩with
      |none=>rfl
      |some y=>have:=a2.sub _ _ hF';rw[hc]at this;cases this
     |some y=>rw[hc]at this;exact a1 _ _ this
    .intro ob e g p p2 p3 j hj
     have hlt:=(aj.1 hi).1
     by_cases hk:i=id
     .subst hk
      rw[hi]at p;cases p
      exact a3 i q { o with fz:=o.es.length } e g (by show(σ.h.set i _)[i]?=_;rw[aK hlt]) p2 p3 j hj
     .exact a3 id q ob e g (by show(σ.h.set i _)[id]?=_;rw[aC hk];exact p) p2 p3 j hj
theorem a1q(h:Inv Gl F own B w0 σ act w){F':Addr->Option Value}(hF:∀ad y,F ad=some y->F' ad=some y){x:Value}{id G sz off len:Nat}(hR:R F own x (.row id G sz off len))(hk:Kept F' own σ.h w id){ob:aH}(hob:σ.h[id]?=some ob)
  (c1:ob.es.length=G) (c2:ob.sz=sz) (c3:ob.pr=true):RP F' x (.list sz ((ob.es.drop off).take len)):=by
 obtain⟨e,he1,hG,hst,hx⟩:=hR.ny
 obtain⟨e',he2,hO⟩:=h.xE hob
 rw[he1]at he2;cases he2
 obtain⟨q1,q2,qe⟩:=hx (by rw[hO.1,c1])
 by_cases hex:0<len\/off=0
 case neg =>
  obtain⟨a,cap,hx0,_,ha'⟩:=hst
  have hl0:len=0:=by omega
  subst hl0
  have:=ha' (by omega)
  cases a with
  |none=>cases this
  |some ad =>
   rw[hx0,qK]
   exact .list ad 0 cap sz [] (λ_=>undef) rfl (bN _) (λi e q=>by simp at q) (λi j e a q=>by simp at q) (λi j e a q=>by simp at q)
 obtain⟨cp,qc,q3⟩:=qe hex
 have b2O:len<=cp:=by obtain⟨_,_,e1,e2,_⟩:=hst;rw[q3]at e1;injection e1 with _ _ e1;omega
 have hcl:=hO.2.2.2.2.2.2.1
 have hcap:e.G<=e.cap:=hO.2.2.2.1
 have hsp:=hO.2.2.1
 subst c2
 cases hg:e.g with
 |none =>
  have hcap0:e.cap=0:=by have:=hO.2.2.2.2.2.2.2;rw[hg]at this;exact this
  have hl0:len=0:=by omega
  subst hl0
  rw[q3,hg,show cp=0 by omega]
  simp
  exact .nil _
 |some g =>
  obtain⟨cs,fr,hblk,_,hcsz,hcell⟩:=hO.EB hg
  rw[q3,hg]
  have hel:∀(i:Nat) (y:AV),((ob.es.drop off).take len)[i]?=some y->i<len/\ob.es[off+i]?=some y:=λi y hy=>by
   rw[bU]at hy
   split at hy
   .rw[fT]at hy;exact⟨by assumption,hy⟩
   .cases hy
  have key:∀(i j:Nat) (y a:AV),((ob.es.drop off).take len)[i]?=some y->y.cells[j]?=some a->∃v,cs[off*ob.sz+(i*ob.sz+j)]?=some v/\v.oneCell'=true/\RP F v a/\F' ⟨g,off*ob.sz+(i*ob.sz+j),none⟩=some v:=λi j y a p q=>by
   obtain⟨hi,p'⟩:=hel i y p
   obtain⟨v,a1,a2,a3⟩:=hcell _ j y a p' q
   rw[dF,gG]at a1
   have hj:j<ob.sz:=by rw[<- hcl _ y p'];exact(aj.1 q).1
   have hlt:off*ob.sz+(i*ob.sz+j)<ob.es.length*ob.sz:=by
    have:(off+i+1)*ob.sz<=ob.es.length*ob.sz:=bM _ (by omega)
    rw[dF,dF,gN]at this;omega
   refine⟨v,a1,a2,?_,?_⟩
   .unfold RC at a3;rw[if_pos c3]at a3;exact a3
   .rw[hk ob e g hob he1 hg _ hlt,cell_of_row w g _ cs ob.ty fr hblk];exact a1
  refine .list ⟨g,off*ob.sz,none⟩ _ _ _ _ (λk=>(cs[off*ob.sz+k]?).getD undef) (by simp;omega) (by omega) (λi y p=>hcl _ y (hel i y p).2) (λi j y a p q=>?_) (λi j y a p q=>?_)
  .obtain⟨v,a1,a2,a3,a4⟩:=key i j y a p q
   rw[Addr.add_lit,a1]
   exact⟨a4,a2⟩
  .obtain⟨v,a1,a2,a3,a4⟩:=key i j y a p q
   rw[a1]
   exact a3.mono hF
theorem FR(h:Inv Gl F own B w0 σ act w){F':Addr->Option Value}(hF:∀ad y,F ad=some y->F' ad=some y){x:Value}{a b:AV}(hR:R F own x a)(hk:jY σ.h a=some b)(hkp:∀id∈bZ a,Kept F' own σ.h w id):RP F' x b/\x.oneCell'=true/\b.cells=[b]:=by
 cases a with
 |any=>cases hk
 |v y =>
  have:=hR.dK
  subst this
  have hk':(if x.oneCell' then some (AV.v x) else none)=some b:=hk
  split at hk'
  .rename_i h1;cases hk';exact⟨.v _,h1,rfl⟩
  .cases hk'
 |list sz xs =>
  cases hk
  have hq:=hR.jG
  refine⟨hq.mono hF,?_,rfl⟩
  cases hq<;>rfl
 |iF cs =>
  cases hk
  have hq:=hR.pU
  refine⟨hq.mono hF,?_,rfl⟩
  cases hq;rfl
 |row id G sz off len =>
  simp only[jY]at hk
  cases ho:σ.h[id]? with
  |none=>rw[ho]at hk;cases hk
  |some ob =>
   rw[ho]at hk
   simp only at hk
   split at hk
   .rename_i hc
    cases hk
    obtain⟨_,_,_,⟨_,_,hx,_⟩,_⟩:=hR.ny
    exact⟨a1q h hF hR (hkp id (by simp[bZ])) ho hc.1 hc.2.1 hc.2.2,by rw[hx];rfl,rfl⟩
   .cases hk
 |ptr id G i off=>cases hk
 |agg cs=>cases hk
 |tup cs=>cases hk
theorem R3(h:Inv Gl F own B w0 σ act w){F':Addr->Option Value}(hF:∀ad y,F ad=some y->F' ad=some y):∀(cs ds:List AV),jK σ.h cs=some ds->(∀id∈cs.flatMap bZ,Kept F' own σ.h w id)->
  cs.length=ds.length/\∀(j:Nat) (x:Value) (a b:AV),cs[j]?=some a->ds[j]?=some b->R F own x a->RP F' x b/\x.oneCell'=true/\b.cells=[b]:=by
 intro cs
 induction cs with
 |nil=>intro ds hk _;cases hk;exact⟨rfl,λj x a b q=>by simp at q⟩
 |cons c cs ih =>
  intro ds hk hkp
  unfold jK at hk
  cases h1:jY σ.h c with
  |none=>rw[h1]at hk;cases hk
  |some b =>
   cases h2:jK σ.h cs with
   |none=>rw[h1,h2]at hk;cases hk
   |some m =>
    rw[h1,h2]at hk
    cases hk
    obtain⟨l1,l2⟩:=ih m h2 (λid q=>hkp id (by simp only[dw,aG];exact .inr q))
    refine⟨by simp[l1],λj x a b' p q hR=>?_⟩
    cases j with
    |zero =>
     simp at p q
     subst p q
     exact FR h hF hR h1 (λid q=>hkp id (by simp only[dw,aG];exact .inl q))
    |succ j=>simp at p q;exact l2 j x a b' p q hR
theorem nQ(h:Inv Gl F own B w0 σ act w){F':Addr->Option Value}(hF:∀ad y,F ad=some y->F' ad=some y){x:Value}{a b:AV}(hR:R F own x a)(hk:gW σ.h a=some b)(hkp:∀id∈dU a,Kept F' own σ.h w id) :
  RP F' x b/\x.cells.size=b.cells.length/\(∀(j:Nat) (y:Value) (c:AV),x.cells[j]?=some y->b.cells[j]?=some c->y.oneCell'=true/\RP F' y c):=by
 by_cases ha:∃cs,a=.agg cs
 .obtain⟨cs,rfl⟩:=ha
  have hk':(jK σ.h cs).map AV.agg=some b:=hk
  cases hl:jK σ.h cs with
  |none=>rw[hl]at hk';cases hk'
  |some ds =>
   rw[hl]at hk'
   cases hk'
   obtain⟨xs,rfl,e1,e2,e3⟩:=hR.iX
   obtain⟨l1,l2⟩:=R3 h hF cs ds hl hkp
   have key:∀(j:Nat) (y:Value) (c:AV),xs[j]?=some y->ds[j]?=some c->y.oneCell'=true/\RP F' y c:=λj y c p q=>by
    have hj:j<cs.length:=by rw[l1];exact(aj.1 q).1
    have:=l2 j y cs[j] c (ah hj) q (e3 j y _ p (ah hj))
    exact⟨this.2.1,this.1⟩
   exact⟨.agg xs ds (by omega) e2 (λj y c p q=>(key j y c p q).2),by show xs.size=ds.length;omega,key⟩
 .have hk':jY σ.h a=some b:=by cases a<;>first|exact hk|exact absurd ⟨_,rfl⟩ ha
  have hr:dU a=bZ a:=by cases a<;>first|rfl|exact absurd ⟨_,rfl⟩ ha
  obtain⟨q1,q2,q3⟩:=FR h hF hR hk' (by rw[<- hr];exact hkp)
  have e1:x.cells=#[x]:=by cases x<;>simp_all [Value.cells,Value.oneCell']
  rw[e1,q3]
  refine⟨q1,rfl,λj y c p q=>?_⟩
  have:j=0:=by
   rcases eD j with h0|h0
   .exact h0
   .rw[aX (by simp;omega)]at q;cases q
  subst this
  simp at p q
  subst p q
  exact⟨q2,q1⟩
theorem wD(h:Inv Gl F own B w0 σ act w){F':Addr->Option Value}(hF:∀ad y,F ad=some y->F' ad=some y):∀(cs ds:List AV),dV σ.h cs=some ds->(∀id∈cs.flatMap dU,Kept F' own σ.h w id)->
  cs.length=ds.length/\∀(j:Nat) (x:Value) (a b:AV),cs[j]?=some a->ds[j]?=some b->R F own x a->RP F' x b/\x.cells.size=b.cells.length/\(∀(j:Nat) (y:Value) (c:AV),x.cells[j]?=some y->b.cells[j]?=some c->y.oneCell'=true/\RP F' y c):=by
 intro cs
 induction cs with
 |nil=>intro ds hk _;cases hk;exact⟨rfl,λj x a b q=>by simp at q⟩
 |cons c cs ih =>
  intro ds hk hkp
  unfold dV at hk
  cases h1:gW σ.h c with
  |none=>rw[h1]at hk;cases hk
  |some b =>
   cases h2:dV σ.h cs with
   |none=>rw[h1,h2]at hk;cases hk
   |some m =>
    rw[h1,h2]at hk
    cases hk
    obtain⟨l1,l2⟩:=ih m h2 (λid q=>hkp id (by simp only[dw,aG];exact .inr q))
    refine⟨by simp[l1],λj x a b' p q hR=>?_⟩
    cases j with
    |zero =>
     simp at p q
     subst p q
     exact nQ h hF hR h1 (λid q=>hkp id (by simp only[dw,aG];exact .inl q))
    |succ j=>simp at p q;exact l2 j x a b' p q hR
theorem a9y(vs:List Value):∀(k off:Nat) (cs:Array Value),off+k+vs.length<=cs.size->
  ((vs.zipIdx k).foldl (fun(cs:Array Value) (p:Value×Nat)=>cs.setIfInBounds (off+p.2) p.1) cs)=(cs.toList.take (off+k)++vs++cs.toList.drop (off+k+vs.length)).toArray:=by
 induction vs with
 |nil=>intro k off cs _;simp
 |cons v vs ih =>
  intro k off cs hl
  simp only[aL]at hl
  rw[Ad,eX,ih (k+1) off _ (by simp;omega)]
  congr 1
  apply gX
  intro j
  have e1:(cs.setIfInBounds (off+k) v).toList=cs.toList.set (off+k) v:=by simp
  simp only[e1]
  rw[qQ _ _ _ (by simp;omega),qQ _ _ _ (by simp;omega)]
  simp only[aL]
  by_cases h1:j<off+k
  .rw[if_pos (by omega),if_pos h1,aC (by omega)]
  .rw[if_neg h1]
   by_cases h2:j=off+k
   .subst h2
    rw[if_pos (by omega),if_pos (by omega),aK (by simp;omega)]
    simp
   .rw[if_neg (by omega)]
    by_cases h3:j<off+(k+1)+vs.length
    .rw[if_pos h3,if_pos (by omega)]
     rw[show j-(off+k)=(j-(off+(k+1)))+1 from by omega,List.getElem?_cons_succ]
    .rw[if_neg h3,if_neg (by omega),aC (by omega)]
theorem Oe(place:Nat->Option (Nat×Nat))(cs:Array Value)(i off sz:Nat)(v:Value)(rest:List (Nat×Value))(hp:place i=some (off,sz))(hv:v.cells.size=sz)(hl:off+sz<=cs.size) :
  Instr.fill place cs ((i,v)::rest)=Instr.fill place (cs.toList.take off++v.cells.toList++cs.toList.drop (off+sz)).toArray rest:=by
 simp only[Instr.fill,hp]
 rw[if_neg (by simp;omega)]
 congr 1
 have:=a9y v.cells.toList 0 off cs (by simp;omega)
 simp only[jQ,mF,hv]at this
 rw[<- this]
 rw[<- Array.foldl_toList]
 simp
theorem Vj(h:Inv Gl F own B w0 σ act w)(place:Nat->Option (Nat×Nat)):∀(ps:List (Nat×Operand)) (qs:List (Nat×Nat×Opd)) (cs:Array Value) (as bs:List AV),
  ps.length=qs.length->(∀(k:Nat) (p:Nat×Operand) (q:Nat×Nat×Opd),ps[k]?=some p->qs[k]?=some q->place p.1=some (q.1,q.2.1)/\q.2.2=bH p.2)->
  R F own (.agg cs) (.agg as)->l6 Gl σ as qs=some bs->∃ds,Instr.fill place cs (ps.map λp=>(p.1,act.eval p.2))=some ds/\R F own (.agg ds) (.agg bs):=by
 intro ps
 induction ps with
 |nil =>
  intro qs cs as bs hl _ hR hb
  have:qs=[]:=fU (by simpa using hl.symm)
  subst this
  cases hb
  exact⟨cs,rfl,hR⟩
 |cons p ps ih =>
  intro qs cs as bs hl hpq hR hb
  cases qs with
  |nil=>simp at hl
  |cons q qs =>
   obtain⟨off,sz,x⟩:=q
   obtain⟨hp,hx⟩:=hpq 0 p (off,sz,x) rfl rfl
   simp only at hp hx
   subst hx
   simp only[l6]at hb
   cases hc:dB false (σ.val Gl (bH p.2)) with
   |none=>rw[hc]at hb;cases hb
   |some vs =>
    rw[hc]at hb
    simp only at hb
    split at hb
    .rename_i hcond
     obtain⟨l1,l2⟩:=hcond
     obtain⟨q1,q2,q3⟩:=yJ (h.ev p.2) hc
     obtain⟨cs',e0,e1,e2,e3⟩:=hR.iX
     obtain rfl:cs=cs':=by injection e0
     have hfit:off+(act.eval p.2).cells.toList.length<=cs.toList.length:=by simp;omega
     simp only[bg]
     rw[Oe place cs p.1 off sz _ _ hp (by omega) (by omega)]
     have hvl:(act.eval p.2).cells.toList.length=sz:=by simp;omega
     refine ih qs _ _ bs (by simpa using hl) (λk p' q' a b=>hpq (k+1) p' q' (by simpa using a) (by simpa using b)) ?_ hb
     have hat:∀j,(cs.toList.take off++(act.eval p.2).cells.toList++cs.toList.drop (off+sz)).toArray[j]?=if j<off then cs[j]? else if j<off+sz then(act.eval p.2).cells[j-off]? else cs[j]?:=λj=>by
      rw[qP]
      have:=qQ cs.toList (act.eval p.2).cells.toList off hfit j
      rw[hvl]at this
      rw[this]
      simp
     have c0A:∀j,(as.take off++vs++as.drop (off+sz))[j]?=if j<off then as[j]? else if j<off+sz then vs[j-off]? else as[j]?:=λj=>by
      have:=qQ as vs off (by omega) j
      rw[l1]at this
      exact this
     refine .agg _ _ ?_ (λj y hy=>?_) (λj y a hy ha=>?_)
     .simp;omega
     .rw[hat]at hy
      split at hy
      .exact e2 j y hy
      .split at hy
       .have hlt:j-off<vs.length:=by omega
        exact(q3 (j-off) y vs[j-off] hy (ah hlt)).1
       .exact e2 j y hy
     .rw[hat]at hy
      rw[c0A]at ha
      split at hy
      .rename_i c1;rw[if_pos c1]at ha;exact e3 j y a hy ha
      .rename_i c1
       rw[if_neg c1]at ha
       split at hy
       .rename_i c2;rw[if_pos c2]at ha;exact(q3 _ y a hy ha).2.1.r
       .rename_i c2;rw[if_neg c2]at ha;exact e3 j y a hy ha
    .cases hb
theorem b3L{z:List Value}(h1:z.all (·.oneCell')=true):R F own (.agg z.toArray) (.agg (z.map .v)):=by
 refine .agg _ _ (by simp) (λj y hy=>?_) (λj y a hy ha=>?_)
 .have:y∈z:=bP (by simpa using hy)
  exact aD.1 h1 y this
 .simp at hy ha
  obtain⟨v,hv,rfl⟩:=ha
  rw[hy]at hv
  cases hv
  exact .pure (.v _)
theorem a1P(h:Inv Gl F own B w0 σ act w){o:Oper}{t:TypeId}{parts:Array (Nat×Operand)}(ho:o.op=.build t parts){ti:TypeInfo}{z:Array Value}(hti:P.info? t=some ti)(hz:ti.zero=some (.agg z))(h1:z.toList.all (·.oneCell')=true)
  {place:Nat->Option (Nat×Nat)} (hrun:∀(ps:Array (Nat×Value)) ds,Instr.fill place z ps.toList=some ds->(Instr.build t ps).run P w=.ok (.agg ds) w)
  {qs:List (Nat×Nat×Opd)} (hl:parts.toList.length=qs.length) (hpq:∀(k:Nat) (p:Nat×Operand) (q:Nat×Nat×Opd),parts.toList[k]?=some p->qs[k]?=some q->place p.1=some (q.1,q.2.1)/\q.2.2=bH p.2)
  {p:Prop} {r:AV} {h':List aH} (hs:step Gl σ (.build z.toList qs)=some (p,r,h')) (hp:p):Ok1 P Gl B w0 σ act w o r h':=by
 simp only[step]at hs
 cases hb:l6 Gl σ (z.toList.map .v) qs with
 |none=>rw[hb]at hs;cases hs
 |some bs =>
  rw[hb]at hs
  obtain⟨_,h2⟩:=aP (aI hs)
  obtain⟨rfl,rfl⟩:=aP h2
  have hz0:=b3L (F:=F) (own:=own) h1
  simp only[Array.toArray_toList]at hz0
  obtain⟨ds,hf,hR⟩:=Vj h place parts.toList qs z _ bs hl hpq hz0 hb
  refine Ok1.mk h ?_ hR
  have:=hrun (parts.map λp=>(p.1,act.eval p.2)) ds (by simpa using hf)
  unfold execOp
  simp only[ho]
  simp[this]
theorem run_buildSlice{t et:TypeId}{ti:TypeInfo}(ht:P.underlying t=some (.slice et))(hti:P.info? et=some ti){z:Value}(hz:ti.zero=some z)(vs:List Value)(hv:∀v∈vs,v.cells.size=ti.size)(hzs:z.cells.size=ti.size)(h0:0<ti.size)(hcap:vs.length*ti.size<=2^24)(ps:Array (Nat×Value))(hps:ps.toList=vs.zipIdx.map λp=>(p.2,p.1)) :
  (Instr.buildSlice t vs.length ps).run P w=.ok (.slice (some ⟨w.heap.size,0,none⟩) vs.length vs.length) (w.alloc (.cells (vs.flatMap (·.cells.toList)).toArray et)):=by
 have fil:∀ (vs:List Value) (k:Nat) (cs:Array Value),(∀ v ∈ vs,v.cells.size=ti.size)->(k + vs.length) * ti.size=cs.size ->
   Instr.fill (λi=>some (i*ti.size,ti.size)) cs ((vs.zipIdx k).map λp=>(p.2,p.1))=some ((cs.toList.take (k*ti.size))++vs.flatMap (·.cells.toList)).toArray:=by
  intro vs
  induction vs with
  |nil =>
   intro k cs _ hs
   simp only[dS,jQ]at hs
   have:cs.toList.take cs.size=cs.toList:=eF (by simp)
   simp[Instr.fill,hs,this]
  |cons v vs ih =>
   intro k cs hv hs
   simp only[aL]at hs
   have hk1:(k+1)*ti.size<=cs.size:=by rw[<- hs];exact bM _ (by omega)
   have c0t:=hk1
   rw[dF,gN]at c0t
   have hvs:=hv v (by simp)
   rw[Ad,bg,Oe _ cs k (k*ti.size) ti.size v _ rfl hvs (by omega)]
   rw[ih (k+1) _ (λu hu=>hv u (by simp[hu])) (by
    simp only[ql,ak,jR,rJ,mF,hvs]
    rw[show k+1+vs.length=k+(vs.length+1) from by omega,hs];omega)]
   congr 2
   have e1:(cs.toList.take (k*ti.size)++v.cells.toList++cs.toList.drop (k*ti.size+ti.size)).toArray.toList=cs.toList.take (k*ti.size)++v.cells.toList++cs.toList.drop (k*ti.size+ti.size):=by simp
   rw[e1,dw,<- aZ]
   congr 1
   have hl:(cs.toList.take (k*ti.size)++v.cells.toList).length=(k+1)*ti.size:=by
    simp only[ak,jR,mF,hvs];rw[dF,gN];omega
   rw[<- hl]
   exact List.take_left
 have hf:=fil vs 0 ((Array.range (vs.length*ti.size)).map (z.cells[·%z.cells.size]!)) hv (by simp)
 simp only[jP,qK,fF]at hf
 unfold Instr.buildSlice
 have hn:¬(vs.length*ti.size>2^24):=by omega
 simp only[Sem.run_bind,run_underlying ht,Result.andThen_ok,sizeOf,typeInfo,run_program,hti,Sem.run_pure,if_neg hn]
 by_cases hz0:vs.length*ti.size=0
 ·have c0k:vs=[]:=by
   rcases Nat.mul_eq_zero.1 hz0 with q|q
   .exact fU q
   .omega
  subst c0k
  have e0:(Array.map (fun(x:Nat)=>(default:Value)) (Array.range 0))=#[]:=Array.eq_empty_of_size_eq_zero (by simp)
  simp[Instr.fill,newRow,hps,e0]
 .simp only[if_neg hz0,Sem.run_bind,zeroValue,typeInfo,run_program,Result.andThen_ok,hti,Sem.run_pure,hz,hps]
  rw[hf]
  simp[newRow]
theorem a6L(vs:List Value)(sz:Nat)(hv:∀v∈vs,v.cells.size=sz):∀(i j:Nat) (v:Value),vs[i]?=some v->j<sz->(vs.flatMap (·.cells.toList))[i*sz+j]?=v.cells[j]?:=by
 induction vs with
 |nil=>intro i j v q;simp at q
 |cons u vs ih =>
  intro i j v q hj
  have hu:=hv u (by simp)
  rw[dw]
  cases i with
  |zero =>
   simp at q
   subst q
   rw[jP,dD,au (by simp;omega)]
   simp
  |succ i =>
   rw[aO (by rw[mF,hu,dF,gN];omega)]
   have:=ih (λx hx=>hv x (by simp[hx])) i j v (by simpa using q) hj
   rw[<- this]
   congr 1
   rw[mF,hu,dF,gN];omega
theorem a2G(vs:List Value)(sz:Nat)(hv:∀v∈vs,v.cells.size=sz):(vs.flatMap (·.cells.toList)).length=vs.length*sz:=by
 induction vs with
 |nil=>simp
 |cons u vs ih =>
  rw[dw,ak,ih (λx hx=>hv x (by simp[hx])),mF,hv u (by simp),aL,dF,gN];omega
theorem L9(h:Inv Gl F own B w0 σ act w){F':Addr->Option Value}(hF:∀ad y,F ad=some y->F' ad=some y){xs:List Operand}{sz:Nat}{ys:List AV}(hk:dV σ.h (xs.map λx=>σ.val Gl (bH x))=some ys)(hall:ys.all (λy=>y.cells.length==sz)=true)
  (hkp:∀id∈(xs.map λx=>σ.val Gl (bH x)).flatMap dU,Kept F' own σ.h w id) :
  ys.length=xs.length/\(∀v∈xs.map act.eval,v.cells.size=sz)/\(∀(i:Nat) (e:AV),ys[i]?=some e->e.cells.length=sz)/\
  (∀(i j:Nat) (e a:AV),ys[i]?=some e->e.cells[j]?=some a->∃y,((xs.map act.eval).flatMap (·.cells.toList))[i*sz+j]?=some y/\y.oneCell'=true/\RP F' y a):=by
 obtain⟨l1,l2⟩:=wD h hF _ ys hk hkp
 have hlen:ys.length=xs.length:=by simpa using l1.symm
 have hcl:∀(i:Nat) (e:AV),ys[i]?=some e->e.cells.length=sz:=λi e q=>by
  have:=aD.1 hall e (bP q)
  simpa using this
 have at_:∀(i:Nat) (e:AV),ys[i]?=some e->∃x,xs[i]?=some x/\RP F' (act.eval x) e/\(act.eval x).cells.size=e.cells.length/\(∀(j:Nat) (y:Value) (c:AV),(act.eval x).cells[j]?=some y->e.cells[j]?=some c->y.oneCell'=true/\RP F' y c):=λi e q=>by
  have hi:i<xs.length:=by rw[<- hlen];exact(aj.1 q).1
  have:=l2 i (act.eval xs[i]) (σ.val Gl (bH xs[i])) e (by simp[ah hi]) q (h.ev xs[i])
  exact⟨xs[i],ah hi,this.1,this.2.1,this.2.2⟩
 have hv:∀v∈xs.map act.eval,v.cells.size=sz:=λv hv=>by
  obtain⟨i,hi,rfl⟩:=nM.1 hv
  have hi':i<xs.length:=by simpa using hi
  have b2K:i<ys.length:=by omega
  obtain⟨x,hx,_,h2,_⟩:=at_ i ys[i] (ah b2K)
  rw[ah hi']at hx
  cases hx
  have:=hcl i _ (ah b2K)
  simp
  omega
 refine⟨hlen,hv,hcl,λi j e a q q'=>?_⟩
 obtain⟨x,hx,_,h2,h3⟩:=at_ i e q
 have hj:j<sz:=by rw[<- hcl i e q];exact(aj.1 q').1
 have hfl:=a6L (xs.map act.eval) sz hv i j (act.eval x) (by simp[hx]) hj
 have hj':j<(act.eval x).cells.size:=by rw[h2,hcl i e q];exact hj
 obtain⟨a1,a2⟩:=h3 j _ a (aF hj') q'
 exact⟨(act.eval x).cells[j],by rw[hfl];exact aF hj',a1,a2⟩
theorem KV(h:Inv Gl F own B w0 σ act w){o:Oper}{t et:TypeId}{n:Nat}{parts:Array (Nat×Operand)}(ho:o.op=.buildSlice t n parts){ti:TypeInfo}{z:Value}(ht:P.underlying t=some (.slice et))(hti:P.info? et=some ti)(hz:ti.zero=some z)(hzs:z.cells.size=ti.size)(h0:0<ti.size)
  {xs:List Operand} (hps:parts.toList=xs.zipIdx.map λp=>(p.2,p.1)) (hn:n=xs.length) (hcap:xs.length*ti.size<=2^24)
  {p:Prop} {r:AV} {h':List aH} (hs:step Gl σ (.lI et ti.size (xs.map bH))=some (p,r,h')) (hp:p):Ok1 P Gl B w0 σ act w o r h':=by
 simp only[step,fH,Function.comp_def]at hs
 cases hk:dV σ.h (xs.map λx=>σ.val Gl (bH x)) with
 |none=>rw[hk]at hs;cases hs
 |some ys =>
  rw[hk]at hs
  simp only at hs
  split at hs
  .rename_i hall
   obtain⟨_,h2⟩:=aP (aI hs)
   obtain⟨rfl,rfl⟩:=aP h2
   obtain⟨F',hF,hI,hkp⟩:=h.um ((xs.map λx=>σ.val Gl (bH x)).flatMap dU)
   obtain⟨q1,q2,q3,q4⟩:=L9 h hF hk hall hkp
   have run:=run_buildSlice (P:=P) (w:=w) ht hti hz (xs.map act.eval) q2 hzs h0 (by simpa using hcap) (parts.map λp=>(p.1,act.eval p.2)) (by
    rw[Array.toList_map,hps,fH,List.zipIdx_map,fH]
    rfl)
   have hfl:=a2G (xs.map act.eval) ti.size q2
   have hnew:=hI.new (((xs.map act.eval).flatMap (·.cells.toList)).toArray) ⟨et,ti.size,0,!rz et,ys⟩ ys.length h0 rfl (aS _) (by have:=bF (Nat.le_mul_of_pos_right xs.length h0) hcap;simp only[maxLen];omega) q3 (by simp only[ql,hfl,bA,q1]) (λi j e a q q'=>by
    obtain⟨y,a1,a2,a3⟩:=q4 i j e a q q'
    exact⟨y,by simpa using a1,a2,by have a3:RP F' y a:=a3;unfold RC;split;exact a3;exact .pure a3⟩)
   refine⟨_,.slice (some ⟨w.heap.size,0,none⟩) ys.length ys.length,_,F',_,?_,.inl rfl,hnew,?_⟩
   .unfold execOp
    simp only[ho]
    subst hn
    rw[bA]at run
    simp only[Sem.run_bind,run,Result.andThen_ok,q1]
    rfl
   .have hlen:σ.h.length=own.length:=h.hl.symm
    rw[hlen]
    exact .row _ _ _ _ _ _ _ pQ (by simp) ⟨_,_,rfl,aS _,λ_=>rfl⟩ (λ_=>⟨rfl,by simp,λ_=>⟨_,dD _,by simp⟩⟩) (by first|omega|assumption|(simp;done)|(simp;omega)|(dsimp only;omega))
  .cases hs
theorem a6s{h:List aH}:∀{l:List AV},l.all sc1=true->dV h l=some l/\l.flatMap dU=[]/\l.all (λy=>y.cells.length==1)=true:=by
 intro l
 induction l with
 |nil=>intro _;exact⟨rfl,rfl,rfl⟩
 |cons a l ih =>
  intro ha
  simp only[jT,aB]at ha
  obtain⟨i1,i2,i3⟩:=ih ha.2
  cases a with
  |v x =>
   have hx:x.oneCell'=true:=ha.1
   exact⟨by simp[dV,gW,jY,hx,i1],by simp[dU,bZ,i2],by simp only[jT,i3,uX];rfl⟩
  |_=>cases ha.1
theorem a1a{ty:Nat}{xs:List Opd}{q:Prop×AV×List aH}(hs:step Gl σ (.bsc ty xs)=some q):step Gl σ (.lI ty 1 xs)=some q:=by
 simp only[step]at hs ⊢
 split at hs
 .rename_i hall
  cases hs
  obtain⟨k1,k2,k3⟩:=a6s (h:=σ.h) hall
  rw[k1]
  simp only
  rw[if_pos k3,k2,bA]
  rfl
 .cases hs
open Classical in
theorem a1Q(h:Inv Gl F own B w0 σ act w){o:Oper}{t et:TypeId}{n:Nat}{parts:Array (Nat×Operand)}(ho:o.op=.buildSlice t n parts){ti:TypeInfo}{z:Value}(ht:P.underlying t=some (.slice et))(hti:P.info? et=some ti)(hz:ti.zero=some z)(hzs:z.cells.size=ti.size)(h0:0<ti.size)
  {xs:List Operand} (hps:parts.toList=xs.zipIdx.map λp=>(p.2,p.1)) (hn:n=xs.length) (hcap:xs.length*ti.size<=2^24)
  {p:Prop} {r:AV} {h':List aH} (hs:step Gl σ (.Aq et ti.size (xs.map bH))=some (p,r,h')) (hp:p):Ok1 P Gl B w0 σ act w o r h':=by
 simp only[step,fH,Function.comp_def]at hs
 cases hk:dV σ.h (xs.map λx=>σ.val Gl (bH x)) with
 |none=>rw[hk]at hs;cases hs
 |some ys =>
  rw[hk]at hs
  simp only at hs
  split at hs
  .rename_i hall
   rw[aB]at hall
   obtain⟨_,h2⟩:=aP (aI hs)
   obtain⟨rfl,rfl⟩:=aP h2
   have hno:∀id,id∉(xs.map λx=>σ.val Gl (bH x)).flatMap dU:=λid q=>by
    obtain⟨a,ha,hid⟩:=iM.1 q
    have:=aD.1 hall.2 a ha
    rw[List.isEmpty_iff.1 this]at hid
    simp at hid
   obtain⟨q1,q2,q3,q4⟩:=L9 h (λ_ _ q=>q) hk hall.1 (λid q=>absurd q (hno id))
   have run:=run_buildSlice (P:=P) (w:=w) ht hti hz (xs.map act.eval) q2 hzs h0 (by simpa using hcap) (parts.map λp=>(p.1,act.eval p.2)) (by
    rw[Array.toList_map,hps,fH,List.zipIdx_map,fH]
    rfl)
   generalize hcs:(xs.map act.eval).flatMap (·.cells.toList)=cs at *
   let F':Addr->Option Value:=λad=>if ad.block=w.heap.size/\ad.spot=none then cs[ad.off]? else F ad
   have hF:∀ad y,F ad=some y->F' ad=some y:=λad y q=>by
    show(if _ then _ else _)=_
    rw[if_neg (λc=>by have:=h.Ah q;omega)]
    exact q
   have hnew:=heap_alloc_new w (.cells cs.toArray et)
   refine⟨_,.slice (some ⟨w.heap.size,0,none⟩) ys.length ys.length,w.alloc (.cells cs.toArray et),F',own,?_,.inl rfl,?_,?_⟩
   .unfold execOp
    simp only[ho]
    subst hn
    rw[bA]at run
    simp only[Sem.run_bind,run,Result.andThen_ok,q1]
    rfl
   ·refine h.turn hF (Le.refl _) (fun a x q=>?_) h.hl (fun k f o' p q=>?_) h.inj (h.below.alloc (bF h.room h.below.size) _) h.base (fun ad y q=>?_) (hpw:=fun g hg _=>Below.heap_alloc _ _ _ hg) (hpF:=fun g j y q=>by
     have q':(if g=w.heap.size/\(none:Option _)=none then cs[j]? else F ⟨g,j,none⟩)=some y:=q
     split at q'
     .rename_i c;exact .inr (.inr (by omega))
     .exact .inl q')
    .have q':(if _ then cs[a.off]? else F a)=some x:=q
     split at q'
     .rename_i c
      obtain⟨b,off,spot⟩:=a
      simp only at c q'
      obtain⟨rfl,rfl⟩:=c
      rw[cell_of_row _ _ _ _ _ _ hnew]
      simpa using q'
     .rw[World.cell?_alloc_lt _ _ _ (h.Ah q')];exact h.sub a x q'
    .have hO:=h.objs k f o' p q
     refine hO.mono hF (Le.refl _) (λg hg=>Below.heap_alloc _ _ _ (hO.lt hg)) (λg j hg hj=>?_)
     show(if _ then _ else _)=_
     rw[if_neg (λc=>by have:=hO.lt hg;simp only at c;omega)]
     exact hO.fz hg hj
    .have q':(if _ then cs[ad.off]? else F ad)=some y:=q
     split at q'
     .rename_i c;exact .inr (by rw[c.1];exact bF h.room h.below.size)
     .exact .inl q'
   .refine .pure (.list ⟨w.heap.size,0,none⟩ _ _ _ _ (λk=>(cs[k]?).getD undef) rfl (aS _) q3 (λi j e a q q'=>?_) (λi j e a q q'=>?_))
    .obtain⟨y,a1,a2,a3⟩:=q4 i j e a q q'
     rw[Addr.add_lit,dD,a1]
     refine⟨?_,a2⟩
     show(if _ then _ else _)=_
     rw[if_pos ⟨rfl,rfl⟩];exact a1
    .obtain⟨y,a1,a2,a3⟩:=q4 i j e a q q'
     rw[a1]
     exact a3.mono hF
  .cases hs
theorem a1L(h:Inv Gl F own B w0 σ act w){o:Oper}{t:TypeId}{x y:Operand}(ho:o.op=.store t x y){ag:Bool}{sz:Nat}(ha:agT P t=some (ag,sz))(h0:0<sz)
  {p:Prop} {r:AV} {h':List aH} (hs:step Gl σ (.store sz (bH x) (bH y))=some (p,r,h')) (hp:p):Ok1 P Gl B w0 σ act w o r h':=by
 have he:=h.ev x
 have hy:=h.ev y
 simp only[step]at hs
 split at hs
 .rename_i id G i off hv
  rw[hv]at he
  obtain⟨e,he1,hG,hst,hx⟩:=he.nR
  obtain⟨ob,hob,hO⟩:=h.zo he1
  rw[hob]at hs
  simp only at hs
  split at hs
  .rename_i hlen
   cases hc:dB ob.pr (σ.val Gl (bH y)) with
   |some cs =>
    rw[hc]at hs
    simp only at hs
    split at hs
    .rename_i hcl
     obtain⟨rfl,h2⟩:=aP (aI hs)
     obtain⟨rfl,rfl⟩:=aP h2
     exact I6 h ho ha h0 he hy hob hlen hc hcl hp
    .cases hs
   |none =>
    rw[hc]at hs
    simp only at hs
    cases hk:gW σ.h (σ.val Gl (bH y)) with
    |none=>rw[hk]at hs;simp only at hs;cases hs
    |some b =>
     rw[hk]at hs
     obtain⟨F',hF,hI,hkp⟩:=h.um (dU (σ.val Gl (bH y)))
     obtain⟨q1,_,_⟩:=nQ h hF hy hk hkp
     obtain⟨f,f1,f2⟩:=Vi σ.h (dU (σ.val Gl (bH y))) id
     rw[hob]at f2
     simp only[bq]at f2
     rw[f2]at hs
     simp only at hs
     cases hc2:dB (f ob).pr b with
     |none=>rw[hc2]at hs;cases hs
     |some cs =>
      rw[hc2]at hs
      simp only at hs
      split at hs
      .rename_i hcl
       obtain⟨rfl,h2⟩:=aP (aI hs)
       obtain⟨rfl,rfl⟩:=aP h2
       exact I6 hI ho ha h0 (he.mono hF (Le.refl _)) (.pure q1) f2 (by rw[(f1 ob).1];exact hlen) hc2 hcl hp
      .cases hs
  .cases hs
 .cases hs
end
section
variable{P:Program}{Gl:Nat->Option (List AV)}{F:Addr->Option Value}{own:List Ent}{B:Nat}{w0:W0}{σ:St}{act:Act}{w:World}
theorem a1S(h:Inv Gl F own B w0 σ act w){o:Oper}{t:TypeId}{x ix:Operand}(ho:o.op=.indexAddr t x ix){et:TypeId}{n bsz st:Nat}{i:TypeInfo}(ht:P.underlying t=some (.array n et))(hi:P.info? et=some i)(hsz:i.size=st*bsz)
  {p:Prop} {r:AV} {h':List aH} (hs:step Gl σ (.mQ bsz st n (bH x) (bH ix))=some (p,r,h')) (hp:p):Ok1 P Gl B w0 σ act w o r h':=by
 have he:=h.ev x
 have hix:=h.ev ix
 simp only[step]at hs
 split at hs
 .rename_i id G j o' k m hv hvi
  rw[hv]at he
  rw[hvi]at hix
  obtain⟨e,he1,hG,⟨a,ha⟩,hx⟩:=he.nR
  obtain⟨ob,hob,hO⟩:=h.zo he1
  rw[hob]at hs
  simp only at hs
  split at hs
  .rename_i hc
   obtain⟨rfl,hb⟩:=hc
   obtain⟨rfl,h2⟩:=aP (aI hs)
   obtain⟨rfl,rfl⟩:=aP h2
   obtain⟨p1,p2⟩:=hp
   have run:(execOp act.eval o).run P w=.ok (.value (.pointer (some (a.add (m.toNat*(st*bsz)))))) w:=by
    unfold execOp
    simp only[ho,ha,hix.dK]
    simp[Instr.indexAt,asIntOf,run_underlying ht,Instr.sureAddr,sizeOf,typeInfo,hi,hsz,p1,p2]
   refine Ok1.mk h run (.ptr _ _ _ _ _ e he1 hG ⟨_,rfl⟩ (λq=>?_) (by first|exact he.uN he1|exact he.vZ he1|exact he.FK he1))
   obtain⟨g,hg,q3⟩:=hx q
   rw[ha]at q3
   cases q3
   refine⟨g,hg,?_⟩
   rw[Addr.add_lit,show e.sz=bsz by rw[hO.2.1,hb],dF,Nat.mul_assoc]
   simp
  .split at hs
   .rename_i hc
    obtain⟨rfl,rfl⟩:=hc
    obtain⟨rfl,h2⟩:=aP (aI hs)
    obtain⟨rfl,rfl⟩:=aP h2
    obtain⟨p1,p2⟩:=hp
    have run:(execOp act.eval o).run P w=.ok (.value (.pointer (some (a.add (m.toNat*(1*1)))))) w:=by
     unfold execOp
     simp only[ho,ha,hix.dK]
     simp[Instr.indexAt,asIntOf,run_underlying ht,Instr.sureAddr,sizeOf,typeInfo,hi,hsz,p1,p2]
    refine Ok1.mk h run (.ptr _ _ _ _ _ e he1 hG ⟨_,rfl⟩ (λq=>?_) (by first|exact he.uN he1|exact he.vZ he1|exact he.FK he1))
    obtain⟨g,hg,q3⟩:=hx q
    rw[ha]at q3
    cases q3
    refine⟨g,hg,?_⟩
    rw[Addr.add_lit]
    simp[gG]
   .cases hs
 .rename_i cs k m hv hvi
  rw[hv]at he
  rw[hvi]at hix
  obtain⟨rfl,h2⟩:=aP (aI hs)
  obtain⟨rfl,rfl⟩:=aP h2
  obtain⟨p1,p2⟩:=hp
  have hq:=he.pU
  generalize hv':act.eval x=v at hq
  cases hq with
  |iF ad cs cv hF hR =>
   have run:(execOp act.eval o).run P w=.ok (.value (.pointer (some (ad.add (m.toNat*(st*bsz)))))) w:=by
    unfold execOp
    simp only[ho,hv',hix.dK]
    simp[Instr.indexAt,asIntOf,run_underlying ht,Instr.sureAddr,sizeOf,typeInfo,hi,hsz,p1,p2]
   refine Ok1.mk h run (.pure (.iF _ _ (λj=>cv (m.toNat*(st*bsz)+j)) (λj a q=>?_) (λj a q=>?_)))
   .rw[bU]at q
    split at q
    .rw[fT]at q;rw[Ab];exact hF _ _ q
    .cases q
   .rw[bU]at q
    split at q
    .rw[fT]at q;exact hR _ _ q
    .cases q
 .cases hs
theorem b3G{a:AV}(h:wK a=true):∃z,a=.v z:=by cases a<;>first|exact⟨_,rfl⟩|cases h
theorem Vx:∀{ys:List AV} {l:List UInt8},bytesOf ys=some l->l.length=ys.length/\∀(k:Nat) (y:AV),ys[k]?=some y->∃n,y=.v (.int .u8 n)/\l[k]?=some (UInt8.ofNat n.toNat):=by
 intro ys
 induction ys with
 |nil=>intro l h;cases h;exact⟨rfl,λk y q=>by simp at q⟩
 |cons a ys ih =>
  intro l h
  simp only[bytesOf]at h
  split at h
  .rename_i b m hb hm
   cases h
   obtain⟨h1,h2⟩:=ih hm
   refine⟨by simp[h1],λk y q=>?_⟩
   cases k with
   |zero =>
    simp at q;subst q
    unfold byteOf at hb
    split at hb
    .cases hb;exact⟨_,rfl,rfl⟩
    .cases hb
   |succ k=>simp at q;obtain⟨n,e1,e2⟩:=h2 k y q;exact⟨n,e1,by simpa using e2⟩
  .cases h
theorem b1u(h:Inv Gl F own B w0 σ act w){o:Oper}{s d e:TypeId}{x:Operand}(ho:o.op=.convert s d x)(hs1:P.underlying s=some (.slice e))(he:P.underlying e=some (.int .u8))(hd:P.underlying d=some .string)
  {p:Prop} {r:AV} {h':List aH} (hs:step Gl σ (.b2s (bH x))=some (p,r,h')) (hp:p):Ok1 P Gl B w0 σ act w o r h':=by
 have hex:=h.ev x
 simp only[step]at hs
 cases hy:iC σ.h 1 (σ.val Gl (bH x)) with
 |none=>rw[hy]at hs;cases hs
 |some ys =>
  rw[hy]at hs
  simp only at hs
  cases hb:bytesOf ys with
  |none=>rw[hb]at hs;cases hs
  |some l =>
   rw[hb]at hs
   obtain⟨_,h2⟩:=aP (aI hs)
   obtain⟨rfl,rfl⟩:=aP h2
   obtain⟨⟨A,c,news,ex,hA,hAc,hnl,zU,hn1,hnR⟩,Bj⟩:=KJ h hex (by omega) hy
   obtain⟨hl,hat⟩:=Vx hb
   have hrun:(Conv.bytesToString (.slice A ys.length c)).run P w=.ok (.string ⟨l.toArray⟩) w:=by
    cases A with
    |none =>
     have:=hA rfl
     subst this
     have:l=[]:=fU (by simpa using hl)
     subst this;rfl
    |some ad =>
     have b2H:∀k,k<ys.length->∃n,news[k]?=some (.int .u8 n)/\l[k]?=some (UInt8.ofNat n.toNat):=λk hk=>by
      obtain⟨n,e1,e2⟩:=hat k ys[k] (ah hk)
      obtain⟨y,a1,_,a3⟩:=hnR k 0 ys[k] (.v (.int .u8 n)) (ah hk) (by rw[e1];rfl)
      have:y=.int .u8 n:=by cases a3;rfl
      subst this
      exact⟨n,by simpa using a1,e2⟩
     have key:∃ns:List Int,news=ns.map (Value.int .u8)/\l=ns.map (λn=>UInt8.ofNat n.toNat):=by
      refine⟨news.map (λv=>match v with|.int _ n=>n|_=>0),?_,?_⟩
      .apply gX
       intro k
       rw[aT,aT]
       rcases bI k ys.length with hk|hk
       .obtain⟨n,e1,_⟩:=b2H k hk
        rw[e1];rfl
       .rw[aX (by omega)];rfl
      .apply gX
       intro k
       rw[aT,aT]
       rcases bI k ys.length with hk|hk
       .obtain⟨n,e1,e2⟩:=b2H k hk
        rw[e1,e2];rfl
       .rw[aX (by omega),aX (by omega)];rfl
     obtain⟨ns,e1,e2⟩:=key
     have hlen:news.length=ys.length:=by simpa using hnl
     have hload:(loadCells ad ys.length).run P w=.ok (ns.map (Value.int .u8)).toArray w:=by
      have:=run_firstCells_some (P:=P) w 1 ys.length ad ys.length c news hnl (zU ad rfl)
      rw[<- e1]
      simpa[Builtin.firstCells]using this
     rw[run_bytesToString w ad ys.length c ns hload,e2]
     congr 2
     have fold:∀(ns:List Int) (s:ByteArray),ns.foldl (λr n=>r.push (UInt8.ofNat n.toNat)) s=⟨s.data++(ns.map λn=>UInt8.ofNat n.toNat).toArray⟩:=by
      intro ns
      induction ns with
      |nil=>intro s;simp
      |cons n ns ih=>intro s;rw[eX,ih];simp[ByteArray.push]
     rw[fold]
     have e0:ByteArray.empty.data=#[]:=rfl
     rw[e0,Array.empty_append]
   refine⟨_,_,w,F,own,?_,.inl rfl,h,.pure (.v _)⟩
   unfold execOp
   simp only[ho,ex,Sem.run_bind,run_convert_bytes_string w s d e A ys.length c hs1 he hd,hrun,Result.andThen_ok,Sem.run_pure]
end
def a4L(P:Program):Nat->TypeId->TypeId
 |0,t=>t
 |k+1,t=>match P.underlying t with
  |some (.array _ e)=>a4L P k e
  |_=>t
def Qw(P:Program)(t:TypeId)(z:Value):Option I :=
 if 0<z.cells.size/\z.cells.all (·.oneCell')=true then some (.alloc t z) else none
def X5:Operand->Operand->Bool
 |.tmp a,.tmp b=>a==b
 |.const (.int .i64 a),.const (.int .i64 b)=>a==b
 |_,_=>false
def places(P:Program)(t:TypeId):Option (List (Nat×Nat)) :=
 match P.underlying t with
 |some (.struct fs)=>fs.toList.mapM λf=>(agT P f.type).map λa=>(f.offset,a.2)
 |some (.array n e)=>(agT P e).map λa=>(List.range n).map λi=>(i*a.2,a.2)
 |_=>none
def Ez(pl:List (Nat×Nat)):List (Nat×Operand)->Option (List (Nat×Nat×Opd))
 |[]=>some []
 |(i,x)::r=>match pl[i]?,Ez pl r with
  |some (o,s),some l=>some ((o,s,bH x)::l)
  |_,_=>none
def Iz:BinOp->Option Bool
 |.eql=>some false
 |.neq=>some true
 |_=>none
theorem a1V{op:BinOp}{neg:Bool}(h:Iz op=some neg):op=(if neg then .neq else .eql):=by
 cases op<;>simp[Iz]at h<;>subst h<;>rfl
def a2W(P:Program)(op:BinOp)(xt:TypeId)(x y:Operand):Option I :=
 match P.underlying xt with
 |some (.int _)=>some (.bin op (bH x) (bH y))
 |some .string=>some (.bin op (bH x) (bH y))
 |some (.struct fs)=>match vO P fs.toList with
  |some l=>if P.eqGuardType P.depth xt=false/\P.stoodInHeld xt=false then(Iz op).map λneg=>.aeq neg l (bH x) (bH y) else none
  |none=>none
 |_=>none
def cLen(P:Program):List Operand->List TypeId->Option I
 |[x],[t]=>match P.underlying t with
  |some (.slice _)=>some (.len (bH x))
  |some .string=>some (.AQ (bH x))
  |_=>none
 |_,_=>none
def a2X(P:Program):List Operand->List TypeId->Option I
 | [s,x],[t,t']=>if t=t' then match P.underlying t with
   |some (.slice et)=>match P.info? et with
    |some i=>match i.zero with
     |some z=>if z.cells.size=i.size/\0<i.size then some (.app et i.size i.bytes (bH s) (bH x)) else none
     |none=>none
    |none=>none
   |_=>none
  else match P.underlying t,P.underlying t' with
   |some (.slice et),some .string=>match P.info? et with
    |some i=>match i.zero with
     |some z=>if z.cells.size=i.size/\i.size=1 then some (.apps et i.bytes (bH s) (bH x)) else none
     |none=>none
    |none=>none
   |_,_=>none
 |_,_=>none
def Kq(mx:Bool):List Operand->Option I
 |[x,y]=>some (if mx then .max2 (bH x) (bH y) else .min2 (bH x) (bH y))
 |_=>none
def GV(P:Program)(b:Builtin)(as:List Operand)(ts:List TypeId):Option I :=
 match b with
 |.len=>cLen P as ts
 |.append=>a2X P as ts
 |.min=>Kq false as
 |.max=>Kq true as
 |_=>none
def b6e(P:Program)(t:TypeId):Bool:=match P.underlying t with
 |some (.int _)=>true
 |some .bool=>true
 |some .string=>true
 |_=>false
def callable(P:Program)(f:FuncId):Bool:=match P.funcs[f]? with
 |some fn=>fn.body.isSome&&!(fn.name== "runtime.NumGoroutine")
 |none=>false
theorem Dj{P:Program}{f:FuncId}(h:callable P f=true):∃fn,P.funcs[f]?=some fn/\fn.body.isSome=true/\(fn.name== "runtime.NumGoroutine")=false:=by
 unfold callable at h
 split at h
 .rename_i fn hfn
  rw[aB]at h
  exact⟨fn,hfn,h.1,by simpa using h.2⟩
 .cases h
def known(P:Program):Operand->Bool
 |.func f=>callable P f
 |_=>true
def Vv(P:Program)(c:Call):Option I :=
 match c.callee with
 |.builtin b=>GV P b c.args.toList c.argTypes.toList
 |.value x=>if known P x=true then some (.call (bH x) (c.args.toList.map bH)) else none
 |_=>none
def cI(P:Program)(lm:Bool):Op->Option I
 |.move x=>some (.mov (bH x))
 |.assign x=>some (.mov (bH x))
 |.pick c a b=>some (.pick (bH c) (bH a) (bH b))
 |.binOp op xt x y _=>a2W P op xt x y
 |.unOp op _ x=>some (.un op (bH x))
 |.convert s d x=>match P.underlying s,P.underlying d with
  |some (.int _),some (.int k)=>some (.conv k (bH x))
  |some (.slice e),some .string=>match P.underlying e with
   |some (.int .u8)=>some (.b2s (bH x))
   |_=>none
  |_,_=>none
 |.extract x i=>some (.ext i (bH x))
 |.nilCheck x=>some (.nck (bH x))
 |.fieldAddr t x f=>match P.underlying t with
  |some (.struct fs)=>match fs[f]? with
   |some fd=>match agT P fd.type with
    |some (_,sz)=>if sz≠0 then some (.fO fd.offset (bH x)) else none
    |none=>none
   |none=>none
  |_=>none
 |.indexAddr t x i=>match P.underlying t with
  |some (.slice et)=>match agT P et with
   |some (_,sz)=>some (.rA sz (bH x) (bH i))
   |none=>none
  |some (.array n et)=>match P.info? et,P.info? (a4L P 4 et) with
   |some e,some b=>if e.size=e.size/b.size*b.size then some (.mQ b.size (e.size/b.size) n (bH x) (bH i)) else none
   |_,_=>none
  |_=>none
 |.load t x=>match agT P t with
  |some (ag,sz)=>some (.load sz ag (bH x))
  |none=>none
 |.store t x y=>match agT P t with
  |some (_,sz)=>if 0<sz then some (.store sz (bH x) (bH y)) else none
  |none=>none
 |.slice t x lo hi none=>match P.underlying t with
  |some (.slice et)=>match agT P et with
   |some (_,sz)=>some (.slice sz (bH x) (lo.map bH) (hi.map bH))
   |none=>none
  |some .string=>some (.yg (bH x) (lo.map bH) (hi.map bH))
  |_=>none
 |.index t x i=>match P.underlying t with
  |some .string=>some (.idx (bH x) (bH i))
  |_=>none
 |.box t x=>match agT P t with
  |some (_,sz)=>if 0<sz then some (.box t sz (bH x)) else none
  |none=>none
 |.alloc t=>match P.info? t with
  |some i=>match i.zero with
   |some z=>Qw P t z
   |none=>none
  |none=>none
 | .makeSlice t l c=>if X5 l c then match P.underlying t with
   |some (.slice et)=>match P.info? et with
    |some i=>match i.zero with
     |some z=>if z.cells.size=i.size/\0<i.size/\z.cells.all (·.oneCell')=true then some (.mk et i.size i.bytes z (bH l)) else none
     |none=>none
    |none=>none
   |_=>none
  else none
 |.buildSlice t n parts=>match P.underlying t with
  |some (.slice et)=>match P.info? et with
   |some i=>match i.zero with
    | some z=>if z.cells.size=i.size/\0 < i.size/\parts.toList.map (·.1)=List.range parts.size/\n=parts.size/\parts.size * i.size<=2 ^ 24 then
      (if lm then some (.Aq et i.size (parts.toList.map λp=>bH p.2)) else if b6e P et&&Nat.beq i.size 1 then some (.bsc et (parts.toList.map λp=>bH p.2)) else some (.lI et i.size (parts.toList.map λp=>bH p.2)))
     else none
    |none=>none
   |none=>none
  |_=>none
 |.build t parts=>match P.info? t with
  |some i=>match i.zero,places P t with
   |some (.agg z),some pl=>if z.toList.all (·.oneCell')=true then(Ez pl parts.toList).map λqs=>.build z.toList qs else none
   |_,_=>none
  |none=>none
 |.call c=>Vv P c
 |_=>none
section
variable{P:Program}{Gl:Nat->Option (List AV)}{F:Addr->Option Value}{own:List Ent}{B:Nat}{w0:W0}{σ:St}{act:Act}{w:World}
theorem Qv{pl:List (Nat×Nat)}:∀(ps:List (Nat×Operand)) (qs:List (Nat×Nat×Opd)),Ez pl ps=some qs->ps.length=qs.length/\∀(k:Nat) (p:Nat×Operand) (q:Nat×Nat×Opd),ps[k]?=some p->qs[k]?=some q->pl[p.1]?=some (q.1,q.2.1)/\q.2.2=bH p.2:=by
 intro ps
 induction ps with
 |nil=>intro qs h;cases h;exact⟨rfl,λk p q a=>by simp at a⟩
 |cons p ps ih =>
  intro qs h
  obtain⟨i,x⟩:=p
  simp only[Ez]at h
  split at h
  .rename_i o s l h1 h2
   cases h
   obtain⟨l1,l2⟩:=ih l h2
   refine⟨by simp[l1],λk p q a b=>?_⟩
   cases k with
   |zero=>simp at a b;subst a b;exact⟨h1,rfl⟩
   |succ k=>simp at a b;exact l2 k p q a b
  .cases h
theorem Z7{p q:Nat->Option (Nat×Nat)}(h:∀i x,p i=some x->q i=some x):∀(l:List (Nat×Value)) (z ds:Array Value),Instr.fill p z l=some ds->Instr.fill q z l=some ds:=by
 intro l
 induction l with
 |nil=>intro z ds hf;exact hf
 |cons a l ih =>
  intro z ds hf
  obtain⟨i,v⟩:=a
  unfold Instr.fill at hf ⊢
  cases hp:p i with
  |none=>rw[hp]at hf;cases hf
  |some x =>
   rw[hp]at hf
   rw[h i x hp]
   obtain⟨off,size⟩:=x
   simp only at hf ⊢
   split at hf
   .cases hf
   .rename_i hc;rw[if_neg hc];exact ih _ _ hf
theorem run_places{t:TypeId}{ti:TypeInfo}{z:Array Value}(hti:P.info? t=some ti)(hz:ti.zero=some (.agg z)){pl:List (Nat×Nat)}(hpl:places P t=some pl)(ps:Array (Nat×Value))(ds:Array Value)
  (hf:Instr.fill (λi=>pl[i]?) z ps.toList=some ds):(Instr.build t ps).run P w=.ok (.agg ds) w:=by
 unfold places at hpl
 split at hpl
 .rename_i fs ht
  have key:∀(l:List Field) (pl:List (Nat×Nat)),(l.mapM λf=>(agT P f.type).map λa=>(f.offset,a.2))=some pl->(l.mapM (m:=Sem) λf=>do pure (f.offset,<- sizeOf f.type)).run P w=.ok pl w:=by
   intro l
   induction l with
   |nil=>intro pl h;cases h;rfl
   |cons f l ih =>
    intro pl h
    rw[uw]at h ⊢
    cases ha:agT P f.type with
    |none=>rw[ha]at h;cases h
    |some a =>
     rw[ha]at h
     simp only[bq,Option.pure_def,Option.bind_eq_bind,iL]at h
     cases hl:(l.mapM λf=>(agT P f.type).map λa=>(f.offset,a.2)) with
     |none=>rw[hl]at h;cases h
     |some pl' =>
      rw[hl]at h
      cases h
      have:=ih pl' hl
      obtain⟨ag,sz⟩:=a
      simp only[Sem.run_bind,Result.andThen_ok,Sem.run_pure,(vM ha w).2,this]
  have hk:=key fs.toList pl hpl
  unfold Instr.build
  have e1:(fs.mapM (m:=Sem) λf=>do pure (f.offset,<- sizeOf f.type)).run P w=.ok pl.toArray w:=by
   rw[nO]
   simp only[Sem.run_map,hk,Result.andThen_ok]
  simp only[Sem.run_bind,zeroValue,typeInfo,run_program,Result.andThen_ok,hti,Sem.run_pure,hz,run_underlying ht,e1]
  have e2:(fun(i:Nat)=>(pl.toArray)[i]?)=λi=>pl[i]?:=by funext i;simp
  simp only[Value.cells,e2,hf]
  rfl
 .rename_i n e ht
  cases ha:agT P e with
  |none=>rw[ha]at hpl;cases hpl
  |some a =>
   obtain⟨ag,sz⟩:=a
   rw[ha]at hpl
   simp only[bq,dW]at hpl
   subst hpl
   have hf':Instr.fill (λi=>some (i*sz,sz)) z ps.toList=some ds:=Z7 (λi q hq=>by
    rw[aT]at hq
    cases hr:(List.range n)[i]? with
    |none=>rw[hr]at hq;cases hq
    |some k =>
     rw[hr]at hq
     have hk:k=i:=by
      have:=(aj.1 hr).2
      simpa using this.symm
     subst hk
     exact hq) _ _ _ hf
   unfold Instr.build
   simp only[Sem.run_bind,zeroValue,typeInfo,run_program,Result.andThen_ok,hti,Sem.run_pure,hz,run_underlying ht,(vM ha w).2]
   simp only[Value.cells,hf']
   rfl
 .cases hpl
theorem VW{α:Type}:∀(l:List (Nat×α)) (k:Nat),l.map (·.1)=List.range' k l.length->l=((l.map (·.2)).zipIdx k).map λp=>(p.2,p.1):=by
 intro l
 induction l with
 |nil=>intro k _;rfl
 |cons p l ih =>
  intro k h
  obtain⟨i,x⟩:=p
  simp only[bg,aL,oh,Av]at h
  obtain⟨rfl,h2⟩:=h
  simp only[bg,Ad,Av,true_and]
  exact ih (i+1) h2
theorem step_ok(h:Inv Gl F own B w0 σ act w){lm:Bool}{o:Oper}{i:I}(hc:cI P lm o.op=some i){p:Prop}{r:AV}{h':List aH}(hs:step Gl σ i=some (p,r,h'))(hp:p):Ok1 P Gl B w0 σ act w o r h':=by
 cases ho:o.op with
 |move x =>
  rw[ho]at hc;cases hc
  obtain⟨_,h2⟩:=aP (aI hs);obtain⟨rfl,rfl⟩:=aP h2
  exact Ym h (.inl ho)
 |assign x =>
  rw[ho]at hc;cases hc
  obtain⟨_,h2⟩:=aP (aI hs);obtain⟨rfl,rfl⟩:=aP h2
  exact Ym h (.inr ho)
 |pick c a b=>rw[ho]at hc;cases hc;exact a6b h ho hs hp
 |binOp op xt x y yt =>
  rw[ho]at hc
  simp only[cI,a2W]at hc
  have bin:some (I.bin op (bH x) (bH y))=some i->Ok1 P Gl B w0 σ act w o r h':=by
   intro hc
   cases hc
   simp only[step]at hs
   split at hs
   .rename_i a b hx hy
    cases hb:bV op a b with
    |none=>rw[hb]at hs;cases hs
    |some q =>
     obtain⟨p',v⟩:=q
     rw[hb]at hs
     obtain⟨rfl,h2⟩:=aP (aI hs);obtain⟨rfl,rfl⟩:=aP h2
     exact b1t h ho hx hy hb hp
   .cases hs
  split at hc
  .exact bin hc
  .exact bin hc
  .rename_i fs ht
   cases hl:vO P fs.toList with
   |none=>rw[hl]at hc;cases hc
   |some l =>
    rw[hl]at hc
    simp only at hc
    split at hc
    .rename_i hcond
     have key:∀neg,op=(if neg then .neq else .eql)->some (I.aeq neg l (bH x) (bH y))=some i->Ok1 P Gl B w0 σ act w o r h':=by
      intro neg hop hc
      cases hc
      simp only[step]at hs
      split at hs
      .rename_i a b hx hy
       cases hq:eqA a b l with
       |none=>rw[hq]at hs;cases hs
       |some q =>
        rw[hq]at hs
        obtain⟨_,h2⟩:=aP (aI hs);obtain⟨rfl,rfl⟩:=aP h2
        exact b1w h (by rw[ho,hop]) ht hl hcond.1 hcond.2 hx hy hq
      .cases hs
     cases hn:Iz op with
     |none=>rw[hn]at hc;cases hc
     |some neg=>rw[hn]at hc;exact key neg (a1V hn) hc
    .cases hc
  .cases hc
 |unOp op xt x =>
  rw[ho]at hc;cases hc
  simp only[step]at hs
  split at hs
  .rename_i a hx
   cases hu:unV op a with
   |none=>rw[hu]at hs;cases hs
   |some v =>
    rw[hu]at hs
    obtain⟨_,h2⟩:=aP (aI hs);obtain⟨rfl,rfl⟩:=aP h2
    exact b5H h ho hx hu
  .cases hs
 |convert s d x =>
  rw[ho]at hc
  simp only[cI]at hc
  split at hc
  .rename_i k1 k hs1 hd1
   cases hc
   simp only[step]at hs
   split at hs
   .rename_i k2 n hx
    obtain⟨_,h2⟩:=aP (aI hs);obtain⟨rfl,rfl⟩:=aP h2
    exact a6e h ho hs1 hd1 hx
   .cases hs
  .rename_i e hs1 hd1
   split at hc
   .rename_i he;cases hc;exact b1u h ho hs1 he hd1 hs hp
   .cases hc
  .cases hc
 |extract x k=>rw[ho]at hc;cases hc;exact b1r h ho hs hp
 |nilCheck x=>rw[ho]at hc;cases hc;exact b1n h ho hs hp
 |fieldAddr t x f =>
  rw[ho]at hc
  simp only[cI]at hc
  split at hc
  .rename_i fs ht
   split at hc
   .rename_i fd hf
    split at hc
    .rename_i ag sz ha
     split at hc
     .rename_i h0;cases hc;exact a1O h ho ht hf ha h0 hs hp
     .cases hc
    .cases hc
   .cases hc
  .cases hc
 |indexAddr t x k =>
  rw[ho]at hc
  simp only[cI]at hc
  split at hc
  .rename_i et ht
   split at hc
   .rename_i ag sz ha;cases hc;exact a1M h ho ht ha hs hp
   .cases hc
  .rename_i n et ht
   split at hc
   .rename_i e b he hb
    split at hc
    .rename_i hsz;cases hc;exact a1S h ho ht he hsz hs hp
    .cases hc
   .cases hc
  .cases hc
 |load t x =>
  rw[ho]at hc
  simp only[cI]at hc
  split at hc
  .rename_i ag sz ha;cases hc;exact a6c h ho ha hs hp
  .cases hc
 |store t x y =>
  rw[ho]at hc
  simp only[cI]at hc
  split at hc
  .rename_i ag sz ha
   split at hc
   .rename_i h0;cases hc;exact a1L h ho ha h0 hs hp
   .cases hc
  .cases hc
 |slice t x lo hi mx =>
  rw[ho]at hc
  cases mx with
  |some m=>cases hc
  |none =>
   simp only[cI]at hc
   split at hc
   .rename_i et ht
    split at hc
    .rename_i ag sz ha;cases hc;exact ok_slice h ho ht ha hs hp
    .cases hc
   .rename_i ht;cases hc;exact Yl h ho ht hs hp
   .cases hc
 |index t x k =>
  rw[ho]at hc
  simp only[cI]at hc
  split at hc
  .rename_i ht;cases hc;exact b1q h ho ht hs hp
  .cases hc
 |box t x =>
  rw[ho]at hc
  simp only[cI]at hc
  split at hc
  .rename_i ag sz ha
   split at hc
   .rename_i h0;cases hc;exact b1s h ho h0 hs hp
   .cases hc
  .cases hc
 |alloc t =>
  rw[ho]at hc
  simp only[cI]at hc
  split at hc
  .rename_i ti hi
   split at hc
   .rename_i z hz
    unfold Qw at hc
    split at hc
    .rename_i hcond
     cases hc
     obtain⟨_,h2⟩:=aP (aI hs);obtain⟨rfl,rfl⟩:=aP h2
     exact a1R h ho hi hz hcond.1 hcond.2
    .cases hc
   .cases hc
  .cases hc
 |makeSlice t l c =>
  rw[ho]at hc
  simp only[cI]at hc
  split at hc
  .rename_i hsame
   split at hc
   .rename_i et ht
    split at hc
    .rename_i ti hi
     split at hc
     .rename_i z hz
      split at hc
      .rename_i hcond
       cases hc
       have hlc:l=c:=by
        unfold X5 at hsame
        split at hsame
        .simp at hsame;rw[hsame]
        .simp at hsame;rw[hsame]
        .cases hsame
       subst hlc
       exact b5I h ho ht hi hz hcond.1 hcond.2.1 hcond.2.2 hs hp
      .cases hc
     .cases hc
    .cases hc
   .cases hc
  .cases hc
 |buildSlice t n parts =>
  rw[ho]at hc
  simp only[cI]at hc
  split at hc
  .rename_i et ht
   split at hc
   .rename_i ti hi
    split at hc
    .rename_i z hz
     split at hc
     .rename_i hcond
      obtain⟨c1,c2,c3,c4,c5⟩:=hcond
      have hps:parts.toList=(parts.toList.map (·.2)).zipIdx.map λp=>(p.2,p.1):=VW parts.toList 0 (by rw[c3,rH];simp)
      have hm:(parts.toList.map λp=>bH p.2)=(parts.toList.map (·.2)).map bH:=by simp
      cases lm with
      |true =>
       simp only[if_true]at hc
       cases hc
       rw[hm]at hs
       exact a1Q h ho ht hi hz c1 c2 hps (by simp[c4]) (by simpa using c5) hs hp
      |false =>
       simp only[dH,if_false]at hc
       split at hc
       .rename_i hsc
        cases hc
        rw[hm]at hs
        simp only[aB]at hsc
        have h1:ti.size=1:=fV hsc.2
        have hs':=a1a hs
        rw[<- h1]at hs'
        exact KV h ho ht hi hz c1 c2 hps (by simp[c4]) (by simpa using c5) hs' hp
       cases hc
       rw[hm]at hs
       exact KV h ho ht hi hz c1 c2 hps (by simp[c4]) (by simpa using c5) hs hp
     .cases hc
    .cases hc
   .cases hc
  .cases hc
 |build t parts =>
  rw[ho]at hc
  simp only[cI]at hc
  split at hc
  .rename_i ti hi
   split at hc
   .rename_i z pl hz hpl
    split at hc
    .rename_i h1
     cases hq:Ez pl parts.toList with
     |none=>rw[hq]at hc;cases hc
     |some qs =>
      rw[hq]at hc
      cases hc
      obtain⟨l1,l2⟩:=Qv parts.toList qs hq
      exact a1P h ho hi hz h1 (place:=λi=>pl[i]?) (λps ds hf=>run_places hi hz hpl ps ds hf) l1 l2 hs hp
    .cases hc
   .cases hc
  .cases hc
 |call c =>
  rw[ho]at hc
  obtain⟨callee,⟨args⟩,⟨tys⟩⟩:=c
  simp only[cI,Vv]at hc
  split at hc
  .rename_i b
   simp only[GV]at hc
   split at hc
   .unfold cLen at hc
    split at hc
    .rename_i x t
     split at hc
     .rename_i et ht;cases hc;exact b1p h ho ht hs hp
     .rename_i ht;cases hc;exact a6a h ho ht hs hp
     .cases hc
    .cases hc
   .unfold a2X at hc
    split at hc
    .rename_i s x t t'
     split at hc
     .rename_i htt
      subst htt
      split at hc
      .rename_i et ht
       split at hc
       .rename_i ti hi
        split at hc
        .rename_i z hz
         split at hc
         .rename_i hcond;cases hc;exact b1v h ho ht hi hz hcond.1 hcond.2 hs hp
         .cases hc
        .cases hc
       .cases hc
      .cases hc
     .split at hc
      .rename_i et ht hu
       split at hc
       .rename_i ti hi
        split at hc
        .rename_i z hz
         split at hc
         .rename_i hcond;cases hc;exact a6f h ho ht hu hi hz hcond.1 hcond.2 hs hp
         .cases hc
        .cases hc
       .cases hc
      .cases hc
    .cases hc
   .unfold Kq at hc
    split at hc
    .rename_i x y;cases hc;exact KU (mx:=false) h ho hs hp
    .cases hc
   .unfold Kq at hc
    split at hc
    .rename_i x y;cases hc;exact KU (mx:=true) h ho hs hp
    .cases hc
   .cases hc
  .rename_i f
   split at hc
   .cases hc;cases hs
   .cases hc
  .cases hc
 |_=>rw[ho]at hc;cases hc
end
def snap(w:World):Addr->Option Value:=λa=>w.cell? a
def RPL(F:Addr->Option Value)(xs:Array Value)(as:List AV):Prop:=xs.size=as.length/\∀(i:Nat) (x:Value) (a:AV),xs[i]?=some x->as[i]?=some a->RP F x a
def Pure(P:Program)(Gl:Nat->Option (List AV))(f:FuncId)(as:List AV)(res:AV):Prop :=
 ∀(w:World) (F:Addr->Option Value) (xs:Array Value),(∀a x,F a=some x->w.cell? a=some x)->KD Gl F->GlW Gl w.heap.size w->RPL F xs as->
  Calls P f xs w λe w'=>∃v F',e=.returned v/\(∀ad y,F ad=some y->F' ad=some y)/\(∀ad y,F' ad=some y->w'.cell? ad=some y)/\(∀ad y,F' ad=some y->F ad=some y\/w.heap.size<=ad.block)/\RP F' v res/\Below w.heap.size w w'
def RL(F:Addr->Option Value)(own:List Ent)(xs:Array Value)(as:List AV):Prop:=xs.size=as.length/\∀(i:Nat) (x:Value) (a:AV),xs[i]?=some x->as[i]?=some a->R F own x a
def fJ(P:Program)(Gl:Nat->Option (List AV))(f:FuncId)(h:List aH)(as:List AV)(Q:AV->List aH->Prop):Prop :=
 ∀(F:Addr->Option Value) (own:List Ent) (B:Nat) (w0:W0) (t:List AV) (act:Act) (w:World) (xs:Array Value),Inv Gl F own B w0 ⟨t,h⟩ act w->RL F own xs as->
  Calls P f xs w λe w'=>∃v res h' F' own',e=.returned v/\Inv Gl F' own' B w0 ⟨t,h'⟩ act w'/\R F' own' v res/\Q res h'
def fQ(P:Program)(Gl:Nat->Option (List AV))(d:Bool)(σ:St)(dst:Option Nat)(K:St->Prop):I->Prop
 | .call fo args=>∃ f,σ.val Gl fo=.v (.func (.func f) #[] #[])/\callable P f=true/\((∃ as res,dV σ.h (args.map (σ.val Gl))=some as/\Pure P Gl f as res/\(d=true->(if scalar res then σ.h else freeze σ.h ((args.map (σ.val Gl)).flatMap dU))=σ.h)/\K (St.put ⟨σ.t,if scalar res then σ.h else freeze σ.h ((args.map (σ.val Gl)).flatMap dU)⟩ dst res)) \/
   (d=false/\fJ P Gl f σ.h (args.map (σ.val Gl)) λres h'=>K (St.put ⟨σ.t,h'⟩ dst res)))
 |i=>match step Gl σ i with
  |some (p,a,h')=>p/\K (St.put ⟨σ.t,h'⟩ dst a)
  |none=>False
def und:AV:=.v (.tuple #[])
def fI(P:Program)(Gl:Nat->Option (List AV))(d:Bool)(σ:St)(ins:Ins)(K:St->Prop):Prop :=
 match ins.gd with
 |none=>fQ P Gl d σ ins.dst K ins.i
 |some (s,want)=>match σ.t.getD s .any with
  |.v (.bool b)=>if b=want then fQ P Gl d σ ins.dst K ins.i else K (σ.put ins.dst und)
  |.v (.tuple _)=>K (σ.put ins.dst und)
  |_=>False
def tH(P:Program)(Gl:Nat->Option (List AV))(d:Bool)(K:St->Prop):List Ins->St->Prop
 |[],σ=>K σ
 |i::r,σ=>fI P Gl d σ i (tH P Gl d K r)
def b2w(P:Program)(ops:Array Oper)(o:Oper):Bool:=ops.toList.any λq=>match cI P false q.op with
 |some (.app _ _ _ (.t d) _)=>o.dst==some d
 |_=>false
def b9x(ops:Array Oper):Operand->Bool
 |.tmp d=>ops.toList.any λq=>q.dst==some d&&(match q.op with|.fieldAddr ..=>true|_=>false)
 |_=>false
def a2d(P:Program)(lm:Bool)(ops:Array Oper)(o:Oper):Bool:=match o.op with
 |.slice _ x _ _ _=>b9x ops x
 |_=>lm&&!b2w P ops o
def jN(P:Program)(lm:Bool)(ops:Array Oper)(o:Oper):Option Ins :=
 match cI P (a2d P lm ops o) o.op with
 |none=>none
 |some i=>match o.guard with
  |none=>some ⟨o.dst,none,i⟩
  |some (j,want)=>match(ops[j]?).bind (·.dst) with
   |some s=>some ⟨o.dst,some (s,want),i⟩
   |none=>none
section
variable{P:Program}{Gl:Nat->Option (List AV)}{F:Addr->Option Value}{own:List Ent}{B:Nat}{w0:W0}{σ:St}{act:Act}{w:World}
def lY(Gl:Nat->Option (List AV))(B:Nat)(w0:W0)(K:St->Prop)(act:Act)(w:World):Prop:=∃F own σ,Inv Gl F own B w0 σ act w/\K σ
theorem X4{F F':Addr->Option Value}{x:Value}{a:AV}(h:RP F x a)(hs:scalar a=true):RP F' x a:=by
 have one:∀{x:Value} {a:AV},RP F x a->wK a=true->RP F' x a:=by
  intro x a h hv
  cases a<;>first|(cases hv;done)|skip
  cases h
  exact .v _
 have two:∀{x:Value} {cs:List AV},RP F x (.agg cs)->cs.all wK=true->RP F' x (.agg cs):=by
  intro x cs h hv
  cases h with
  |agg xs cs hl h1 hR=>exact .agg xs cs hl h1 λj x a p q=>one (hR j x a p q) (aD.1 hv a (bP q))
 cases a with
 |v y=>cases h;exact .v _
 |agg cs=>exact two h hs
 |tup vs =>
  cases h with
  |tup xs cs hl hR =>
   refine .tup xs vs hl λj x a p q=>?_
   have:=aD.1 hs a (bP q)
   cases a with
   |v y=>have:=hR j x _ p q;cases this;exact .v _
   |agg cs=>exact two (hR j x _ p q) this
   |_=>cases this
 |_=>cases hs
theorem Inv.call(h:Inv Gl F own B w0 σ act w){w':World}{F':Addr->Option Value}(hF:∀ad y,F ad=some y->F' ad=some y)(hs:∀ad y,F' ad=some y->w'.cell? ad=some y)(hn:∀ad y,F' ad=some y->F ad=some y\/w.heap.size<=ad.block)(hb:Below w.heap.size w w'):Inv Gl F' own B w0 σ act w':=by
 refine h.turn (h':=σ.h) hF (Le.refl _) hs h.hl (λid e o p q=>?_) h.inj ?_ h.base (λad y q=>?_) (hpw:=λg hg _=>hb.block g hg) (hpF:=λg j y q=>(hn _ _ q).imp id .inr)
 .have hO:=h.objs id e o p q
  refine hO.mono hF (Le.refl _) (λg hg=>hb.block g (hO.lt hg)) (λg j hg hj=>?_)
  cases hq:F' ⟨g,j,none⟩with
  |none=>rfl
  |some y =>
   rcases hn _ _ hq with q|q
   .rw[hO.fz hg hj]at q;cases q
   .have:=hO.lt hg;simp only at q;omega
 .exact h.below.trans (hb.mono (bF h.room h.below.size))
 .rcases hn ad y q with q'|q'
  .exact .inl q'
  .exact .inr (bF (bF h.room h.below.size) q')
theorem Sr{lm:Bool}{o:Oper}{f:Opd}{args:List Opd}(hc:cI P lm o.op=some (.call f args)):∃c x,o.op=.call c/\c.callee=.value x/\f=bH x/\args=c.args.toList.map bH:=by
  cases hop:o.op with
  | call c =>
    rw[hop]at hc
    obtain⟨callee,as',tys⟩:=c
    simp only[cI,Vv]at hc
    split at hc
    · rename_i b
      simp only[GV]at hc
      split at hc
      · unfold cLen at hc; split at hc
        .split at hc<;>cases hc
        .cases hc
      · unfold a2X at hc; repeat' split at hc
        all_goals cases hc
      .unfold Kq at hc;split at hc<;>cases hc
      .unfold Kq at hc;split at hc<;>cases hc
      .cases hc
    · rename_i x'
      split at hc
      · cases hc
        exact⟨_,x',rfl,rfl,rfl,rfl⟩
      .cases hc
    .cases hc
  | binOp op xt x y yt =>
    rw[hop]at hc
    simp only[cI,a2W]at hc
    repeat' split at hc
    all_goals first
      |(cases hc;done)
      |(cases hn:Iz op<;>rw[hn]at hc<;>cases hc;done)
  | makeSlice t l c => rw [hop] at hc; simp only [cI] at hc; repeat' split at hc
                       all_goals cases hc
  | buildSlice t n ps => rw [hop] at hc; simp only [cI] at hc; repeat' split at hc
                         all_goals first|(cases hc;done)|(cases lm<;>cases hc;done)
  | build t ps =>
    rw[hop]at hc
    simp only[cI]at hc
    repeat' split at hc
    all_goals first
      |(cases hc;done)
      |(rw[fB]at hc;obtain⟨_,_,q⟩:=hc;cases q)
  | slice t x lo hi mx =>
    rw[hop]at hc
    cases mx with
    |some m=>cases hc
    | none =>
      simp only[cI]at hc
      repeat' split at hc
      all_goals cases hc
  | alloc t =>
    rw[hop]at hc
    simp only[cI,Qw]at hc
    repeat' split at hc
    all_goals cases hc
  | _ =>
    rw[hop]at hc
    simp only[cI]at hc
    repeat' split at hc
    all_goals cases hc
theorem J4(h:Inv Gl F own B w0 σ act w){lm:Bool}{o:Oper}{i:I}(hc:cI P lm o.op=some i){d:Bool}{K:St->Prop}(he:fQ P Gl d σ o.dst K i)(Q:Exit->Act->World->Prop):o.wp P act w (lY Gl B w0 K) Q:=by
 by_cases hcall:∃f args,i=.call f args
 .obtain⟨f,args,rfl⟩:=hcall
  obtain⟨c,x,hop,a2u,hfo,hargs⟩:=Sr hc
  subst hargs hfo
  obtain⟨f,hfv,hcb,he⟩:=he
  obtain⟨fn,hfn,hbody,hname⟩:=Dj hcb
  have hev:act.eval x=.func (.func f) #[] #[]:=by have:=h.ev x;rw[hfv]at this;exact this.dK
  have hrun:(execOp act.eval o).run P w=.ok (.enter f (c.args.map act.eval)) w:=by
   unfold execOp
   simp only[hop]
   have hb':¬fn.body=none:=by intro q;rw[q]at hbody;cases hbody
   have hn':¬fn.name= "runtime.NumGoroutine":=by simpa using hname
   simp[resolve,a2u,hev,Deferred.ofValue,invoke,callFunc,hfn,hn',hb']
  unfold Oper.wp
  rw[hrun,Oper.upon_enter]
  rcases he with⟨as,res,hk,hP,_,hK⟩|⟨_,hP⟩
  case inr =>
   have hrl:RL F own (c.args.map act.eval) ((c.args.toList.map bH).map (σ.val Gl)):=by
    refine⟨by simp,λj x a hx ha=>?_⟩
    have hj:j<c.args.size:=by have:=(fC.1 hx).1;simpa using this
    rw[tN,aF hj]at hx
    cases hx
    simp[ah,hj]at ha
    subst ha
    exact h.ev c.args[j]
   refine(hP F own B w0 σ.t act w (c.args.map act.eval) h hrl).mono ?_
   rintro e w' ⟨v,res,h',F',own',rfl,hI,hR,hK⟩
   exact⟨F',own',_,hI.put hR o.dst,hK⟩
  obtain⟨F1,hF1,hI1,hkp⟩:=h.um (((c.args.toList.map bH).map (σ.val Gl)).flatMap dU)
  obtain⟨l1,l2⟩:=wD h hF1 _ as hk hkp
  have c0m:RPL F1 (c.args.map act.eval) as:=by
   refine⟨by simpa using l1,λj x a hx ha=>?_⟩
   have hj:j<c.args.size:=by have:=(fC.1 hx).1;simpa using this
   rw[tN,aF hj]at hx
   cases hx
   exact(l2 j (act.eval c.args[j]) (σ.val Gl (bH c.args[j])) a (by simp[ah,hj]) ha (h.ev c.args[j])).1
  have hgw:GlW Gl w.heap.size w:=λg cs q=>by
   obtain⟨q1,vs,ty,fr,q2,q3⟩:=hI1.gw g cs q
   exact⟨ni q1 (bF hI1.room hI1.below.size),vs,ty,fr,by rw[hI1.below.block _ q1];exact q2,q3⟩
  refine(hP w F1 (c.args.map act.eval) hI1.sub hI1.gl hgw c0m).mono ?_
  rintro e w' ⟨v,F',rfl,g1,g2,g3,g4,g5⟩
  simp only
  cases hsc:scalar res with
  |true =>
   rw[hsc]at hK
   simp only[if_true]at hK
   have hI2:=h.call (F':=F) (w':=w') (λ_ _ q=>q) (λad y q=>by rw[World.cell?_of_block (w:=w) (g5.block _ (h.Ah q))];exact h.sub _ _ q) (λ_ _ q=>.inl q) g5
   exact⟨F,own,_,hI2.put (.pure (X4 g4 hsc)) o.dst,hK⟩
  |false =>
   rw[hsc]at hK
   simp only[dH,if_false]at hK
   have hI2:=hI1.call g1 g2 g3 g5
   exact⟨F',own,_,hI2.put (.pure g4) o.dst,hK⟩
 ·have he':(match step Gl σ i with | some (p,a,h')=>p/\K (St.put ⟨σ.t,h'⟩ o.dst a) | none=>False):=by
   cases i<;>first|exact he|exact absurd ⟨_,_,rfl⟩ hcall
  cases hs:step Gl σ i with
  |none=>rw[hs]at he';exact he'.elim
  |some q =>
   obtain⟨p,a,h'⟩:=q
   rw[hs]at he'
   obtain⟨hp,hK⟩:=he'
   obtain⟨nx,x,w',F',own',hrun,hnx,hI,hR⟩:=step_ok h hc hs hp
   unfold Oper.wp
   rw[hrun]
   rcases hnx with rfl|⟨rfl,rfl⟩
   .exact⟨F',own',_,hI.put hR o.dst,hK⟩
   .exact⟨F',own',_,hI.put hR o.dst,hK⟩
theorem nI(h:Inv Gl F own B w0 σ act w){lm:Bool}{ops:Array Oper}{o:Oper}{ins:Ins}(hc:jN P lm ops o=some ins){d:Bool}{K:St->Prop}(he:fI P Gl d σ ins K)(Q:Exit->Act->World->Prop){k:Nat}(hk:ops[k]?=some o):wpOp P ops Q k (lY Gl B w0 K) act w:=by
 unfold wpOp
 rw[hk]
 simp only
 unfold jN at hc
 cases hi:cI P (a2d P lm ops o) o.op with
 |none=>rw[hi]at hc;cases hc
 |some i =>
  rw[hi]at hc
  simp only at hc
  cases hg:o.guard with
  |none =>
   rw[hg]at hc
   cases hc
   rw[if_pos (by simp[Region.wanted,hg])]
   exact .inl (J4 h hi he Q)
  |some q =>
   obtain⟨j,want⟩:=q
   rw[hg]at hc
   simp only at hc
   cases hs:(ops[j]?).bind (·.dst) with
   |none=>rw[hs]at hc;cases hc
   |some s =>
    rw[hs]at hc
    cases hc
    simp only[fI]at he
    split at he
    .rename_i b hb
     have hy:yielded ops act.tmps j=some b:=by
      unfold yielded
      rw[hs]
      have hlt:s<σ.t.length:=by
       rcases bI s σ.t.length with q|q
       .exact q
       .simp[List.getD,aX q]at hb
      have hlt':s<act.tmps.size:=by rw[h.tl];exact hlt
      have e1:σ.t[s]?=some (.v (.bool b)):=by rw[<- hb];simp[List.getD,ah hlt]
      have:=(h.tr s _ _ (aF hlt') e1).dK
      simp only[iL,aF hlt',this]
     by_cases hbw:b=want
     .rw[if_pos hbw]at he
      rw[if_pos (by simp[Region.wanted,hg,hy,hbw])]
      exact .inl (J4 h hi he Q)
     .rw[if_neg hbw]at he
      rw[if_neg (by simp[Region.wanted,hg,hy,hbw])]
      exact⟨F,own,_,h.put (x:=undef) (a:=und) (.pure (.v undef)) o.dst,he⟩
    .rename_i ys hb
     have hy:yielded ops act.tmps j=none:=by
      unfold yielded
      rw[hs]
      have hlt:s<σ.t.length:=by
       rcases bI s σ.t.length with q|q
       .exact q
       .simp[List.getD,aX q]at hb
      have hlt':s<act.tmps.size:=by rw[h.tl];exact hlt
      have e1:σ.t[s]?=some (.v (.tuple ys)):=by rw[<- hb];simp[List.getD,ah hlt]
      have:=(h.tr s _ _ (aF hlt') e1).dK
      simp only[iL,aF hlt',this]
     rw[if_neg (by simp[Region.wanted,hg,hy])]
     exact⟨F,own,_,h.put (x:=undef) (a:=und) (.pure (.v undef)) o.dst,he⟩
    .exact he.elim
theorem KR{lm d:Bool}{ops:Array Oper}{Q:Exit->Act->World->Prop}{K:St->Prop}(hQ:∀a w,lY Gl B w0 K a w->Q .normal a w):∀(l:List Ins) (k:Nat),(∀j,k+j<ops.size->∃ins o,l[j]?=some ins/\ops[k+j]?=some o/\jN P lm ops o=some ins)->k+l.length=ops.size->
  ∀(σ:St) (F:Addr->Option Value) (own:List Ent) (act:Act) (w:World),tH P Gl d K l σ->Inv Gl F own B w0 σ act w->wpOps P ops Q (List.range' k l.length) act w:=by
 intro l
 induction l with
 |nil=>intro k _ _ σ F own act w ha hI;exact hQ act w ⟨F,own,σ,hI,ha⟩
 |cons ins l ih =>
  intro k hl hk σ F own act w ha hI
  obtain⟨ins',o,e1,e2,e3⟩:=hl 0 (by simp at hk;omega)
  simp at e1
  subst e1
  simp only[jQ]at e2
  rw[aL,oh,wpOps_cons]
  refine wpOp_mono ?_ (nI hI e3 ha Q e2)
  rintro a w1 ⟨F1,dO,σ1,hI1,hK⟩
  exact ih (k+1) (λj hj=>by
   obtain⟨i',o',f1,f2,f3⟩:=hl (j+1) (by omega)
   exact⟨i',o',by simpa using f1,by rw[<- f2];congr 1;omega,f3⟩) (by simp at hk;omega) σ1 F1 dO a w1 hK hI1
end
def Opd.slots:Opd->List Nat
 |.t i=>[i]
 |_=>[]
def Gj:Option Opd->List Nat
 |some x=>x.slots
 |none=>[]
def I.reads:I->List Nat
 |.mov x|.un _ x|.conv _ x|.ext _ x|.fO _ x|.load _ _ x|.len x|.AQ x|.nck x|.b2s x|.box _ _ x|.mk _ _ _ _ x=>x.slots
 |.pick c a b=>c.slots++a.slots++b.slots
 |.bin _ x y|.aeq _ _ x y|.rA _ x y|.mQ _ _ _ x y|.store _ x y|.idx x y|.app _ _ _ x y|.apps _ _ x y|.min2 x y|.max2 x y=>x.slots++y.slots
 |.slice _ x lo hi|.yg x lo hi=>x.slots++Gj lo++Gj hi
 |.lI _ _ xs|.Aq _ _ xs|.bsc _ xs=>xs.flatMap Opd.slots
 |.build _ ps=>ps.flatMap λp=>p.2.2.slots
 |.alloc _ _=>[]
 |.call fo args=>fo.slots++args.flatMap Opd.slots
def Ins.looks(i:Ins):List Nat:=i.i.reads++(match i.gd with|some (s,_)=>[s]|none=>[])
def I.cls:I->Nat
 |.load ..|.call ..|.mQ ..|.b2s ..=>1
 |.store ..|.app ..|.apps ..|.lI ..|.bsc ..|.box ..|.alloc ..|.mk ..=>2
 |_=>0
section
variable{P:Program}{Gl:Nat->Option (List AV)}
theorem val_congr{σ τ:St}{x:Opd}(h:∀s∈x.slots,τ.t.getD s .any=σ.t.getD s .any):τ.val Gl x=σ.val Gl x:=by
 cases x with
 |t i=>exact h i (by simp[Opd.slots])
 |k v=>rfl
 |g i=>rfl
theorem FV{σ τ:St}:∀(ps:List (Nat×Nat×Opd)) (cs:List AV),(∀s∈ps.flatMap (λp=>p.2.2.slots),τ.t.getD s .any=σ.t.getD s .any)->l6 Gl τ cs ps=l6 Gl σ cs ps:=by
 intro ps
 induction ps with
 |nil=>intro cs _;rfl
 |cons p ps ih =>
  intro cs h
  obtain⟨o,s,x⟩:=p
  have hx:τ.val Gl x=σ.val Gl x:=val_congr λs hs=>h s (by simp[hs])
  simp only[l6,hx]
  split
  .split
   .exact ih _ λs hs=>h s (by simp only[dw,aG];exact .inr hs)
   .rfl
  .rfl
theorem map_congr{σ τ:St}{xs:List Opd}(h:∀s∈xs.flatMap Opd.slots,τ.t.getD s .any=σ.t.getD s .any):xs.map (τ.val Gl)=xs.map (σ.val Gl):=by
 apply oz
 intro x hx
 exact val_congr λs hs=>h s (iM.2 ⟨x,hx,hs⟩)
theorem Aj{σ τ:St}{x:Option Opd}(h:∀s∈Gj x,τ.t.getD s .any=σ.t.getD s .any):x.map (τ.val Gl)=x.map (σ.val Gl):=by
 cases x with
 |none=>rfl
 |some x=>simp only[bq];rw[val_congr h]
theorem yV{σ τ:St}{i:I}(h:∀s∈i.reads,τ.t.getD s .any=σ.t.getD s .any)(hh:τ.h=σ.h):step Gl τ i=step Gl σ i:=by
 cases i<;>simp only[I.reads,aG,or_imp,forall_and]at h<;>first
  |(simp only[step,val_congr h,hh];done)
  |(simp only[step,val_congr h.1,val_congr h.2,hh];done)
  |(simp only[step,val_congr h.1.1,val_congr h.1.2,val_congr h.2,hh];done)
  |(simp only[step,val_congr h.1.1,Aj h.1.2,Aj h.2,hh];done)
  |(simp only[step,map_congr h,hh];done)
  |(simp only[step,Aj h,hh];done)
  |(simp only[step,FV _ _ h,hh];done)
  |(simp only[step,hh];done)
theorem V8{h g:List aH}{a:AV}(hr:bZ a=[]):jY h a=jY g a:=by
 cases a<;>first|rfl|cases hr
theorem V4{h g:List aH}:∀{cs:List AV},cs.flatMap bZ=[]->jK h cs=jK g cs:=by
 intro cs
 induction cs with
 |nil=>intro _;rfl
 |cons c cs ih =>
  intro hr
  rw[dw,List.append_eq_nil_iff]at hr
  simp only[jK]
  rw[V8 (h:=h) (g:=g) hr.1,ih hr.2]
theorem V6{h g:List aH}{a:AV}(hr:dU a=[]):gW h a=gW g a:=by
 cases a with
 |agg cs=>simp only[gW];rw[V4 (h:=h) (g:=g) hr]
 |_=>first|rfl|cases hr
theorem R4{h g:List aH}:∀{cs:List AV},(∀a∈cs,dU a=[])->dV h cs=dV g cs:=by
 intro cs
 induction cs with
 |nil=>intro _;rfl
 |cons c cs ih =>
  intro hr
  simp only[dV]
  rw[V6 (h:=h) (g:=g) (hr c (by simp)),ih λa ha=>hr a (by simp[ha])]
theorem xV{t:List AV}{h g:List aH}(x:Opd):St.val Gl ⟨t,h⟩ x=St.val Gl ⟨t,g⟩ x:=by cases x<;>rfl
theorem a1Z{t:List AV}{h g:List aH}(xs:List Opd):xs.map (St.val Gl ⟨t,h⟩)=xs.map (St.val Gl ⟨t,g⟩):=oz λx _=>xV x
theorem OO{t:List AV}{h g:List aH}(x:Option Opd):x.map (St.val Gl ⟨t,h⟩)=x.map (St.val Gl ⟨t,g⟩):=by cases x<;>simp[xV (Gl:=Gl) (t:=t) (h:=h) (g:=g)]
theorem a7e{t:List AV}{h g:List aH}(ps:List (Nat×Nat×Opd))(cs:List AV):l6 Gl ⟨t,h⟩ cs ps=l6 Gl ⟨t,g⟩ cs ps:=FV ps cs λ_ _=>rfl
theorem WG{t:List AV}{h g:List aH}{i:I}(hc:i.cls=0):step Gl ⟨t,g⟩ i=(step Gl ⟨t,h⟩ i).map λq=>(q.1,q.2.1,g):=by
 cases i with
 |Aq ty sz xs =>
  simp only[step,a1Z (Gl:=Gl) (t:=t) (h:=g) (g:=h)]
  generalize xs.map (St.val Gl ⟨t,h⟩)=l
  by_cases hr:l.all (λa=>(dU a).isEmpty)=true
  .rw[R4 (h:=g) (g:=h) λa ha=>List.isEmpty_iff.1 (aD.1 hr a ha)]
   cases dV h l with
   |none=>rfl
   |some ys=>simp only;split<;>rfl
  ·have:∀ ys:List AV,(ys.all (fun y=>y.cells.length == sz) && l.all (fun a=>(dU a).isEmpty))=false:=fun ys=>by
    simp only[vI]at hr;rw[hr,Bool.and_false]
   cases dV g l<;>cases dV h l<;>simp[this]
 |build z ps=>simp only[step,a7e (Gl:=Gl) (t:=t) (h:=g) (g:=h)];cases l6 Gl ⟨t,h⟩ (z.map .v) ps<;>rfl
 |slice sz x lo hi =>
  simp only[step,xV (Gl:=Gl) (t:=t) (h:=g) (g:=h),OO (Gl:=Gl) (t:=t) (h:=g) (g:=h)]
  split
  .split
   .cases qD _ _ _<;>rfl
   .rfl
  .cases qD _ _ _<;>rfl
  .split
   .cases qD _ _ _<;>rfl
   .rfl
  .rfl
 |yg x lo hi =>
  simp only[step,xV (Gl:=Gl) (t:=t) (h:=g) (g:=h),OO (Gl:=Gl) (t:=t) (h:=g) (g:=h)]
  split
  .cases qD _ _ _<;>rfl
  .rfl
 |bin op x y =>
  simp only[step,xV (Gl:=Gl) (t:=t) (h:=g) (g:=h)]
  split
  .cases bV _ _ _<;>rfl
  .rfl
 |aeq n fs x y =>
  simp only[step,xV (Gl:=Gl) (t:=t) (h:=g) (g:=h)]
  split
  .cases eqA _ _ _<;>rfl
  .rfl
 |un op x =>
  simp only[step,xV (Gl:=Gl) (t:=t) (h:=g) (g:=h)]
  split
  .cases unV _ _<;>rfl
  .rfl
 |ext k x =>
  simp only[step,xV (Gl:=Gl) (t:=t) (h:=g) (g:=h)]
  split
  .rename_i vs _;cases vs[k]?<;>rfl
  .rfl
 |rA sz x y =>
  simp only[step,xV (Gl:=Gl) (t:=t) (h:=g) (g:=h)]
  split
  .split<;>rfl
  .split<;>rfl
  .rfl
 |_=>first
  |(cases hc;done)
  |(simp only[step,xV (Gl:=Gl) (t:=t) (h:=g) (g:=h)];first|rfl|(split<;>rfl))
theorem DC{σ τ:St}{i:I}(hc:i.cls=0)(h:∀s∈i.reads,τ.t.getD s .any=σ.t.getD s .any){p:Prop}{a:AV}{h':List aH}(hs:step Gl σ i=some (p,a,h')):h'=σ.h/\step Gl τ i=some (p,a,τ.h):=by
 have e1:step Gl ⟨τ.t,σ.h⟩ i=some (p,a,h'):=by rw[yV (σ:=σ) (τ:=⟨τ.t,σ.h⟩) h rfl];exact hs
 have e2:=WG (Gl:=Gl) (t:=τ.t) (h:=σ.h) (g:=τ.h) hc
 rw[e1]at e2
 have e3:=WG (Gl:=Gl) (t:=σ.t) (h:=σ.h) (g:=σ.h) hc
 have hs':step Gl ⟨σ.t,σ.h⟩ i=some (p,a,h'):=hs
 rw[hs']at e3
 simp only[bq,dW,nH,true_and]at e3
 exact⟨e3,e2⟩
def GU(P:Program)(Gl:Nat->Option (List AV))(d:Bool)(σ:St)(a:AV)(h':List aH):I->Prop
 |.call fo args=>∃f,σ.val Gl fo=.v (.func (.func f) #[] #[])/\callable P f=true/\∃as,dV σ.h (args.map (σ.val Gl))=some as/\Pure P Gl f as a/\(d=true->(if scalar a then σ.h else freeze σ.h ((args.map (σ.val Gl)).flatMap dU))=σ.h)/\h'=(if scalar a then σ.h else freeze σ.h ((args.map (σ.val Gl)).flatMap dU))
 |i=>∃p,step Gl σ i=some (p,a,h')/\p
def H9(P:Program)(Gl:Nat->Option (List AV))(d:Bool)(σ:St)(ins:Ins)(a:AV)(h':List aH):Prop :=
 match ins.gd with
 |none=>GU P Gl d σ a h' ins.i
 |some (s,want)=>match σ.t.getD s .any with
  |.v (.bool b)=>if b=want then GU P Gl d σ a h' ins.i else a=und/\h'=σ.h
  |.v (.tuple _)=>a=und/\h'=σ.h
  |_=>False
theorem Ql{σ:St}{dst:Option Nat}{K:St->Prop}{i:I}:fQ P Gl true σ dst K i↔∃a h',GU P Gl true σ a h' i/\K (St.put ⟨σ.t,h'⟩ dst a):=by
 by_cases hcall:∃f args,i=.call f args
 .obtain⟨f,args,rfl⟩:=hcall
  constructor
  .rintro⟨f,hf,hcb,(⟨as,res,h1,h2,h3,h4⟩|⟨h1,_⟩)⟩
   .exact⟨res,_,⟨f,hf,hcb,as,h1,h2,h3,rfl⟩,h4⟩
   .cases h1
  .rintro⟨res,h',⟨f,hf,hcb,as,h1,h2,h3,rfl⟩,h4⟩
   exact⟨f,hf,hcb,.inl ⟨as,res,h1,h2,h3,h4⟩⟩
 ·have e1:fQ P Gl true σ dst K i=(match step Gl σ i with | some (p,a,h')=>p/\K (St.put ⟨σ.t,h'⟩ dst a) | none=>False):=by
   cases i<;>first|rfl|exact absurd ⟨_,_,rfl⟩ hcall
  have e2:∀a h',GU P Gl true σ a h' i=∃p,step Gl σ i=some (p,a,h')/\p:=λa h'=>by
   cases i<;>first|rfl|exact absurd ⟨_,_,rfl⟩ hcall
  rw[e1]
  constructor
  .intro h
   cases hs:step Gl σ i with
   |none=>rw[hs]at h;exact h.elim
   |some q =>
    obtain⟨p,a,h'⟩:=q
    rw[hs]at h
    exact⟨a,h',by rw[e2];exact⟨p,hs,h.1⟩,h.2⟩
  .rintro⟨a,h',h1,h2⟩
   rw[e2]at h1
   obtain⟨p,hs,hp⟩:=h1
   rw[hs]
   exact⟨hp,h2⟩
theorem QI{σ:St}{K:St->Prop}{ins:Ins}:fI P Gl true σ ins K↔∃a h',H9 P Gl true σ ins a h'/\K (St.put ⟨σ.t,h'⟩ ins.dst a):=by
 unfold fI H9
 cases ins.gd with
 |none=>exact Ql
 |some q =>
  obtain⟨s,want⟩:=q
  simp only
  generalize σ.t.getD s .any=g
  have no:∀{X:AV->List aH->Prop},(False↔∃a h',False/\X a h'):=fun{X}=>⟨λh=>h.elim,fun⟨_,_,h,_⟩=>h.elim⟩
  cases g with
  |v x=>cases x with
   |bool b =>
    simp only
    by_cases hb:b=want
    .simp only[if_pos hb];exact Ql
    .simp only[if_neg hb]
     constructor
     .intro h;exact⟨und,σ.h,⟨rfl,rfl⟩,h⟩
     .rintro⟨a,h',⟨rfl,rfl⟩,h⟩;exact h
   |tuple ys =>
    simp only
    constructor
    .intro h;exact⟨und,σ.h,⟨rfl,rfl⟩,h⟩
    .rintro⟨a,h',⟨rfl,rfl⟩,h⟩;exact h
   |_=>exact no
  |_=>exact no
theorem J7{σ τ:St}{i:I}(h:∀s∈i.reads,τ.t.getD s .any=σ.t.getD s .any)(hh:i.cls≠0->τ.h=σ.h){a:AV}{h':List aH}(he:GU P Gl true σ a h' i) :
  (i.cls≠2->h'=σ.h)/\GU P Gl true τ a (if i.cls=2 then h' else τ.h) i:=by
 by_cases hcall:∃f args,i=.call f args
 .obtain⟨f,args,rfl⟩:=hcall
  obtain⟨f',hf,hcb,as,h1,h2,h3,rfl⟩:=he
  have hτ:=hh (by simp[I.cls])
  have hA:∀s∈args.flatMap Opd.slots,τ.t.getD s .any=σ.t.getD s .any:=λs hs=>h s (by simp only[I.reads,aG];exact .inr hs)
  have hO:τ.val Gl f=σ.val Gl f:=val_congr λs hs=>h s (by simp only[I.reads,aG];exact .inl hs)
  refine⟨λ_=>h3 rfl,f',by rw[hO];exact hf,hcb,as,?_,h2,?_,?_⟩
  .rw[map_congr hA,hτ];exact h1
  .rw[map_congr hA,hτ];exact h3
  .rw[map_congr hA,hτ,h3 rfl];simp[I.cls]
 ·have e2:∀ (ρ:St) a h',GU P Gl true ρ a h' i=∃ p,step Gl ρ i=some (p,a,h')/\p:=fun ρ a h'=>by
   cases i<;>first|rfl|exact absurd ⟨_,_,rfl⟩ hcall
  rw[e2]at he
  obtain⟨p,hs,hp⟩:=he
  rw[e2]
  by_cases hc:i.cls=0
  .obtain⟨q1,q2⟩:=DC hc h hs
   exact⟨λ_=>q1,p,by rw[if_neg (by omega)];exact q2,hp⟩
  .have hτ:=hh hc
   have hs2:=yV (Gl:=Gl) h hτ
   rw[hs]at hs2
   by_cases hc2:i.cls=2
   .exact⟨λq=>absurd hc2 q,p,by rw[if_pos hc2];exact hs2,hp⟩
   ·have hload:h'=σ.h:=by
     cases i<;>first|(exact absurd rfl hc)|(exact absurd rfl hc2)|(exact absurd ⟨_,_,rfl⟩ hcall)|skip
     all_goals(simp only[step]at hs)
     all_goals(repeat' split at hs)
     all_goals first
      |(cases hs;done)
      |(cases hs;rfl)
      |(rw[fB]at hs;obtain⟨_,_,q⟩:=hs;cases q;rfl)
    refine⟨λ_=>hload,p,?_,hp⟩
    rw[if_neg hc2,hτ,<- hload];exact hs2
theorem Jh{σ τ:St}{ins:Ins}(h:∀s∈ins.looks,τ.t.getD s .any=σ.t.getD s .any)(hh:ins.i.cls≠0->τ.h=σ.h){a:AV}{h':List aH}(he:H9 P Gl true σ ins a h') :
  (ins.i.cls≠2->h'=σ.h)/\∃h'',H9 P Gl true τ ins a h''/\(ins.i.cls≠2->h''=τ.h)/\(ins.i.cls=2->h''=h'):=by
 have hr:∀s∈ins.i.reads,τ.t.getD s .any=σ.t.getD s .any:=λs hs=>h s (by simp[Ins.looks,hs])
 unfold H9 at he ⊢
 cases hg:ins.gd with
 |none =>
  rw[hg]at he
  obtain⟨q1,q2⟩:=J7 hr hh he
  exact⟨q1,_,q2,λc=>if_neg c,λc=>if_pos c⟩
 |some q =>
  obtain⟨s,want⟩:=q
  rw[hg]at he
  simp only at he ⊢
  rw[h s (by simp[Ins.looks,hg])]
  split at he
  .rename_i b hb
   split at he
   .rename_i hbw
    obtain⟨q1,q2⟩:=J7 hr hh he
    exact⟨q1,_,by rw[if_pos hbw];exact q2,λc=>if_neg c,λc=>if_pos c⟩
   .rename_i hbw
    obtain⟨rfl,rfl⟩:=he
    refine⟨λ_=>rfl,τ.h,by rw[if_neg hbw];exact⟨rfl,rfl⟩,λ_=>rfl,λc=>hh (by omega)⟩
  .obtain⟨rfl,rfl⟩:=he
   exact⟨λ_=>rfl,τ.h,⟨rfl,rfl⟩,λ_=>rfl,λc=>hh (by omega)⟩
  .exact he.elim
def Cr(t:List AV)(d:Option Nat)(a:AV):List AV :=
 match d with
 |some i=>t.set i a
 |none=>t
theorem put_eq(σ:St)(h:List aH)(d:Option Nat)(a:AV):St.put ⟨σ.t,h⟩ d a=⟨Cr σ.t d a,h⟩:=by cases d<;>rfl
theorem a1t(t:List AV)(d:Option Nat)(a:AV):(Cr t d a).length=t.length:=by cases d<;>simp[Cr]
theorem Rq{t:List AV}{d:Option Nat}{a:AV}{s:Nat}(h:d≠some s):(Cr t d a)[s]?=t[s]?:=by
 cases d with
 |none=>rfl
 |some i=>exact aC (λe=>h (by rw[e]))
theorem KO{t t':List AV}{s:Nat}{a:AV}(hl:t.length=t'.length):(Cr t (some s) a)[s]?=(Cr t' (some s) a)[s]?:=by
 simp[Cr,dh,hl]
def zh(l:List Ins)(k:Nat):Option Nat:=(l[k]?).bind (·.dst)
def tS(t:List AV)(l:List Ins)(as:Nat->AV)(S:Nat->Bool):Nat->List AV
 |0=>t
 |k+1=>if S k then Cr (tS t l as S k) (zh l k) (as k) else tS t l as S k
theorem I5(t:List AV)(l:List Ins)(as:Nat->AV)(S:Nat->Bool)(k:Nat):(tS t l as S k).length=t.length:=by
  induction k with
  |zero=>rfl
  | succ k ih => simp only [tS]; split
                 .rw[a1t];exact ih
                 .exact ih
theorem Cc{t:List AV}{l:List Ins}{as as':Nat->AV}{S S':Nat->Bool}{k:Nat}(h:∀j,j<k->as j=as' j/\S j=S' j):tS t l as S k=tS t l as' S' k:=by
 induction k with
 |zero=>rfl
 |succ k ih =>
  simp only[tS]
  rw[ih λj hj=>h j (by omega),(h k (by omega)).1,(h k (by omega)).2]
theorem TL{t:List AV}{l:List Ins}{as:Nat->AV}{S S':Nat->Bool}{s:Nat}{k:Nat}(h:∀j,j<k->zh l j=some s->S j=S' j):(tS t l as S k)[s]?=(tS t l as S' k)[s]?:=by
 induction k with
 |zero=>rfl
 |succ k ih =>
  have ih':=ih λj hj=>h j (by omega)
  have hl:(tS t l as S k).length=(tS t l as S' k).length:=by rw[I5,I5]
  simp only[tS]
  by_cases hd:zh l k=some s
  .rw[h k (by omega) hd,hd]
   split
   .exact KO hl
   .exact ih'
  .split<;>split<;>simp only[Rq hd,ih']
theorem Jz{t:List AV}{l:List Ins}{as:Nat->AV}{S:Nat->Bool}{j k:Nat}(hjk:j<=k)(h:∀i,j<=i->i<k->S i=false):tS t l as S k=tS t l as S j:=by
  induction k with
  | zero => have : j = 0 := by omega
            subst this;rfl
  | succ k ih =>
    rcases bI k j with q|q
    · have:j=k + 1:=by omega
      subst this;rfl
    · simp only [tS]
      rw[h k q (by omega)]
      exact ih q λi a b=>h i a (by omega)
theorem trace{K:St->Prop}{l:List Ins}{σ:St}(h:tH P Gl true K l σ):∃(as:Nat->AV) (hs:Nat->List aH),hs 0=σ.h/\
  (∀i ins,l[i]?=some ins->H9 P Gl true ⟨tS σ.t l as (λ_=>true) i,hs i⟩ ins (as i) (hs (i+1)))/\K ⟨tS σ.t l as (λ_=>true) l.length,hs l.length⟩:=by
 have key:∀k,k<=l.length->∃(as:Nat->AV) (hs:Nat->List aH),hs 0=σ.h/\(∀i ins,i<k->l[i]?=some ins->H9 P Gl true ⟨tS σ.t l as (λ_=>true) i,hs i⟩ ins (as i) (hs (i+1)))/\tH P Gl true K (l.drop k) ⟨tS σ.t l as (λ_=>true) k,hs k⟩:=by
  intro k
  induction k with
  |zero=>intro _;exact⟨λ_=>.any,λ_=>σ.h,rfl,λi ins hi=>by omega,h⟩
  |succ k ih =>
   intro hk
   obtain⟨as,hs,h0,h1,h2⟩:=ih (by omega)
   have hlt:k<l.length:=by omega
   rw[List.drop_eq_getElem_cons hlt]at h2
   obtain⟨a,h',ha,hr⟩:=QI.1 h2
   refine⟨λi=>if i=k then a else as i,λi=>if i=k+1 then h' else hs i,by simp[h0],λi ins hi hl=>?_,?_⟩
   .have e1:tS σ.t l (λi=>if i=k then a else as i) (λ_=>true) i=tS σ.t l as (λ_=>true) i:=Cc λj hj=>⟨if_neg (by omega),rfl⟩
    simp only[e1]
    by_cases hik:i=k
    .subst hik
     rw[ah hlt]at hl
     cases hl
     simp only[if_true]
     rw[if_neg (by omega)]
     exact ha
    .rw[if_neg (by omega),if_neg hik,if_neg (by omega)]
     exact h1 i ins (by omega) hl
   .have e1:tS σ.t l (λi=>if i=k then a else as i) (λ_=>true) k=tS σ.t l as (λ_=>true) k:=Cc λj hj=>⟨if_neg (by omega),rfl⟩
    simp only[tS,if_true,e1]
    rw[put_eq]at hr
    have e2:zh l k=l[k].dst:=by simp[zh,ah hlt]
    rw[e2]
    exact hr
 obtain⟨as,hs,h0,h1,h2⟩:=key l.length (aS _)
 refine⟨as,hs,h0,λi ins hl=>h1 i ins (aj.1 hl).1 hl,?_⟩
 rw[List.drop_length]at h2
 exact h2
end
end
end
end Abs
end Go.Proofs.YtnhgeocdffhkjaaGreatDoor
