/- Merged and trimmed by a program: AbsM AbsN AbsO Abs7 Abs8 Abs9 AbsA AbsD AbsP AbsQ. -/
import Derived.Test.YtgfnhpadmifiiaaDoorZEA
import Derived.MapKept
import Derived.ChangeKeysEq
set_option linter.unusedVariables false
set_option linter.unusedSimpArgs false
set_option linter.defProp false
namespace Go.Proofs.YtgfnhpadmifiiaaDoor
namespace Abs
noncomputable section
section
open Go.RowKit
section
variable{Gl:Nat->Option (List AV)}{F:Addr->Option Value}{own:List Ent}{B:Nat}{w0:W0}{σ:St}{act:Act}{w:World}
theorem Inv.a3F(h:Inv Gl F own B w0 σ act w)(ty:Nat):Inv Gl F (own++[⟨some w.heap.size,0,0,0⟩]) B w0 ⟨σ.t,σ.h++[⟨ty,0,0,true,[]⟩]⟩ act (w.alloc (.map #[] 0)):=by
 have hnew:=heap_alloc_new w (.map #[] 0)
 refine h.turn (λ_ _ q=>q) (Le.snoc _ _) (λa x q=>?_) (by simp[h.hl]) (λid e o' p q=>?_) (λi j e e' g p q r s=>?_) (h.below.alloc (cZ h.room h.below.size) _) (λid e g p q=>?_) (hpw:=λg hg _=>Below.heap_alloc _ _ _ hg) (hpo:=EW λg q=>by cases q;exact bF _)
 .rw[World.cell?_alloc_lt _ _ _ (h.zY q)];exact h.sub a x q
 .rcases aM id own.length with hid|hid
  .rw[aH hid]at p
   rw[aH (by rw[<- h.hl];exact hid)]at q
   have k:=h.objs id e o' p q
   exact k.mono (λ_ _ r=>r) (Le.snoc _ _) (λg hg=>Below.heap_alloc _ _ _ (k.lt hg)) (λg j hg hj=>k.fz hg hj)
  .rw[aK hid]at p
   rw[aK (by rw[<- h.hl];exact hid),<- h.hl]at q
   have h0:id-own.length=0:=by
    rcases eO (id-own.length) with h0|h0
    .exact h0
    .rw[bg (by simp;omega)]at p;cases p
   rw[h0]at p q
   simp at p q
   subst p q
   refine .inr ⟨rfl,rfl,rfl,w.heap.size,rfl,#[],0,hnew,rfl,λi en x p q=>by simp at p,λj=>?_⟩
   rcases hF:F ⟨w.heap.size,j,none⟩with _|y
   .rfl
   .have:=h.zY hF;simp at this
 ·have key:∀ (i:Nat) (e:Ent),(own ++ [(⟨some w.heap.size,0,0,0⟩:Ent)])[i]?=some e->e.g=some g->(i < own.length/\own[i]?=some e/\g < w.heap.size)\/(i=own.length/\g=w.heap.size):=by
   intro i e p r
   rcases aM i own.length with hid|hid
   .rw[aH hid]at p
    exact .inl ⟨hid,p,h.zw p r⟩
   .rw[aK hid]at p
    have h0:i-own.length=0:=by
     rcases eO (i-own.length) with h0|h0
     .exact h0
     .rw[bg (by simp;omega)]at p;cases p
    rw[h0]at p
    simp at p
    subst p
    simp at r
    exact .inr ⟨by omega,r.symm⟩
  rcases key i e p r with⟨a1,a2,a3⟩|⟨a1,a2⟩<;>rcases key j e' q s with⟨b1,b2,b3⟩|⟨b1,b2⟩
  .exact h.inj i j e e' g a2 b2 r s
  .omega
  .omega
  .omega
 .rcases aM id own.length with hid|hid
  .rw[aH hid]at p
   exact h.base id e g p q
  .rw[aK hid]at p
   have h0:id-own.length=0:=by
    rcases eO (id-own.length) with h0|h0
    .exact h0
    .rw[bg (by simp;omega)]at p;cases p
   rw[h0]at p
   simp at p
   subst p
   simp at q
   subst q
   exact cZ h.room h.below.size
theorem Inv.a2S (h:Inv Gl F own B w0 σ act w) {w':World} {id:Nat} {e:Ent} {ob ob':aL} {g:Nat} (he:own[id]?=some e) (hob:σ.h[id]?=some ob) (hg:e.g=some g) (h0:ob.sz=0) (hsz:ob'.sz=0) (hpr:ob'.pr=true)
  (hoth:∀k,k≠g->w'.heap[k]?=w.heap[k]?) (hblk:∃(es:Array MapEntry) (clock:Nat),w'.heap[g]?=some (.map es clock)/\es.size=ob'.es.length/\∀(i:Nat) (en:MapEntry) (x:AV),es[i]?=some en->ob'.es[i]?=some x->zZ F en x)
  (h1:w'.os=w.os) (h2:w'.tape=w.tape) (h3:w'.output=w.output) (h4:w'.heap.size=w.heap.size):Inv Gl F own B w0 ⟨σ.t,σ.h.set id ob'⟩ act w':=by
 have sH:id<σ.h.length:=(aj.1 hob).1
 rcases h.objs id e ob he hob with⟨q,_⟩|⟨_,m1,m2,g',m3,es0,b0i,m4,m5,m6,m7⟩
 .omega
 rw[hg]at m3
 cases m3
 have hB:=h.base id e g he hg
 refine h.turn (λ_ _ q=>q) (Le.refl _) (λa x q=>?_) (by simp[h.hl]) (λk f o' p q=>?_) h.inj ?_ h.base (hpw:=λk _ hk=>hoth k λq=>hk id e he (by rw[hg,q]))
 .have hc:=h.sub a x q
  by_cases hab:a.block=g
  .exfalso
   unfold World.cell? at hc
   rw[hab,m4]at hc
   simp at hc
  .rw[World.cell?_of_block (w:=w) (hoth _ hab)];exact hc
 .have q':(σ.h.set id ob')[k]?=some o':=q
  by_cases hk:k=id
  .subst hk
   rw[he]at p
   cases p
   rw[aW sH]at q'
   cases q'
   obtain⟨es,clock,b1,b2,b3⟩:=hblk
   exact .inr ⟨hsz,m1,hpr,g,hg,es,clock,b1,b2,b3,m7⟩
  .rw[aB (λe=>hk e.symm)]at q'
   have hO:=h.objs k f o' p q'
   refine hO.mono (λ_ _ r=>r) (Le.refl _) (λg' hg'=>hoth g' (λe'=>?_)) (λg' j hg' hj=>hO.fz hg' hj)
   subst e'
   exact hk (h.inj k id f e _ p he hg' hg)
 .exact⟨h1.trans h.below.os,h2.trans h.below.tape,h3.trans h.below.output,by rw[h4];exact h.below.size,λk hk=>by rw[hoth k (by omega)];exact h.below.block k hk⟩
end
def vO(k:IntKind)(n:Int):List MapEntry->Nat->Option (Nat×Value)
 |[],_=>none
 |e::es,i=>match e.key with
  |.int _ m=>if n=m then some (i,e.val) else vO k n es (i+1)
  |_=>none
theorem AY(k:IntKind)(n:Int):∀(es:List MapEntry) (i:Nat),(∀e∈es,∃m,e.key=.int k m)->Instr.findNow (.int k) (.int k n) es i=some (vO k n es i)
 |[],i,_=>rfl
 |e::es,i,h=>by
  obtain⟨m,hm⟩:=h e (by simp)
  have ih:=AY k n es (i+1) λe he=>h e (by simp[he])
  unfold Instr.findNow vO
  rw[hm]
  simp only[Instr.sameNow,if_true]
  by_cases hnm:n=m
  .subst hnm;simp
  .rw[if_neg hnm]
   have:(n==m)=false:=by simpa using hnm
   rw[this]
   exact ih
theorem uP{P:Program}{kt:TypeId}{k:IntKind}(hk:P.underlying kt=some (.int k))(w:World)(b:Bool)(m:Nat)(n:Int):(Instr.checkKey b (m+1) kt (.int k n)).run P w=.ok () w:=by
 unfold Instr.checkKey
 simp[run_underlying hk]
theorem Hf {P:Program} {t kt et:TypeId} {k:IntKind} (ht:P.underlying t=some (.map kt et)) (hk:P.underlying kt=some (.int k)) {w:World} {g:Nat} {es:Array MapEntry} {clock:Nat} (hb:w.heap[g]?=some (.map es clock)) (hkeys:∀ e ∈ es.toList,∃ m,e.key=.int k m) (n:Int) {ti:TypeInfo} {z:Value} (hi:P.info? et=some ti) (hz:ti.zero=some z) (ok:Bool) :
  (Instr.lookup t (.map (some g)) (.int k n) ok).run P w=.ok (match vO k n es.toList 0 with
   |some (_,v)=>(if ok then .tuple #[v,.bool true] else v)
   |none=>(if ok then .tuple #[z,.bool false] else z)) w:=by
 have hf:=AY k n es.toList 0 hkeys
 have hc:=uP hk w es.isEmpty 9999 n
 have hc:(Instr.checkKey es.isEmpty 10000 kt (.int k n)).run P w=.ok () w:=hc
 have hg:(Sem.getObj g Sem.pure).run P w=.ok (.map es clock) w:=by
  show Sem.run P (.getObj g .pure) w=_
  simp only[Sem.run,hb]
 unfold Instr.lookup Instr.findKey
 simp only[getObj,run_underlying ht,Sem.run_bind,Result.andThen_ok,hg,Sem.run_pure,hc,run_underlying hk,hf]
 cases vO k n es.toList 0 with
 |none=>cases ok<;>simp[zeroValue,typeInfo,hi,hz]
 |some p=>cases ok<;>simp
theorem NS(k:IntKind)(n:Int):∀(es:List MapEntry) (i j:Nat) (v:Value),(∀e∈es,∃m,e.key=.int k m)->vO k n es i=some (j,v)->i<=j/\∃e,es[j-i]?=some e/\e.key=.int k n/\e.val=v
 |[],i,j,v,_,h=>by cases h
 |e::es,i,j,v,hk,h=>by
  obtain⟨m,hm⟩:=hk e (by simp)
  unfold vO at h
  rw[hm]at h
  dsimp only at h
  split at h
  .rename_i hnm
   cases h
   exact⟨bF _,e,by simp,by rw[hm,hnm],rfl⟩
  .obtain⟨h1,e',h2,h3,h4⟩:=NS k n es (i+1) j v (λe he=>hk e (by simp[he])) h
   refine⟨by omega,e',?_,h3,h4⟩
   rw[show j-i=(j-(i+1))+1 by omega,l7]
   exact h2
def a2T(k:IntKind)(n:Int)(v:Value)(es:Array MapEntry)(clock:Nat):Obj:=match vO k n es.toList 0 with
 |some (i,_)=>.map (es.modify i λe=>{ e with key:=.int k n,val:=v }) clock
 |none=>.map (es.push { key:=.int k n,val:=v,born:=clock }) (clock+1)
theorem Nf {P:Program} {t kt et:TypeId} {k:IntKind} (ht:P.underlying t=some (.map kt et)) (hk:P.underlying kt=some (.int k)) {w:World} {g:Nat} {es:Array MapEntry} {clock:Nat} (hb:w.heap[g]?=some (.map es clock)) (hkeys:∀ e ∈ es.toList,∃ m,e.key=.int k m) (n:Int) (v:Value) :
  (Instr.mapUpdate t (.map (some g)) (.int k n) v).run P w=.ok () { w with heap:=w.heap.setIfInBounds g (a2T k n v es clock) }:=by
 have hf:=AY k n es.toList 0 hkeys
 have hc:=uP hk w false 9999 n
 have hc:(Instr.checkKey false 10000 kt (.int k n)).run P w=.ok () w:=hc
 have hg:(Sem.getObj g Sem.pure).run P w=.ok (.map es clock) w:=by
  show Sem.run P (.getObj g .pure) w=_
  simp only[Sem.run,hb]
 have hs:∀o:Obj,(setObj g o).run P w=.ok () { w with heap:=w.heap.setIfInBounds g o }:=λo=>by simp[setObj,Sem.run,hb]
 have hp:=NS k n es.toList 0
 unfold Instr.mapUpdate Instr.findKey a2T
 simp only[getObj,run_underlying ht,Sem.run_bind,Result.andThen_ok,hg,Sem.run_pure,hc,run_underlying hk,hf]
 cases hq:vO k n es.toList 0 with
 |none=>simp only[Sem.run_pure,Result.andThen_ok,hs]
 |some p =>
  obtain⟨i,x⟩:=p
  obtain⟨_,e,h2,h3,_⟩:=hp i x hkeys hq
  rw[tu]at h2
  have h2:es[i]?=some e:=by simpa using h2
  have hst:(Instr.keyThatStays (((es[i]?).map (·.key)).getD (.int k n)) (.int k n)).run P w=.ok (.int k n) w:=by
   rw[h2,bE,fT,h3]
   unfold Instr.keyThatStays
   have:Instr.sameBits 10000 (.int k n) (.int k n)=true:=by unfold Instr.sameBits;simp
   rw[if_pos this];rfl
  simp only[Sem.run_pure,Result.andThen_ok,hst,hs,Sem.run_bind]
def vN(n:ByteArray):List MapEntry->Nat->Option (Nat×Value)
 |[],_=>none
 |e::es,i=>match e.key with
  |.string m=>if n=m then some (i,e.val) else vN n es (i+1)
  |_=>none
theorem AX(n:ByteArray):∀(es:List MapEntry) (i:Nat),(∀e∈es,∃m,e.key=.string m)->Instr.findNow .string (.string n) es i=some (vN n es i)
 |[],i,_=>rfl
 |e::es,i,h=>by
  obtain⟨m,hm⟩:=h e (by simp)
  have ih:=AX n es (i+1) λe he=>h e (by simp[he])
  unfold Instr.findNow vN
  rw[hm]
  simp only[Instr.sameNow,if_true]
  by_cases hnm:n=m
  .subst hnm;rw[(MapKept.bytes_beq n n).2 rfl,if_pos rfl]
  .rw[if_neg hnm]
   have:(n==m)=false:=Bool.eq_false_iff.2 λq=>hnm ((MapKept.bytes_beq n m).1 q)
   rw[this]
   exact ih
theorem zn{P:Program}{kt:TypeId}(hk:P.underlying kt=some .string)(w:World)(b:Bool)(m:Nat)(n:ByteArray):(Instr.checkKey b (m+1) kt (.string n)).run P w=.ok () w:=by
 unfold Instr.checkKey
 simp[run_underlying hk]
theorem He {P:Program} {t kt et:TypeId} (ht:P.underlying t=some (.map kt et)) (hk:P.underlying kt=some .string) {w:World} {g:Nat} {es:Array MapEntry} {clock:Nat} (hb:w.heap[g]?=some (.map es clock)) (hkeys:∀ e ∈ es.toList,∃ m,e.key=.string m) (n:ByteArray) {ti:TypeInfo} {z:Value} (hi:P.info? et=some ti) (hz:ti.zero=some z) (ok:Bool) :
  (Instr.lookup t (.map (some g)) (.string n) ok).run P w=.ok (match vN n es.toList 0 with
   |some (_,v)=>(if ok then .tuple #[v,.bool true] else v)
   |none=>(if ok then .tuple #[z,.bool false] else z)) w:=by
 have hf:=AX n es.toList 0 hkeys
 have hc:=zn hk w es.isEmpty 9999 n
 have hc:(Instr.checkKey es.isEmpty 10000 kt (.string n)).run P w=.ok () w:=hc
 have hg:(Sem.getObj g Sem.pure).run P w=.ok (.map es clock) w:=by
  show Sem.run P (.getObj g .pure) w=_
  simp only[Sem.run,hb]
 unfold Instr.lookup Instr.findKey
 simp only[getObj,run_underlying ht,Sem.run_bind,Result.andThen_ok,hg,Sem.run_pure,hc,run_underlying hk,hf]
 cases vN n es.toList 0 with
 |none=>cases ok<;>simp[zeroValue,typeInfo,hi,hz]
 |some p=>cases ok<;>simp
theorem NR(n:ByteArray):∀(es:List MapEntry) (i j:Nat) (v:Value),(∀e∈es,∃m,e.key=.string m)->vN n es i=some (j,v)->i<=j/\∃e,es[j-i]?=some e/\e.key=.string n/\e.val=v
 |[],i,j,v,_,h=>by cases h
 |e::es,i,j,v,hk,h=>by
  obtain⟨m,hm⟩:=hk e (by simp)
  unfold vN at h
  rw[hm]at h
  dsimp only at h
  split at h
  .rename_i hnm
   cases h
   exact⟨bF _,e,by simp,by rw[hm,hnm],rfl⟩
  .obtain⟨h1,e',h2,h3,h4⟩:=NR n es (i+1) j v (λe he=>hk e (by simp[he])) h
   refine⟨by omega,e',?_,h3,h4⟩
   rw[show j-i=(j-(i+1))+1 by omega,l7]
   exact h2
def a2R(n:ByteArray)(v:Value)(es:Array MapEntry)(clock:Nat):Obj:=match vN n es.toList 0 with
 |some (i,_)=>.map (es.modify i λe=>{ e with key:=.string n,val:=v }) clock
 |none=>.map (es.push { key:=.string n,val:=v,born:=clock }) (clock+1)
theorem Nc {P:Program} {t kt et:TypeId} (ht:P.underlying t=some (.map kt et)) (hk:P.underlying kt=some .string) {w:World} {g:Nat} {es:Array MapEntry} {clock:Nat} (hb:w.heap[g]?=some (.map es clock)) (hkeys:∀ e ∈ es.toList,∃ m,e.key=.string m) (n:ByteArray) (v:Value) :
  (Instr.mapUpdate t (.map (some g)) (.string n) v).run P w=.ok () { w with heap:=w.heap.setIfInBounds g (a2R n v es clock) }:=by
 have hf:=AX n es.toList 0 hkeys
 have hc:=zn hk w false 9999 n
 have hc:(Instr.checkKey false 10000 kt (.string n)).run P w=.ok () w:=hc
 have hg:(Sem.getObj g Sem.pure).run P w=.ok (.map es clock) w:=by
  show Sem.run P (.getObj g .pure) w=_
  simp only[Sem.run,hb]
 have hs:∀o:Obj,(setObj g o).run P w=.ok () { w with heap:=w.heap.setIfInBounds g o }:=λo=>by simp[setObj,Sem.run,hb]
 have hp:=NR n es.toList 0
 unfold Instr.mapUpdate Instr.findKey a2R
 simp only[getObj,run_underlying ht,Sem.run_bind,Result.andThen_ok,hg,Sem.run_pure,hc,run_underlying hk,hf]
 cases hq:vN n es.toList 0 with
 |none=>simp only[Sem.run_pure,Result.andThen_ok,hs]
 |some p =>
  obtain⟨i,x⟩:=p
  obtain⟨_,e,h2,h3,_⟩:=hp i x hkeys hq
  rw[tu]at h2
  have h2:es[i]?=some e:=by simpa using h2
  have hst:(Instr.keyThatStays (((es[i]?).map (·.key)).getD (.string n)) (.string n)).run P w=.ok (.string n) w:=by
   rw[h2,bE,fT,h3]
   unfold Instr.keyThatStays
   have:Instr.sameBits 10000 (.string n) (.string n)=true:=by unfold Instr.sameBits;exact(MapKept.bytes_beq n n).2 rfl
   rw[if_pos this];rfl
  simp only[Sem.run_pure,Result.andThen_ok,hst,hs,Sem.run_bind]
theorem run_makeMap{P:Program}{t kt et:TypeId}(ht:P.underlying t=some (.map kt et))(w:World):(Instr.makeMap t none).run P w=.ok (.map (some w.heap.size)) (w.alloc (.map #[] 0)):=by
 unfold Instr.makeMap
 simp[newObj,Sem.run]
theorem EZ{P:Program}{t kt et:TypeId}(ht:P.underlying t=some (.map kt et))(w:World)(k:IntKind)(n:Int):(Instr.makeMap t (some (.int k n))).run P w=.ok (.map (some w.heap.size)) (w.alloc (.map #[] 0)):=by
 unfold Instr.makeMap
 simp[newObj,Sem.run,run_underlying ht,asInt,asIntOf]
def cKT(P:Program)(t:TypeId):Option KT:=match P.underlying t with
 |some (.int k)=>some (.int k)
 |some .string=>some .str
 |some (.array n e)=>match P.underlying e,P.info? e with
  |some (.int k),some i=>if i.size=1/\n≠1/\n≠0 then some (.arr n k) else none
  |_,_=>none
 |_=>none
def uQ(k:List AV):List MapEntry->Nat->Option (Nat×Value)
 |[],_=>none
 |e::es,i=>if qJ k (gu e.key).cells=true then some (i,e.val) else uQ k es (i+1)
def KT.is:KT->Value->Prop
 |.int k,x=>∃m,x=.int k m
 |.str,x=>∃m,x=.string m
 |.arr n k,x=>∃cs:Array Value,x=.agg cs/\cs.size=n/\∀y∈cs.toList,∃m,y=.int k m
theorem Qq{k:IntKind}{y:Value}(h:okI k (.v y)=true):∃m,y=.int k m:=by
 unfold okI at h
 split at h
 .rename_i k' m hy;cases hy;exact⟨m,by rw[of_decide_eq_true h]⟩
 .cases h
theorem KT.ok_int{k:IntKind}{l:List AV}(h:(KT.int k).ok l=true):∃m,l=[.v (.int k m)]:=by
 cases l with
 |nil=>cases h
 |cons a l=>cases l with
  |nil =>
   have h:okI k a=true:=h
   cases a<;>first|(cases h;done)|skip
   rename_i x
   obtain⟨m,rfl⟩:=Qq h
   exact⟨m,rfl⟩
  |cons b l=>cases h
theorem KT.Lr{l:List AV}(h:KT.str.ok l=true):∃s,l=[.v (.string s)]:=by
 cases l with
 |nil=>cases h
 |cons a l=>cases l with
  |nil =>
   cases a<;>first|(cases h;done)|skip
   rename_i x
   cases x<;>first|(cases h;done)|exact⟨_,rfl⟩
  |cons b l =>
   exfalso
   cases a<;>first|(cases h;done)|skip
   rename_i x
   cases x<;>cases h
theorem KT.a6x{kt:KT}{x:Value}(h:kt.ok (gu x).cells=true)(h1:∀cs,x=.agg cs->cs.size≠1)(hn:∀n k,kt=.arr n k->n≠1):kt.is x:=by
 have agg:∀cs,x=.agg cs->(gu x).cells=cs.toList.map .v:=λcs q=>by rw[q,kJ];rfl
 have one:(∀cs,x≠.agg cs)->(gu x).cells=[.v x]:=λq=>by cases x<;>first|rfl|exact absurd rfl (q _)
 by_cases ha:∃cs,x=.agg cs
 .obtain⟨cs,hcs⟩:=ha
  have hs:=h1 cs hcs
  rw[agg cs hcs]at h
  cases kt with
  |int k =>
   obtain⟨m,q⟩:=KT.ok_int h
   have:=jW List.length q
   simp at this;omega
  |str =>
   obtain⟨m,q⟩:=KT.Lr h
   have:=jW List.length q
   simp at this;omega
  |arr n k =>
   simp only[KT.ok,au,aU]at h
   refine⟨cs,hcs,by simpa using Nat.eq_of_beq_eq_true h.1,λy hy=>Qq (h.2 (.v y) (dW.2 ⟨y,hy,rfl⟩))⟩
 .rw[one λcs q=>ha ⟨cs,q⟩]at h
  cases kt with
  |int k =>
   obtain⟨m,q⟩:=KT.ok_int h
   simp at q
   exact⟨m,q⟩
  |str =>
   obtain⟨s,q⟩:=KT.Lr h
   simp at q
   exact⟨s,q⟩
  |arr n k =>
   exfalso
   simp only[KT.ok,au]at h
   exact hn n k rfl (by have:=iT h.1;simpa using this.symm)
theorem Tv{F:Addr->Option Value}{own:List Ent}{x:Value}{a:AV}{kt:KT}(hn:∀n k,kt=.arr n k->n≠1)(h:R F own x a)(hk:kt.ok a.cells=true)(hf:∀cs,a=.agg cs->cs.length≠1):a=gu x/\kt.is x/\∀cs,x=.agg cs->cs.size≠1:=by
 have a2I:∀y,a.cells=[.v y]->a=.v y:=λy q=>by
  cases a with
  |agg cs=>have:=hf cs rfl;rw[show cs=[.v y] from q]at this;simp at this
  |v x=>simpa[AV.cells]using q
  |_=>simp[AV.cells]at q
 cases kt with
 |int k =>
  obtain⟨m,q⟩:=KT.ok_int hk
  have:=a2I _ q
  subst this
  have hx:=h.dK
  subst hx
  exact⟨rfl,⟨m,rfl⟩,λcs q=>by cases q⟩
 |str =>
  obtain⟨s,q⟩:=KT.Lr hk
  have:=a2I _ q
  subst this
  have hx:=h.dK
  subst hx
  exact⟨rfl,⟨s,rfl⟩,λcs q=>by cases q⟩
 |arr n k =>
  simp only[KT.ok,au,aU]at hk
  have hlen:=iT hk.1
  cases a with
  |agg cs =>
   obtain⟨xs,rfl,hl,h1,hR⟩:=h.gY
   have hn1:=hf cs rfl
   have hl':cs.length=n:=hlen
   have hall:∀(j:Nat) (x:Value) (c:AV),xs[j]?=some x->cs[j]?=some c->c=.v x/\∃m,x=.int k m:=by
    intro j x c p q
    have hc:=hk.2 c (bM q)
    cases c<;>first|(cases hc;done)|skip
    rename_i y
    have:=(hR j x _ p q).dK
    subst this
    exact⟨rfl,Qq hc⟩
   refine⟨?_,⟨xs,rfl,by omega,λy hy=>?_⟩,λcs' q=>by cases q;omega⟩
   .show AV.agg cs=AV.agg (xs.toList.map .v)
    congr 1
    apply gG
    intro j
    rw[aS]
    rcases aM j cs.length with hj|hj
    .have e1:cs[j]?=some cs[j]:=ah hj
     have e2:xs[j]?=some (xs[j]'(by omega)):=aD (by omega)
     have:=(hall j _ _ e2 e1).1
     rw[e1,vI,e2,this];rfl
    .rw[bg hj,bg (by simp;omega)];rfl
   .obtain⟨j,hj⟩:=oW hy
    have hj':xs[j]?=some y:=by simpa using hj
    have hjl:j<cs.length:=by rw[<- hl];exact(fE.1 hj').1
    exact(hall j y cs[j] hj' (ah hjl)).2
  |v x=>exfalso;exact hn n k rfl (by simpa[AV.cells]using hlen.symm)
  |_=>exfalso;exact hn n k rfl (by simpa[AV.cells]using hlen.symm)
theorem zZ.key{F:Addr->Option Value}{en:MapEntry}{x:AV}{kt:KT}(hn:∀n k,kt=.arr n k->n≠1)(h:zZ F en x)(hk:kt.yR x=true):kt.is en.key/\∃a,x=.agg ((gu en.key).cells++[a])/\(gu en.key).cells.length=kt.n/\en.val.oneCell'=true/\RP F en.val a:=by
 obtain⟨a,rfl,h1,h2,h3⟩:=h
 simp only[KT.yR,au]at hk
 have hl:=iT hk.1
 have hl:(gu en.key).cells.length=kt.n:=by simpa using hl
 have ht:((gu en.key).cells++[a]).take kt.n=(gu en.key).cells:=by rw[<- hl,sJ];rfl
 rw[ht]at hk
 exact⟨KT.a6x hk.2 h1 hn,a,rfl,hl,h2,h3⟩
def Rt(F:Addr->Option Value):Option (Nat×Value)->Option (Nat×AV)->Prop
 |none,none=>True
 |some (i,v),some (j,a)=>i=j/\v.oneCell'=true/\RP F v a
 |_,_=>False
def Di:KT->Value->List MapEntry->Nat->Option (Nat×Value)
 |.int k,.int _ n,es,i=>vO k n es i
 |.str,.string s,es,i=>vN s es i
 |.arr _ _,x,es,i=>uQ (gu x).cells es i
 |_,_,_,_=>none
theorem WY(k:IntKind)(n m:Int):qJ [.v (.int k n)] [.v (.int k m)]=decide (n=m):=by
 simp only[qJ,eqC,jA]
 by_cases h:n=m<;>simp[h]
theorem toList_inj{a b:ByteArray}(h:a.toList=b.toList):a=b:=by
 rw[ByteArray.toList_eq,ByteArray.toList_eq]at h
 cases a;cases b;simp at h;rw[h]
theorem WX(n m:ByteArray):qJ [.v (.string n)] [.v (.string m)]=decide (n=m):=by
 simp only[qJ,eqC,jA]
 by_cases h:n=m
 .simp[h]
 .rw[jh h]
  exact Bool.eq_false_iff.2 λq=>h (toList_inj (by simpa using q))
theorem Dh {F:Addr->Option Value} {kt:KT} (hn:∀ n k,kt=.arr n k->n ≠ 1) {x:Value} (hx:kt.is x):∀ (es:List MapEntry) (xs:List AV) (i:Nat),es.length=xs.length->(∀ (j:Nat) (en:MapEntry) (x:AV),es[j]?=some en->xs[j]?=some x->zZ F en x)->xs.all kt.yR=true ->
  (∀e∈es,kt.is e.key)/\Rt F (Di kt x es i) (oh kt.n (gu x).cells xs i)
 |[],[],i,_,_,_=>⟨by simp,by cases kt<;>(first|(obtain⟨m,rfl⟩:=hx)|(obtain⟨m,rfl,_⟩:=hx))<;>trivial⟩
 |[],_::_,_,h,_,_=>by simp at h
 |_::_,[],_,h,_,_=>by simp at h
 |e::es,y::ys,i,hl,hR,ha=>by
  simp only[ji,au]at ha
  have h0:=hR 0 e y rfl rfl
  obtain⟨k1,a,rfl,k2,k3,k4⟩:=h0.key hn ha.1
  obtain⟨m1,m2⟩:=Dh hn hx es ys (i+1) (by simpa using hl) (λj en x p q=>hR (j+1) en x (by simpa using p) (by simpa using q)) ha.2
  refine⟨by simp only[bT,forall_eq_or_imp];exact⟨k1,m1⟩,?_⟩
  have ht:((gu e.key).cells++[a]).take kt.n=(gu e.key).cells:=by rw[<- k2,sJ];rfl
  have hg:((gu e.key).cells++[a]).getD kt.n .any=a:=by rw[<- k2];simp[List.getD]
  have fe:oh kt.n (gu x).cells (.agg ((gu e.key).cells++[a])::ys) i=if qJ (gu x).cells (gu e.key).cells=true then some (i,a) else oh kt.n (gu x).cells ys (i+1):=by
   conv=>lhs;unfold oh
   rw[ht,hg]
  rw[fe]
  cases kt with
  |int k =>
   obtain⟨n,rfl⟩:=hx
   obtain⟨m,hm⟩:=k1
   rw[show(gu e.key).cells=[.v (.int k m)]by rw[hm];rfl,show(gu (.int k n)).cells=[.v (.int k n)] from rfl,WY]
   show Rt F (vO k n (e::es) i) _
   unfold vO
   rw[hm]
   dsimp only
   by_cases hnm:n=m
   .rw[if_pos hnm,gF hnm,if_pos rfl];exact⟨rfl,k3,k4⟩
   .rw[if_neg hnm,jh hnm,if_neg (by simp)];exact m2
  |str =>
   obtain⟨n,rfl⟩:=hx
   obtain⟨m,hm⟩:=k1
   rw[show(gu e.key).cells=[.v (.string m)]by rw[hm];rfl,show(gu (.string n)).cells=[.v (.string n)] from rfl,WX]
   show Rt F (vN n (e::es) i) _
   unfold vN
   rw[hm]
   dsimp only
   by_cases hnm:n=m
   .rw[if_pos hnm,gF hnm,if_pos rfl];exact⟨rfl,k3,k4⟩
   .rw[if_neg hnm,jh hnm,if_neg (by simp)];exact m2
  |arr n k =>
   show Rt F (uQ (gu x).cells (e::es) i) _
   unfold uQ
   by_cases hq:qJ (gu x).cells (gu e.key).cells=true
   .rw[if_pos hq,if_pos hq];exact⟨rfl,k3,k4⟩
   .rw[if_neg hq,if_neg hq];exact m2
section
variable{P:Program}{w:World}
theorem TA{n:Nat}{k:IntKind}{x y:Value}(hx:(KT.arr n k).is x)(hy:(KT.arr n k).is y):qJ (gu x).cells (gu y).cells=true↔x=y:=by
 obtain⟨xs,rfl,hxl,hxi⟩:=hx
 obtain⟨ys,rfl,hyl,hyi⟩:=hy
 rw[kJ,kJ]
 have key:∀(l m:List Value),l.length=m.length->(∀y∈l,∃m,y=.int k m)->(∀y∈m,∃m,y=.int k m)->(qJ (l.map .v) (m.map .v)=true↔l=m):=by
  intro l
  induction l with
  |nil=>intro m h _ _;cases m with
   |nil=>simp[qJ]
   |cons=>simp at h
  |cons a l ih =>
   intro m h h1 h2
   cases m with
   |nil=>simp at h
   |cons b m =>
    obtain⟨a',rfl⟩:=h1 a (by simp)
    obtain⟨b',rfl⟩:=h2 b (by simp)
    have:=ih m (by simpa using h) (λy hy=>h1 y (by simp[hy])) (λy hy=>h2 y (by simp[hy]))
    simp only[dn,qJ,au,this,eqC,wz,Value.int.injEq,true_and,nU]
 simp only[Value.cells]
 rw[key xs.toList ys.toList (by simp[hxl,hyl]) hxi hyi]
 constructor
 .intro h;rw[Array.toList_inj.1 h]
 .intro h;injection h with h;rw[h]
theorem zm{e:TypeId}{k:IntKind}(he:P.underlying e=some (.int k))(xs:Array Value){j:Nat}{v:Value}(hv:xs[j]?=some v):(part e xs j).run P w=.ok v w:=by
 unfold part isAgg
 simp only[Sem.run_bind,run_underlying he,Result.andThen_ok]
 simp[hv]
theorem Q7 {kt e:TypeId} {k:IntKind} {n:Nat} {i:TypeInfo} (ht:P.underlying kt=some (.array n e)) (he:P.underlying e=some (.int k)) (hi:P.info? e=some i) (h1:i.size=1) {x y:Value} (hx:(KT.arr n k).is x) (hy:(KT.arr n k).is y) :
  (Op.equal kt x y).run P w=.ok (qJ (gu x).cells (gu y).cells) w:=by
 obtain⟨xs,rfl,hxl,hxi⟩:=hx
 obtain⟨ys,rfl,hyl,hyi⟩:=hy
 have hc:P.cellsOf e=1:=by simp[Program.cellsOf,hi,h1]
 show(Op.equalIn (9999+1) kt (.agg xs) (.agg ys)).run P w=_
 rw[run_equalIn_array w 9999 xs ys ht hi,hc,rP,kJ,kJ]
 have key:∀m s,s+m=n->(Op.eqItems 9999 e 1 xs ys (List.range' s m)).run P w=.ok (qJ ((xs.toList.drop s).map .v) ((ys.toList.drop s).map .v)) w:=by
  intro m
  induction m with
  |zero =>
   intro s hs
   have e1:xs.toList.drop s=[]:=iI (by simp;omega)
   have e2:ys.toList.drop s=[]:=iI (by simp;omega)
   rw[e1,e2]
   rfl
  |succ m ih =>
   intro s hs
   have hx:xs.toList.drop s=xs[s]'(by omega)::xs.toList.drop (s+1):=by rw[jc (by simp;omega)];simp
   have hy:ys.toList.drop s=ys[s]'(by omega)::ys.toList.drop (s+1):=by rw[jc (by simp;omega)];simp
   have px:xs[s]?=some (xs[s]'(by omega)):=aD (by omega)
   have py:ys[s]?=some (ys[s]'(by omega)):=aD (by omega)
   obtain⟨a,ha⟩:=hxi (xs[s]'(by omega)) (by simp)
   obtain⟨b,hb⟩:=hyi (ys[s]'(by omega)) (by simp)
   rw[hx,hy,ha,hb]
   rw[ha]at px
   rw[hb]at py
   rw[pF]
   unfold Op.eqItems
   rw[lJ]
   simp only[Sem.run_bind,zm he xs px,zm he ys py,Result.andThen_ok]
   rw[show(9999:Nat)=9998+1 from rfl,OC 9998 e k k a b he]
   simp only[Result.andThen_ok,dn,qJ,eqC]
   have ih:=ih (s+1) (by omega)
   cases hab:(a==b)
   .simp
   .simp only[qo,aT,if_false,Bool.true_and];exact ih
 have:=key n 0 (by omega)
 simpa[Value.cells]using this
theorem zo {kt e:TypeId} {k:IntKind} {n:Nat} {i:TypeInfo} (ht:P.underlying kt=some (.array n e)) (he:P.underlying e=some (.int k)) (hi:P.info? e=some i) (h1:i.size=1) {x:Value} (hx:(KT.arr n k).is x) (b:Bool) (m:Nat) :
  (Instr.checkKey b (m+2) kt x).run P w=.ok () w:=by
 obtain⟨xs,rfl,hxl,hxi⟩:=hx
 have hs:(sizeOf e).run P w=.ok 1 w:=by simp[sizeOf,typeInfo,hi,h1]
 unfold Instr.checkKey
 simp only[Sem.run_bind,run_underlying ht,Result.andThen_ok]
 simp only[Std.Legacy.Range.forIn_eq_forIn_range',Std.Legacy.Range.size,tu,Nat.add_one_sub_one,Nat.div_one]
 have key:∀ m' s,s + m'=n->(forIn (List.range' s m') PUnit.unit fun j (_:PUnit)=>do
   let q <- sizeOf e
   let p <- part e xs (j*q)
   Instr.checkKey b (m+1) e p
   (Pure.pure (ForInStep.yield PUnit.unit):Sem _):Sem PUnit).run P w=.ok PUnit.unit w:=by
  intro m'
  induction m' with
  |zero=>intro s _;simp
  |succ m' ih =>
   intro s hs'
   have px:xs[s]?=some (xs[s]'(by omega)):=aD (by omega)
   obtain⟨a,ha⟩:=hxi (xs[s]'(by omega)) (by simp)
   rw[ha]at px
   rw[pF]
   simp only[List.forIn_cons,Sem.run_bind,hs,Result.andThen_ok,lJ,zm he xs px,uP he w b m a,Sem.run_pure]
   exact ih (s+1) (by omega)
 have:=key n 0 (by omega)
 simp at this ⊢
 rw[this];rfl
def KTy(P:Program)(kt:TypeId):KT->Prop
 |.int k=>P.underlying kt=some (.int k)
 |.str=>P.underlying kt=some .string
 |.arr n k=>n≠1/\∃e i,P.underlying kt=some (.array n e)/\P.underlying e=some (.int k)/\P.info? e=some i/\i.size=1
theorem MN{kt:TypeId}{q:KT}(h:cKT P kt=some q):KTy P kt q:=by
 unfold cKT at h
 split at h
 .rename_i k hk;cases h;exact hk
 .rename_i hk;cases h;exact hk
 .rename_i n e hk
  split at h
  .rename_i k i h1 h2
   split at h
   .rename_i hc;cases h;exact⟨hc.2.1,e,i,hk,h1,h2,hc.1⟩
   .cases h
  .cases h
 .cases h
theorem KTy.n1{kt:TypeId}{q:KT}(h:KTy P kt q):∀n k,q=.arr n k->n≠1:=λn k e=>by subst e;exact h.1
theorem Aa {kt e:TypeId} {k:IntKind} {n:Nat} {i:TypeInfo} (ht:P.underlying kt=some (.array n e)) (he:P.underlying e=some (.int k)) (hi:P.info? e=some i) (h1:i.size=1) {x:Value} (hx:(KT.arr n k).is x) (es:List MapEntry) (hes:∀ e ∈ es,(KT.arr n k).is e.key) :
  (Instr.findKey kt x es).run P w=.ok (uQ (gu x).cells es 0) w:=by
 have ask:∀(es:List MapEntry) (j:Nat),(∀e∈es,(KT.arr n k).is e.key)->(Instr.findAsking kt x es j).run P w=.ok (uQ (gu x).cells es j) w:=by
  intro es
  induction es with
  |nil=>intro j _;rfl
  |cons en es ih =>
   intro j h
   unfold Instr.findAsking uQ
   simp only[Sem.run_bind,Q7 ht he hi h1 hx (h en (by simp)),Result.andThen_ok]
   split
   .rfl
   .exact ih (j+1) λe he=>h e (by simp[he])
 unfold Instr.findKey
 simp only[Sem.run_bind,run_underlying ht,Result.andThen_ok]
 cases es with
 |nil=>rfl
 |cons en es =>
  have:Instr.findNow (.array n e) x (en::es) 0=none:=by
   unfold Instr.findNow Instr.sameNow
   rfl
  rw[this]
  exact ask (en::es) 0 hes
theorem Q6 {t kt et:TypeId} {q:KT} (ht:P.underlying t=some (.map kt et)) (hq:KTy P kt q) {g:Nat} {es:Array MapEntry} {clock:Nat} (hb:w.heap[g]?=some (.map es clock)) (hes:∀ e ∈ es.toList,q.is e.key) {x:Value} (hx:q.is x) {ti:TypeInfo} {z:Value} (hi:P.info? et=some ti) (hz:ti.zero=some z) (ok:Bool) :
  (Instr.lookup t (.map (some g)) x ok).run P w=.ok (match Di q x es.toList 0 with
   |some (_,v)=>(if ok then .tuple #[v,.bool true] else v)
   |none=>(if ok then .tuple #[z,.bool false] else z)) w:=by
 cases q with
 |int k=>obtain⟨n,rfl⟩:=hx;exact Hf ht hq hb hes n hi hz ok
 |str=>obtain⟨n,rfl⟩:=hx;exact He ht hq hb hes n hi hz ok
 |arr n k =>
  obtain⟨hn,e,i,h1,h2,h3,h4⟩:=hq
  have hg:(Sem.getObj g Sem.pure).run P w=.ok (.map es clock) w:=by
   show Sem.run P (.getObj g .pure) w=_
   simp only[Sem.run,hb]
  have hc:(Instr.checkKey es.isEmpty 10000 kt x).run P w=.ok () w:=zo h1 h2 h3 h4 hx es.isEmpty 9998
  have hf:=Aa (w:=w) h1 h2 h3 h4 hx es.toList hes
  show _=Result.ok (match uQ (gu x).cells es.toList 0 with
   |some (_,v)=>(if ok then Value.tuple #[v,.bool true] else v)
   |none=>(if ok then Value.tuple #[z,.bool false] else z)) w
  unfold Instr.lookup
  simp only[getObj,run_underlying ht,Sem.run_bind,Result.andThen_ok,hg,Sem.run_pure,hc,hf]
  cases uQ (gu x).cells es.toList 0 with
  |none=>cases ok<;>simp[zeroValue,typeInfo,hi,hz]
  |some p=>cases ok<;>simp
def La(q:KT)(x v:Value)(es:Array MapEntry)(clock:Nat):Obj:=match Di q x es.toList 0 with
 |some (i,_)=>.map (es.modify i λe=>{ e with key:=x,val:=v }) clock
 |none=>.map (es.push { key:=x,val:=v,born:=clock }) (clock+1)
theorem NT{n:Nat}{k:IntKind}{x:Value}(hx:(KT.arr n k).is x):∀(es:List MapEntry) (i j:Nat) (v:Value),(∀e∈es,(KT.arr n k).is e.key)->uQ (gu x).cells es i=some (j,v)->i<=j/\∃e,es[j-i]?=some e/\e.key=x/\e.val=v
 |[],i,j,v,_,h=>by cases h
 |e::es,i,j,v,hk,h=>by
  unfold uQ at h
  split at h
  .rename_i hq
   cases h
   exact⟨bF _,e,by simp,((TA hx (hk e (by simp))).1 hq).symm,rfl⟩
  .obtain⟨h1,e',h2,h3,h4⟩:=NT hx es (i+1) j v (λe he=>hk e (by simp[he])) h
   refine⟨by omega,e',?_,h3,h4⟩
   rw[show j-i=(j-(i+1))+1 by omega,l7]
   exact h2
theorem KJ{n:Nat}{k:IntKind}{x:Value}(hx:(KT.arr n k).is x):Instr.sameBits 10000 x x=true:=by
 obtain⟨xs,rfl,_,hi⟩:=hx
 show Instr.sameBits (9999+1) (.agg xs) (.agg xs)=true
 unfold Instr.sameBits
 simp only[beq_self_eq_true,Bool.true_and,aU]
 intro p hp
 obtain⟨a,b⟩:=p
 have hab:a=b:=by
  have key:∀(l:List Value),(a,b)∈l.zip l->a=b:=by
   intro l
   induction l with
   |nil=>intro h;cases h
   |cons c l ih =>
    intro h
    simp only[List.zip_cons_cons,bT,jw]at h
    rcases h with⟨rfl,rfl⟩|h
    .rfl
    .exact ih h
  exact key _ hp
 subst hab
 obtain⟨m,rfl⟩:=hi a (List.of_mem_zip hp).1
 unfold Instr.sameBits
 simp
theorem a0x {t kt et:TypeId} {q:KT} (ht:P.underlying t=some (.map kt et)) (hq:KTy P kt q) {g:Nat} {es:Array MapEntry} {clock:Nat} (hb:w.heap[g]?=some (.map es clock)) (hes:∀ e ∈ es.toList,q.is e.key) {x:Value} (hx:q.is x) (v:Value) :
  (Instr.mapUpdate t (.map (some g)) x v).run P w=.ok () { w with heap:=w.heap.setIfInBounds g (La q x v es clock) }:=by
 cases q with
 |int k=>obtain⟨n,rfl⟩:=hx;exact Nf ht hq hb hes n v
 |str=>obtain⟨n,rfl⟩:=hx;exact Nc ht hq hb hes n v
 |arr n k =>
  obtain⟨hn,e,i,h1,h2,h3,h4⟩:=hq
  have hg:(Sem.getObj g Sem.pure).run P w=.ok (.map es clock) w:=by
   show Sem.run P (.getObj g .pure) w=_
   simp only[Sem.run,hb]
  have hs:∀o:Obj,(setObj g o).run P w=.ok () { w with heap:=w.heap.setIfInBounds g o }:=λo=>by simp[setObj,Sem.run,hb]
  have hc:(Instr.checkKey false 10000 kt x).run P w=.ok () w:=zo h1 h2 h3 h4 hx false 9998
  have hf:=Aa (w:=w) h1 h2 h3 h4 hx es.toList hes
  have hp:=NT hx es.toList 0
  show _=Result.ok () { w with heap:=w.heap.setIfInBounds g (match uQ (gu x).cells es.toList 0 with
   |some (i,_)=>.map (es.modify i λe=>{ e with key:=x,val:=v }) clock
   |none=>.map (es.push { key:=x,val:=v,born:=clock }) (clock+1)) }
  unfold Instr.mapUpdate
  simp only[getObj,run_underlying ht,Sem.run_bind,Result.andThen_ok,hg,Sem.run_pure,hc,hf]
  cases hq:uQ (gu x).cells es.toList 0 with
  |none=>simp only[Sem.run_pure,Result.andThen_ok,hs]
  |some p =>
   obtain⟨j,y⟩:=p
   obtain⟨_,e,k2,k3,_⟩:=hp j y hes hq
   rw[tu]at k2
   have k2:es[j]?=some e:=by simpa using k2
   have hst:(Instr.keyThatStays (((es[j]?).map (·.key)).getD x) x).run P w=.ok x w:=by
    rw[k2,bE,fT,k3]
    unfold Instr.keyThatStays
    rw[if_pos (KJ hx)];rfl
   simp only[Sem.run_pure,Result.andThen_ok,hst,hs,Sem.run_bind]
end
section
variable{P:Program}{Gl:Nat->Option (List AV)}{F:Addr->Option Value}{own:List Ent}{B:Nat}{w0:W0}{σ:St}{act:Act}{w:World}
theorem Oz{a:AV}(h:Fw a=true):∀cs,a=.agg cs->cs.length≠1:=λcs e=>by
 subst e
 intro q
 have h:(!(Nat.beq cs.length 1))=true:=h
 rw[q]at h
 cases h
theorem Inv.Tf(h:Inv Gl F own B w0 σ act w){x:Value}{id:Nat}{ob:aL}(hR:R F own x (.mp id))(hob:σ.h[id]?=some ob):∃e g es clock,own[id]?=some e/\e.g=some g/\x=.map (some g)/\ob.sz=0/\ob.pr=true/\w.heap[g]?=some (.map es clock)/\es.size=ob.es.length/\∀(i:Nat) (en:MapEntry) (x:AV),es[i]?=some en->ob.es[i]?=some x->zZ F en x:=by
 obtain⟨e,he,h0,g,hg,rfl⟩:=hR.Bo
 rcases h.objs id e ob he hob with⟨h1,h2⟩|⟨h1,h2,h3,g',hg',es,clock,k1,k2,k3,k4⟩
 .have:=h2.2.1;omega
 .rw[hg]at hg';cases hg'
  exact⟨e,g,es,clock,he,hg,rfl,h1,h3,k1,k2,k3⟩
theorem a3l (h:Inv Gl F own B w0 σ act w) {o:Oper} {t kt et:TypeId} {hint:Option Operand} (ho:o.op=.makeMap t hint) (ht:P.underlying t=some (.map kt et))
  {p:Prop} {r:AV} {h':List aL} (hs:step Gl σ (.mmk t (hint.map bB))=some (p,r,h')) (hp:p):Ok1 P Gl B w0 σ act w o r h':=by
 have fin:∀v:Option Value,v=hint.map act.eval->(Instr.makeMap t v).run P w=.ok (.map (some w.heap.size)) (w.alloc (.map #[] 0))->Ok1 P Gl B w0 σ act w o (.mp σ.h.length) (σ.h++[⟨t,0,0,true,[]⟩]):=by
  intro v hv hrun
  refine⟨.value (.map (some w.heap.size)),.map (some w.heap.size),w.alloc (.map #[] 0),F,own++[⟨some w.heap.size,0,0,0⟩],?_,.inl rfl,h.a3F t,?_⟩
  .unfold execOp
   simp only[ho,<- hv,hrun,Sem.run_bind,Result.andThen_ok,Sem.run_pure]
  .rw[<- h.hl]
   exact .mp _ _ _ (dI) rfl ⟨_,rfl,rfl⟩
 simp only[step]at hs
 cases hint with
 |none =>
  simp only[oo]at hs
  cases hs
  exact fin none rfl (run_makeMap ht w)
 |some x =>
  have hx:=h.ev x
  simp only[bE]at hs
  split at hs
  .rename_i q;cases q
  .rename_i k n hv
   cases hs
   injection hv with hv
   rw[hv]at hx
   exact fin (some (.int k n)) (by rw[bE,hx.dK]) (EZ ht w k n)
  .cases hs
theorem a0R (h:Inv Gl F own B w0 σ act w) {o:Oper} {t kt et:TypeId} {x k:Operand} {ok:Bool} (ho:o.op=.lookup t x k ok) (ht:P.underlying t=some (.map kt et)) {q:KT} (hq:KTy P kt q) {ti:TypeInfo} {z:Value} (hi:P.info? et=some ti) (hz:ti.zero=some z)
  {p:Prop} {r:AV} {h':List aL} (hs:step Gl σ (.sU q ok z (bB x) (bB k))=some (p,r,h')) (hp:p):Ok1 P Gl B w0 σ act w o r h':=by
 have hx:=h.ev x
 have hk:=h.ev k
 simp only[step]at hs
 split at hs
 .rename_i id hv
  rw[hv]at hx
  split at hs
  .rename_i ob hob
   split at hs
   .rename_i hc
    obtain⟨e,g,es,clock,he,hg,hxv,h0,hpr,hb,hsz,hE⟩:=h.Tf hx hob
    obtain⟨ka,kis,kag⟩:=Tv hq.n1 hk hc.2.1 (Oz hc.2.2.2)
    have hpos:=Dh hq.n1 kis es.toList ob.es 0 (by simpa using hsz) (λj en x a b=>hE j en x (by simpa using a) b) hc.2.2.1
    have run:=Q6 (w:=w) ht hq hb hpos.1 kis hi hz ok
    have hP:=hpos.2
    rw[<- ka]at hP
    have exe:∀v,(Instr.lookup t (.map (some g)) (act.eval k) ok).run P w=.ok v w->(execOp act.eval o).run P w=.ok (.value v) w:=λv hv=>by
     unfold execOp
     simp only[ho,hxv,hv,Sem.run_bind,Result.andThen_ok,Sem.run_pure]
    cases hf:oh q.n (σ.val Gl (bB k)).cells ob.es 0 with
    |none =>
     rw[hf]at hs hP
     cases hs
     cases hpk:Di q (act.eval k) es.toList 0 with
     |some _=>rw[hpk]at hP;exact hP.elim
     |none =>
      rw[hpk]at run
      refine Ok1.mk h (exe _ run) ?_
      cases ok with
      |false=>exact .pure (.v z)
      | true=>exact .pure (.tup _ _ rfl fun j x a p q=>by
        match j with
        |0=>simp at p q;subst p q;exact .v _
        |1=>simp at p q;subst p q;exact .v _
        |j+2=>simp at p)
    |some f =>
     obtain⟨i,v⟩:=f
     rw[hf]at hs hP
     cases hs
     cases hpk:Di q (act.eval k) es.toList 0 with
     |none=>rw[hpk]at hP;exact hP.elim
     |some pv =>
      obtain⟨j,y⟩:=pv
      rw[hpk]at run hP
      obtain⟨_,_,hRv⟩:=hP
      refine Ok1.mk h (exe _ run) ?_
      cases ok with
      |false=>exact .pure hRv
      | true=>exact .pure (.tup _ _ rfl fun j x a p q=>by
        match j with
        |0=>simp at p q;subst p q;exact hRv
        |1=>simp at p q;subst p q;exact .v _
        |j+2=>simp at p)
   .cases hs
  .cases hs
 .cases hs
theorem a0G{q:KT}{x:Value}(hx:q.is x):∀(es:List MapEntry) (i:Nat) (j:Nat) (v:Value),Di q x es i=some (j,v)->i<=j/\j<i+es.length:=by
 cases q with
 |int k =>
  obtain⟨n,rfl⟩:=hx
  intro es
  induction es with
  |nil=>intro i j v h;cases h
  |cons e es ih =>
   intro i j v h
   replace h:vO k n (e::es) i=some (j,v):=h
   unfold vO at h
   split at h
   .split at h
    .cases h;simp
    .have:=ih (i+1) j v h;simp;omega
   .cases h
 |str =>
  obtain⟨n,rfl⟩:=hx
  intro es
  induction es with
  |nil=>intro i j v h;cases h
  |cons e es ih =>
   intro i j v h
   replace h:vN n (e::es) i=some (j,v):=h
   unfold vN at h
   split at h
   .split at h
    .cases h;simp
    .have:=ih (i+1) j v h;simp;omega
   .cases h
 |arr m k =>
  intro es
  induction es with
  |nil=>intro i j v h;cases h
  |cons e es ih =>
   intro i j v h
   replace h:uQ (gu x).cells (e::es) i=some (j,v):=h
   unfold uQ at h
   split at h
   .cases h;simp
   .have:=ih (i+1) j v h;simp;omega
theorem O8 (h:Inv Gl F own B w0 σ act w) {o:Oper} {t kt et:TypeId} {x k y:Operand} (ho:o.op=.mapUpdate t x k y\/o.op=.insert t x k y) (ht:P.underlying t=some (.map kt et)) {q:KT} (hq:KTy P kt q)
  {p:Prop} {r:AV} {h':List aL} (hs:step Gl σ (.tY q (bB x) (bB k) (bB y))=some (p,r,h')) (hp:p):Ok1 P Gl B w0 σ act w o r h':=by
 have hx:=h.ev x
 have hk:=h.ev k
 have hy:=h.ev y
 simp only[step]at hs
 split at hs
 .rename_i id hv
  rw[hv]at hx
  split at hs
  .rename_i ob hob
   split at hs
   .rename_i hc
    obtain⟨e,g,es,clock,he,hg,hxv,h0,hpr,hb,hsz,hE⟩:=h.Tf hx hob
    obtain⟨ka,kis,kag⟩:=Tv hq.n1 hk hc.2.1 (Oz hc.2.2.2.2)
    have hpos:=Dh hq.n1 kis es.toList ob.es 0 (by simpa using hsz) (λj en x a b=>hE j en x (by simpa using a) b) hc.2.2.1
    have run:=a0x (w:=w) ht hq hb hpos.1 kis (act.eval y)
    obtain⟨y1,y2,y3⟩:=A9 hy hc.2.2.2.1
    have y2:RP F (act.eval y) (σ.val Gl (bB y)):=by unfold RC at y2;rw[if_pos rfl]at y2;exact y2
    have hP:=hpos.2
    rw[<- ka]at hP
    have glt:g<w.heap.size:=h.zw he hg
    have exe:(execOp act.eval o).run P w=.ok .skip { w with heap:=w.heap.setIfInBounds g (La q (act.eval k) (act.eval y) es clock) }:=by
     unfold execOp
     rcases ho with ho|ho<;>simp only[ho,hxv,run,Sem.run_bind,Result.andThen_ok,Sem.run_pure]
    have newE:∀b:Nat,zZ F { key:=act.eval k,val:=act.eval y,born:=b } (.agg ((σ.val Gl (bB k)).cells++[σ.val Gl (bB y)])):=λb=>⟨_,by rw[ka],kag,y1,y2⟩
    have fin:∀ob':aL,ob'.sz=0->ob'.pr=true->(∃(es':Array MapEntry) (clock':Nat),La q (act.eval k) (act.eval y) es clock=.map es' clock'/\es'.size=ob'.es.length/\∀(i:Nat) (en:MapEntry) (x:AV),es'[i]?=some en->ob'.es[i]?=some x->zZ F en x)->Ok1 P Gl B w0 σ act w o .any (σ.h.set id ob'):=by
     intro ob' a1 a2 ⟨es',clock',a3,a4,a5⟩
     refine⟨_,undef,_,F,own,exe,.inr ⟨rfl,rfl⟩,h.a2S he hob hg h0 a1 a2 (λj hj=>?_) ⟨es',clock',?_,a4,a5⟩ rfl rfl rfl (by simp),.pure (.any _)⟩
     .rw[jP,if_neg (Ne.symm hj)]
     .simp[jP,glt,a3]
    cases hf:oh q.n (σ.val Gl (bB k)).cells ob.es 0 with
    |none =>
     rw[hf]at hs hP
     cases hs
     cases hpk:Di q (act.eval k) es.toList 0 with
     |some _=>rw[hpk]at hP;exact hP.elim
     |none =>
      refine fin _ h0 rfl ⟨es.push { key:=act.eval k,val:=act.eval y,born:=clock },clock+1,?_,by simp[hsz],λi en x a b=>?_⟩
      .unfold La;rw[hpk]
      .rcases oJ i es.size with hi|hi|hi
       .rw[Array.getElem?_push_lt hi]at a
        have b':ob.es[i]?=some x:=by rw[aH (by omega)]at b;exact b
        exact hE i en x (by rw[aD hi];exact a) b'
       .subst hi
        simp at a
        rw[hsz]at b
        simp at b
        subst a b
        exact newE clock
       .rw[uH (by simp;omega)]at a;cases a
    |some f =>
     obtain⟨i,v⟩:=f
     rw[hf]at hs hP
     cases hs
     cases hpk:Di q (act.eval k) es.toList 0 with
     |none=>rw[hpk]at hP;exact hP.elim
     |some pv =>
      obtain⟨j,y'⟩:=pv
      rw[hpk]at hP
      obtain⟨hji,_,_⟩:=hP
      subst hji
      have hj:=a0G kis es.toList 0 j y' hpk
      refine fin _ h0 rfl ⟨es.modify j λe=>{ e with key:=act.eval k,val:=act.eval y },clock,?_,by simp[hsz],λi en x a b=>?_⟩
      .unfold La;rw[hpk]
      .rw[Array.getElem?_modify]at a
       have b:(ob.es.set j (.agg ((σ.val Gl (bB k)).cells++[σ.val Gl (bB y)])))[i]?=some x:=b
       by_cases hji:j=i
       .subst hji
        rw[if_pos rfl]at a
        rw[aW (by simp at hj;omega)]at b
        cases b
        cases hen:es[j]? with
        |none=>rw[hen]at a;cases a
        |some en0=>rw[hen]at a;cases a;exact newE _
       .rw[if_neg hji]at a
        rw[aB hji]at b
        exact hE i en x a b
   .cases hs
  .cases hs
 .cases hs
theorem a3m (h:Inv Gl F own B w0 σ act w) {o:Oper} {t et:TypeId} {x y:Operand} (ho:o.op=.makeSlice t x y) {i:TypeInfo} {z:Value} (ht:P.underlying t=some (.slice et)) (hi:P.info? et=some i) (hz:i.zero=some z) (hsz:z.cells.size=i.size) (h0:0 < i.size) (h1:z.cells.all (·.oneCell')=true)
  {p:Prop} {r:AV} {h':List aL} (hs:step Gl σ (.mk2 et i.size i.bytes z (bB x) (bB y))=some (p,r,h')) (hp:p):Ok1 P Gl B w0 σ act w o r h':=by
 have hex:=h.ev x
 have hey:=h.ev y
 simp only[step]at hs
 split at hs
 .rename_i l c hv hv2
  rw[hv]at hex
  rw[hv2]at hey
  obtain⟨rfl,h2⟩:=aG (aI hs)
  obtain⟨rfl,rfl⟩:=aG h2
  obtain⟨p0,p1,p2,p3⟩:=hp
  have hb:(i.bytes:Int)*c<=281474976710656:=by
   rw[zW];unfold lG at p2;omega
  have run:=run_make (P:=P) w t et i z ht hi hz .i64 .i64 l c p0 p1 hb (by omega)
  have hel:∀(k:Nat) (y:AV),(List.replicate l.toNat (gu z))[k]?=some y->k<l.toNat/\y=gu z:=λk y hy=>by
   have hk:k<l.toNat:=by have:=(aj.1 hy).1;simpa using this
   simp[hk]at hy
   exact⟨hk,hy.symm⟩
  refine Ok1.new h (ob:=⟨et,i.size,0,true,List.replicate l.toNat (gu z)⟩) (cap:=c.toNat) (cs:=madeCells z.cells (c.toNat*i.size)) (x:=.slice (some ⟨w.heap.size,0,none⟩) l.toNat c.toNat) h0 rfl (by simp;omega) (by simp[maxLen];omega) ?_ (by simp[size_madeCells]) ?_ ?_ ?_
  .intro k y hy
   obtain⟨_,rfl⟩:=hel k y hy
   rw[kJ];simpa using hsz
  .intro k j y a hy hb'
   obtain⟨hk,rfl⟩:=hel k y hy
   rw[kJ]at hb'
   simp at hb'
   obtain⟨v,hv',rfl⟩:=hb'
   have hj:j<z.cells.size:=(fE.1 hv').1
   have hlt:k*i.size+j<c.toNat*i.size:=by
    have:(k+1)*i.size<=c.toNat*i.size:=cO _ (by omega)
    rw[bY]at this;omega
   have hmod:(k*i.size+j)%z.cells.size=j:=by
    rw[hsz,wh,Ak]
    exact zO (by omega)
   refine⟨v,?_,fM.1 h1 v (rC hv'),RP.v v⟩
   simp only
   unfold madeCells
   rw[mq,Array.getElem?_range,if_pos hlt]
   simp only[bE,hmod]
   rw[getElem!_pos z.cells j hj]
   rw[aD hj]at hv'
   exact hv'
  .unfold execOp
   simp only[ho,hex.dK,hey.dK]
   simp[run]
  .rw[<- h.hl]
   refine .row _ _ _ _ _ _ _ lg (by simp) ⟨_,_,rfl,by omega,λ_=>rfl⟩ (λ_=>⟨rfl,by simp,λ_=>⟨c.toNat,by simp,?_⟩⟩) (by first|omega|assumption|(simp;done)|(simp;omega)|(dsimp only;omega))
   simp
 .cases hs
end
def PZ:Value->Value->Bool
 |.int k a,.int k' b=>decide (k=k')&&decide (a=b)
 |.bool a,.bool b=>a==b
 |.string a,.string b=>decide (a.data.toList=b.data.toList)
 |.slice none 0 0,.slice none 0 0=>true
 |_,_=>false
theorem VB{a b:Value}(h:PZ a b=true):a=b:=by
 unfold PZ at h
 split at h
 .simp at h;obtain⟨rfl,rfl⟩:=h;rfl
 .simp at h;rw[h]
 .rename_i x y
  have h:=of_decide_eq_true h
  obtain⟨⟨x⟩⟩:=x
  obtain⟨⟨y⟩⟩:=y
  simp only at h
  rw[h]
 .rfl
 .cases h
def FY:List Value->List Value->Bool
 |[],[]=>true
 |a::l,b::m=>PZ a b&&FY l m
 |_,_=>false
theorem II:∀{l m:List Value},FY l m=true->l=m
 |[],[],_=>rfl
 |[],_::_,h=>by cases h
 |_::_,[],h=>by cases h
 |a::l,b::m,h=>by
  rw[FY,au]at h
  rw[VB h.1,II h.2]
def JY(P:Program):Nat->TypeId->TypeId
 |0,t=>t
 |k+1,t=>match P.underlying t with
  |some (.array _ e)=>JY P k e
  |_=>t
def a6z(P:Program)(t:TypeId):Bool:=match P.underlying t with
 |some (.array _ _)=>true
 |_=>false
def a3N(P:Program)(t:TypeId):Bool:=match P.underlying (JY P 4 t) with
 |some (.pointer _)=>true
 |_=>false
def MO(P:Program)(t:TypeId)(z:Value):Option I :=
 if(a6z P t&&!a3N P t)=true then match(P.info? (JY P 4 t)).bind (·.zero) with
  |some b=>if FY z.cells.toList (yP b (z.cells.size/b.cells.size))=true/\z.cells.size/b.cells.size<=maxLen/\0<b.cells.size/\b.cells.all (·.oneCell')=true then some (.alloca t b.cells.size (z.cells.size/b.cells.size) b) else none
  |none=>none
 else if 0<z.cells.size/\z.cells.all (·.oneCell')=true then some (.alloc t z) else none
def Sk:Operand->Operand->Bool
 |.tmp a,.tmp b=>a==b
 |.const (.int .i64 a),.const (.int .i64 b)=>a==b
 |_,_=>false
def places(P:Program)(t:TypeId):Option (List (Nat×Nat)) :=
 match P.underlying t with
 |some (.struct fs)=>fs.toList.mapM λf=>(agT P f.type).map λa=>(f.offset,a.2)
 |some (.array n e)=>(agT P e).map λa=>(List.range n).map λi=>(i*a.2,a.2)
 |_=>none
def DJ(pl:List (Nat×Nat)):List (Nat×Operand)->Option (List (Nat×Nat×Opd))
 |[]=>some []
 |(i,x)::r=>match pl[i]?,DJ pl r with
  |some (o,s),some l=>some ((o,s,bB x)::l)
  |_,_=>none
def M0:Operand->Bool
 |.const (.slice none 0 0)=>true
 |_=>false
theorem TB{y:Operand}(h:M0 y=true):y=.const (.slice none 0 0):=by
 unfold M0 at h
 split at h
 .rfl
 .cases h
def yK:BinOp->Option Bool
 |.eql=>some false
 |.neq=>some true
 |_=>none
theorem Fa{op:BinOp}{neg:Bool}(h:yK op=some neg):op=(if neg then .neq else .eql):=by
 cases op<;>simp[yK]at h<;>subst h<;>rfl
def X7(P:Program)(op:BinOp)(xt:TypeId)(x y:Operand):Option I :=
 match P.underlying xt with
 |some (.int _)=>some (.bin op (bB x) (bB y))
 |some .string=>some (.bin op (bB x) (bB y))
 |some .bool=>(yK op).map λneg=>.beq neg (bB x) (bB y)
 |some (.slice _)=>if M0 y then(yK op).map λneg=>.Cc neg (bB x) else none
 |some (.struct fs)=>match wY P fs.toList with
  |some l=>if P.eqGuardType P.depth xt=false/\P.stoodInHeld xt=false then(yK op).map λneg=>.aeq neg l (bB x) (bB y) else none
  |none=>none
 |_=>none
def cLen(P:Program):List Operand->List TypeId->Option I
 |[x],[t]=>match P.underlying t with
  |some (.slice _)=>some (.len (bB x))
  |some .string=>some (.BS (bB x))
  |_=>none
 |_,_=>none
def X8(P:Program):List Operand->List TypeId->Option I
 | [s,x],[t,t']=>if t=t' then match P.underlying t with
   |some (.slice et)=>match P.info? et with
    |some i=>match i.zero with
     |some z=>if z.cells.size=i.size/\0<i.size then some (.app et i.size i.bytes (bB s) (bB x)) else none
     |none=>none
    |none=>none
   |_=>none
  else match P.underlying t,P.underlying t' with
   |some (.slice et),some .string=>match P.info? et with
    |some i=>match i.zero with
     |some z=>if z.cells.size=i.size/\i.size=1 then some (.apps et i.bytes (bB s) (bB x)) else none
     |none=>none
    |none=>none
   |_,_=>none
 |_,_=>none
def Ra(P:Program):List Operand->List TypeId->Option I
 |[d,s],[t,_]=>match P.underlying t with
  |some (.slice et)=>match P.info? et with
   |some i=>if 0<i.size then some (.copy i.size (bB d) (bB s)) else none
   |none=>none
  |_=>none
 |_,_=>none
def Ig(mx:Bool):List Operand->Option I
 |[x,y]=>some (if mx then .max2 (bB x) (bB y) else .min2 (bB x) (bB y))
 |_=>none
def FE(P:Program)(b:Builtin)(as:List Operand)(ts:List TypeId):Option I :=
 match b with
 |.len=>cLen P as ts
 |.append=>X8 P as ts
 |.copy=>Ra P as ts
 |.min=>Ig false as
 |.max=>Ig true as
 |_=>none
def a3M(P:Program)(t:TypeId):Bool:=match P.underlying t with
 |some (.pointer _)=>true
 |_=>false
def a6y(P:Program)(t:TypeId):Bool:=match P.underlying t with
 |some (.int _)=>true
 |some .bool=>true
 |some .string=>true
 |_=>false
def callable(P:Program)(f:FuncId):Bool:=match P.funcs[f]? with
 |some fn=>fn.body.isSome&&!(fn.name== "runtime.NumGoroutine")
 |none=>false
theorem CQ{P:Program}{f:FuncId}(h:callable P f=true):∃fn,P.funcs[f]?=some fn/\fn.body.isSome=true/\(fn.name== "runtime.NumGoroutine")=false:=by
 unfold callable at h
 split at h
 .rename_i fn hfn
  rw[au]at h
  exact⟨fn,hfn,h.1,by simpa using h.2⟩
 .cases h
def known(P:Program):Operand->Bool
 |.func f=>callable P f
 |_=>true
def Rb(P:Program)(c:Call):Option I :=
 match c.callee with
 |.builtin b=>FE P b c.args.toList c.argTypes.toList
 |.value x=>if known P x=true then some (.call (bB x) (c.args.toList.map bB)) else none
 |_=>none
def a3Q(P:Program)(t:TypeId):Option IntKind:=match P.underlying t with
 |some (.array n e)=>if Nat.ble 2 n=true then(match P.underlying e with|some (.int k)=>some k|_=>none) else none
 |_=>none
def cI(P:Program)(lm:Bool):Op->Option I
 |.move x=>some (.mov (bB x))
 |.assign x=>some (.mov (bB x))
 |.pick c a b=>some (.pick (bB c) (bB a) (bB b))
 |.binOp op xt x y _=>X7 P op xt x y
 |.unOp op _ x=>some (.un op (bB x))
 |.convert s d x=>match P.underlying s,P.underlying d with
  |some (.int _),some (.int k)=>some (.conv k (bB x))
  |some (.slice e),some .string=>match P.underlying e with
   |some (.int .u8)=>some (.b2s (bB x))
   |_=>none
  |some .string,some (.slice e)=>match P.underlying e with
   |some (.int .u8)=>some (.s2b e (bB x))
   |_=>none
  |_,_=>none
 |.field t x f=>match P.underlying t with
  |some (.struct fs)=>match fs[f]? with
   |some fd=>match agT P fd.type with
    |some (ag,sz)=>some (.fld fd.offset sz ag (bB x))
    |none=>none
   |none=>none
  |_=>none
 |.extract x i=>some (.ext i (bB x))
 |.nilCheck x=>some (.nck (bB x))
 |.fieldAddr t x f=>match P.underlying t with
  |some (.struct fs)=>match fs[f]? with
   |some fd=>match agT P fd.type with
    |some (_,sz)=>if sz≠0 then some (.oU fd.offset (bB x)) else none
    |none=>none
   |none=>none
  |_=>none
 |.indexAddr t x i=>match P.underlying t with
  |some (.slice et)=>match agT P et with
   |some (_,sz)=>some (.rJ sz (bB x) (bB i))
   |none=>none
  |some (.array n et)=>match P.info? et,P.info? (JY P 4 et) with
   |some e,some b=>if e.size=e.size/b.size*b.size then some (.qR b.size (e.size/b.size) n (bB x) (bB i)) else none
   |_,_=>none
  |_=>none
 |.load t x=>match agT P t with
  |some (ag,sz)=>some (.load sz ag (bB x))
  |none=>none
 |.store t x y=>match agT P t with
  |some (_,sz)=>if 0<sz then some (.store sz (bB x) (bB y)) else none
  |none=>none
 |.slice t x lo hi none=>match P.underlying t with
  |some (.slice et)=>match agT P et with
   |some (_,sz)=>some (.slice sz (bB x) (lo.map bB) (hi.map bB))
   |none=>none
  |some .string=>some (.um (bB x) (lo.map bB) (hi.map bB))
  |some (.array n et)=>match P.info? et with
   |some e=>if lm=true then(if e.size=1 then some (.AZ n (bB x) (lo.map bB) (hi.map bB)) else none) else some (.aslice e.size n (bB x) (lo.map bB) (hi.map bB))
   |none=>none
  |_=>none
 |.slice t x none (some hi) (some mx)=>match P.underlying t with
  |some (.slice et)=>match agT P et with
   |some (_,sz)=>some (.slice3 sz (bB x) (bB hi) (bB mx))
   |none=>none
  |_=>none
 |.index t x i=>match P.underlying t with
  |some .string=>some (.idx (bB x) (bB i))
  |some (.array n et)=>match agT P et with
   |some (ag,sz)=>some (.Ba sz ag n (bB x) (bB i))
   |none=>none
  |_=>none
 |.makeFunc (.func f) first cs=>if first=#[] then some (.clo f (cs.toList.map bB)) else none
 |.box t x=>match agT P t with
  |some (_,sz)=>if 0<sz then(match a3Q P t with|some k=>some (.CJ t sz k (bB x))|none=>some (.box t sz (bB x))) else none
  |none=>none
 |.alloc t=>match P.info? t with
  |some i=>match i.zero with
   |some z=>MO P t z
   |none=>none
  |none=>none
 | .makeSlice t l c=>if Sk l c then match P.underlying t with
   |some (.slice et)=>match P.info? et with
    |some i=>match i.zero with
     |some z=>if z.cells.size=i.size/\0<i.size/\z.cells.all (·.oneCell')=true then some (.mk et i.size i.bytes z (bB l)) else none
     |none=>none
    |none=>none
   |_=>none
  else match P.underlying t with
   |some (.slice et)=>match P.info? et with
    |some i=>match i.zero with
     |some z=>if z.cells.size=i.size/\0<i.size/\z.cells.all (·.oneCell')=true then some (.mk2 et i.size i.bytes z (bB l) (bB c)) else none
     |none=>none
    |none=>none
   |_=>none
 |.makeMap t hint=>match P.underlying t with
  |some (.map _ _)=>some (.mmk t (hint.map bB))
  |_=>none
 |.lookup t x k ok=>match P.underlying t with
  |some (.map kt et)=>match cKT P kt,P.info? et with
   |some q,some i=>match i.zero with
    |some z=>if z.oneCell'=true then some (.sU q ok z (bB x) (bB k)) else none
    |none=>none
   |_,_=>none
  |_=>none
 |.mapUpdate t x k y=>match P.underlying t with
  |some (.map kt _)=>match cKT P kt with
   |some q=>some (.tY q (bB x) (bB k) (bB y))
   |none=>none
  |_=>none
 |.insert t x k y=>match P.underlying t with
  |some (.map kt _)=>match cKT P kt with
   |some q=>some (.tY q (bB x) (bB k) (bB y))
   |none=>none
  |_=>none
 |.buildSlice t n parts=>match P.underlying t with
  |some (.slice et)=>match P.info? et with
   |some i=>match i.zero with
    | some z=>if z.cells.size=i.size/\0 < i.size/\parts.toList.map (·.1)=List.range parts.size/\n=parts.size/\parts.size * i.size<=2 ^ 24 then
      (if lm then some (.xD et i.size (parts.toList.map λp=>bB p.2)) else if a3M P et then(if i.size=1 then some (.CF et (parts.toList.map λp=>bB p.2)) else none) else if a6y P et&&Nat.beq i.size 1 then some (.bsc et (parts.toList.map λp=>bB p.2)) else some (.qy et i.size (parts.toList.map λp=>bB p.2)))
     else none
    |none=>none
   |none=>none
  |_=>none
 |.build t parts=>match P.info? t with
  |some i=>match i.zero,places P t with
   |some (.agg z),some pl=>if z.toList.all (·.oneCell')=true then(DJ pl parts.toList).map λqs=>.build z.toList qs else none
   |_,_=>none
  |none=>none
 |.call c=>Rb P c
 |_=>none
section
variable{P:Program}{Gl:Nat->Option (List AV)}{F:Addr->Option Value}{own:List Ent}{B:Nat}{w0:W0}{σ:St}{act:Act}{w:World}
theorem ML{pl:List (Nat×Nat)}:∀(ps:List (Nat×Operand)) (qs:List (Nat×Nat×Opd)),DJ pl ps=some qs->ps.length=qs.length/\∀(k:Nat) (p:Nat×Operand) (q:Nat×Nat×Opd),ps[k]?=some p->qs[k]?=some q->pl[p.1]?=some (q.1,q.2.1)/\q.2.2=bB p.2:=by
 intro ps
 induction ps with
 |nil=>intro qs h;cases h;exact⟨rfl,λk p q a=>by simp at a⟩
 |cons p ps ih =>
  intro qs h
  obtain⟨i,x⟩:=p
  simp only[DJ]at h
  split at h
  .rename_i o s l h1 h2
   cases h
   obtain⟨l1,l2⟩:=ih l h2
   refine⟨by simp[l1],λk p q a b=>?_⟩
   cases k with
   |zero=>simp at a b;subst a b;exact⟨h1,rfl⟩
   |succ k=>simp at a b;exact l2 k p q a b
  .cases h
theorem TL{p q:Nat->Option (Nat×Nat)}(h:∀i x,p i=some x->q i=some x):∀(l:List (Nat×Value)) (z ds:Array Value),Instr.fill p z l=some ds->Instr.fill q z l=some ds:=by
 intro l
 induction l with
 |nil=>intro z ds hf;exact hf
 |cons a l ih =>
  intro z ds hf
  obtain⟨i,v⟩:=a
  unfold Instr.fill at hf ⊢
  cases hp:p i with
  |none=>rw[hp]at hf;cases hf
  |some x =>
   rw[hp]at hf
   rw[h i x hp]
   obtain⟨off,size⟩:=x
   simp only at hf ⊢
   split at hf
   .cases hf
   .rename_i hc;rw[if_neg hc];exact ih _ _ hf
theorem run_places {t:TypeId} {ti:TypeInfo} {z:Array Value} (hti:P.info? t=some ti) (hz:ti.zero=some (.agg z)) {pl:List (Nat × Nat)} (hpl:places P t=some pl) (ps:Array (Nat × Value)) (ds:Array Value)
  (hf:Instr.fill (λi=>pl[i]?) z ps.toList=some ds):(Instr.build t ps).run P w=.ok (.agg ds) w:=by
 unfold places at hpl
 split at hpl
 .rename_i fs ht
  have key:∀(l:List Field) (pl:List (Nat×Nat)),(l.mapM λf=>(agT P f.type).map λa=>(f.offset,a.2))=some pl->(l.mapM (m:=Sem) λf=>do pure (f.offset,<- sizeOf f.type)).run P w=.ok pl w:=by
   intro l
   induction l with
   |nil=>intro pl h;cases h;rfl
   |cons f l ih =>
    intro pl h
    rw[List.mapM_cons]at h ⊢
    cases ha:agT P f.type with
    |none=>rw[ha]at h;cases h
    |some a =>
     rw[ha]at h
     simp only[bE,Option.pure_def,Option.bind_eq_bind,nQ]at h
     cases hl:(l.mapM λf=>(agT P f.type).map λa=>(f.offset,a.2)) with
     |none=>rw[hl]at h;cases h
     |some pl' =>
      rw[hl]at h
      cases h
      have:=ih pl' hl
      obtain⟨ag,sz⟩:=a
      simp only[Sem.run_bind,Result.andThen_ok,Sem.run_pure,(qZ ha w).2,this]
  have hk:=key fs.toList pl hpl
  unfold Instr.build
  have e1:(fs.mapM (m:=Sem) λf=>do pure (f.offset,<- sizeOf f.type)).run P w=.ok pl.toArray w:=by
   rw[sM]
   simp only[Sem.run_map,hk,Result.andThen_ok]
  simp only[Sem.run_bind,zeroValue,typeInfo,run_program,Result.andThen_ok,hti,Sem.run_pure,hz,run_underlying ht,e1]
  have e2:(fun(i:Nat)=>(pl.toArray)[i]?)=λi=>pl[i]?:=by funext i;simp
  simp only[Value.cells,e2,hf]
  rfl
 .rename_i n e ht
  cases ha:agT P e with
  |none=>rw[ha]at hpl;cases hpl
  |some a =>
   obtain⟨ag,sz⟩:=a
   rw[ha]at hpl
   simp only[bE,iG]at hpl
   subst hpl
   have hf':Instr.fill (λi=>some (i*sz,sz)) z ps.toList=some ds:=TL (λi q hq=>by
    rw[aS]at hq
    cases hr:(List.range n)[i]? with
    |none=>rw[hr]at hq;cases hq
    |some k =>
     rw[hr]at hq
     have hk:k=i:=by
      have:=(aj.1 hr).2
      simpa using this.symm
     subst hk
     exact hq) _ _ _ hf
   unfold Instr.build
   simp only[Sem.run_bind,zeroValue,typeInfo,run_program,Result.andThen_ok,hti,Sem.run_pure,hz,run_underlying ht,(qZ ha w).2]
   simp only[Value.cells,hf']
   rfl
 .cases hpl
theorem Rx{α:Type}:∀(l:List (Nat×α)) (k:Nat),l.map (·.1)=List.range' k l.length->l=((l.map (·.2)).zipIdx k).map λp=>(p.2,p.1):=by
 intro l
 induction l with
 |nil=>intro k _;rfl
 |cons p l ih =>
  intro k h
  obtain⟨i,x⟩:=p
  simp only[dn,bI,pF,wz]at h
  obtain⟨rfl,h2⟩:=h
  simp only[dn,uX,wz,true_and]
  exact ih (i+1) h2
theorem step_ok(h:Inv Gl F own B w0 σ act w){lm:Bool}{o:Oper}{i:I}(hc:cI P lm o.op=some i){p:Prop}{r:AV}{h':List aL}(hs:step Gl σ i=some (p,r,h'))(hp:p):Ok1 P Gl B w0 σ act w o r h':=by
 cases ho:o.op with
 |move x =>
  rw[ho]at hc;cases hc
  obtain⟨_,h2⟩:=aG (aI hs);obtain⟨rfl,rfl⟩:=aG h2
  exact SF h (.inl ho)
 |assign x =>
  rw[ho]at hc;cases hc
  obtain⟨_,h2⟩:=aG (aI hs);obtain⟨rfl,rfl⟩:=aG h2
  exact SF h (.inr ho)
 |pick c a b=>rw[ho]at hc;cases hc;exact a0P h ho hs hp
 |binOp op xt x y yt =>
  rw[ho]at hc
  simp only[cI,X7]at hc
  have bin:some (I.bin op (bB x) (bB y))=some i->Ok1 P Gl B w0 σ act w o r h':=by
   intro hc
   cases hc
   simp only[step]at hs
   split at hs
   .rename_i a b hx hy
    cases hb:kZ op a b with
    |none=>rw[hb]at hs;cases hs
    |some q =>
     obtain⟨p',v⟩:=q
     rw[hb]at hs
     obtain⟨rfl,h2⟩:=aG (aI hs);obtain⟨rfl,rfl⟩:=aG h2
     exact a3t h ho hx hy hb hp
   .cases hs
  split at hc
  .exact bin hc
  .exact bin hc
  .rename_i ht
   have key:∀neg,op=(if neg then .neq else .eql)->some (I.beq neg (bB x) (bB y))=some i->Ok1 P Gl B w0 σ act w o r h':=by
    intro neg hop hc
    cases hc
    simp only[step]at hs
    split at hs
    .rename_i a b hx hy
     obtain⟨_,h2⟩:=aG (aI hs);obtain⟨rfl,rfl⟩:=aG h2
     exact a3u h (by rw[ho,hop]) ht hx hy
    .cases hs
   cases hn:yK op with
   |none=>rw[hn]at hc;cases hc
   |some neg=>rw[hn]at hc;exact key neg (Fa hn) hc
  .rename_i et ht
   split at hc
   .rename_i hnil
    have hnil:=TB hnil
    cases hn:yK op with
    |none=>rw[hn]at hc;cases hc
    |some neg =>
     rw[hn]at hc
     cases hc
     exact a0Q (neg:=neg) h (by rw[ho,hnil,Fa hn]) ht hs hp
   .cases hc
  .rename_i fs ht
   cases hl:wY P fs.toList with
   |none=>rw[hl]at hc;cases hc
   |some l =>
    rw[hl]at hc
    simp only at hc
    split at hc
    .rename_i hcond
     have key:∀neg,op=(if neg then .neq else .eql)->some (I.aeq neg l (bB x) (bB y))=some i->Ok1 P Gl B w0 σ act w o r h':=by
      intro neg hop hc
      cases hc
      simp only[step]at hs
      split at hs
      .rename_i a b hx hy
       cases hq:eqA a b l with
       |none=>rw[hq]at hs;cases hs
       |some q =>
        rw[hq]at hs
        obtain⟨_,h2⟩:=aG (aI hs);obtain⟨rfl,rfl⟩:=aG h2
        exact a3x h (by rw[ho,hop]) ht hl hcond.1 hcond.2 hx hy hq
      .cases hs
     cases hn:yK op with
     |none=>rw[hn]at hc;cases hc
     |some neg=>rw[hn]at hc;exact key neg (Fa hn) hc
    .cases hc
  .cases hc
 |unOp op xt x =>
  rw[ho]at hc;cases hc
  simp only[step]at hs
  split at hs
  .rename_i a hx
   cases hu:unV op a with
   |none=>rw[hu]at hs;cases hs
   |some v =>
    rw[hu]at hs
    obtain⟨_,h2⟩:=aG (aI hs);obtain⟨rfl,rfl⟩:=aG h2
    exact a6u h ho hx hu
  .cases hs
 |convert s d x =>
  rw[ho]at hc
  simp only[cI]at hc
  split at hc
  .rename_i k1 k hs1 hd1
   cases hc
   simp only[step]at hs
   split at hs
   .rename_i k2 n hx
    obtain⟨_,h2⟩:=aG (aI hs);obtain⟨rfl,rfl⟩:=aG h2
    exact a0V h ho hs1 hd1 hx
   .cases hs
  .rename_i e hs1 hd1
   split at hc
   .rename_i he;cases hc;exact a3v h ho hs1 he hd1 hs hp
   .cases hc
  .rename_i e hs1 hd1
   split at hc
   .rename_i he;cases hc;exact a3j h ho hs1 hd1 he hs hp
   .cases hc
  .cases hc
 |field t x f =>
  rw[ho]at hc
  simp only[cI]at hc
  split at hc
  .rename_i fs ht
   split at hc
   .rename_i fd hf
    split at hc
    .rename_i ag sz ha;cases hc;exact a3q h ho ht hf ha hs hp
    .cases hc
   .cases hc
  .cases hc
 |extract x k=>rw[ho]at hc;cases hc;exact a3r h ho hs hp
 |nilCheck x=>rw[ho]at hc;cases hc;exact a3k h ho hs hp
 |fieldAddr t x f =>
  rw[ho]at hc
  simp only[cI]at hc
  split at hc
  .rename_i fs ht
   split at hc
   .rename_i fd hf
    split at hc
    .rename_i ag sz ha
     split at hc
     .rename_i h0;cases hc;exact VR h ho ht hf ha h0 hs hp
     .cases hc
    .cases hc
   .cases hc
  .cases hc
 |indexAddr t x k =>
  rw[ho]at hc
  simp only[cI]at hc
  split at hc
  .rename_i et ht
   split at hc
   .rename_i ag sz ha;cases hc;exact VQ h ho ht ha hs hp
   .cases hc
  .rename_i n et ht
   split at hc
   .rename_i e b he hb
    split at hc
    .rename_i hsz;cases hc;exact VY h ho ht he hsz hs hp
    .cases hc
   .cases hc
  .cases hc
 |load t x =>
  rw[ho]at hc
  simp only[cI]at hc
  split at hc
  .rename_i ag sz ha;cases hc;exact a0S h ho ha hs hp
  .cases hc
 |store t x y =>
  rw[ho]at hc
  simp only[cI]at hc
  split at hc
  .rename_i ag sz ha
   split at hc
   .rename_i h0;cases hc;exact VP h ho ha h0 hs hp
   .cases hc
  .cases hc
 |slice t x lo hi mx =>
  rw[ho]at hc
  cases mx with
  |some m =>
   cases lo with
   |some l=>cases hi<;>cases hc
   |none =>
    cases hi with
    |none=>cases hc
    |some y =>
     simp only[cI]at hc
     split at hc
     .rename_i et ht
      split at hc
      .rename_i ag sz ha;cases hc;exact SE h ho ht ha hs hp
      .cases hc
     .cases hc
  |none =>
   simp only[cI]at hc
   split at hc
   .rename_i et ht
    split at hc
    .rename_i ag sz ha;cases hc;exact ok_slice h ho ht ha hs hp
    .cases hc
   .rename_i ht;cases hc;exact SB h ho ht hs hp
   .rename_i n et ht
    split at hc
    .rename_i e he
     split at hc
     .split at hc
      .rename_i h1;cases hc;exact O9 h ho ht he h1 hs hp
      .cases hc
     .cases hc;exact SH h ho ht he rfl hs hp
    .cases hc
   .cases hc
 |index t x k =>
  rw[ho]at hc
  simp only[cI]at hc
  split at hc
  .rename_i ht;cases hc;exact a3p h ho ht hs hp
  .rename_i n et ht
   split at hc
   .rename_i ag sz ha;cases hc;exact a0Z h ho ht ha hs hp
   .cases hc
  .cases hc
 |makeFunc fn first cs =>
  rw[ho]at hc
  cases fn with
  |func f =>
   simp only[cI]at hc
   split at hc
   .rename_i q;subst q;cases hc;exact a3s h ho hs hp
   .cases hc
  |_=>cases hc
 |box t x =>
  rw[ho]at hc
  simp only[cI]at hc
  split at hc
  .rename_i ag sz ha
   split at hc
   .rename_i h0
    split at hc
    .cases hc;exact a0X h ho h0 hs hp
    .cases hc;exact SG h ho h0 hs hp
   .cases hc
  .cases hc
 |alloc t =>
  rw[ho]at hc
  simp only[cI]at hc
  split at hc
  .rename_i ti hi
   split at hc
   .rename_i z hz
    unfold MO at hc
    split at hc
    .split at hc
     .rename_i b hb
      split at hc
      .rename_i hcond
       cases hc
       obtain⟨_,h2⟩:=aG (aI hs);obtain⟨rfl,rfl⟩:=aG h2
       exact SI h ho hi hz (II hcond.1) hcond.2.1 hcond.2.2.1 hcond.2.2.2
      .cases hc
     .cases hc
    .split at hc
     .rename_i hcond
      cases hc
      obtain⟨_,h2⟩:=aG (aI hs);obtain⟨rfl,rfl⟩:=aG h2
      exact VX h ho hi hz hcond.1 hcond.2
     .cases hc
   .cases hc
  .cases hc
 |makeSlice t l c =>
  rw[ho]at hc
  simp only[cI]at hc
  split at hc
  .rename_i hsame
   split at hc
   .rename_i et ht
    split at hc
    .rename_i ti hi
     split at hc
     .rename_i z hz
      split at hc
      .rename_i hcond
       cases hc
       have hlc:l=c:=by
        unfold Sk at hsame
        split at hsame
        .simp at hsame;rw[hsame]
        .simp at hsame;rw[hsame]
        .cases hsame
       subst hlc
       exact a6v h ho ht hi hz hcond.1 hcond.2.1 hcond.2.2 hs hp
      .cases hc
     .cases hc
    .cases hc
   .cases hc
  .split at hc
   .rename_i et ht
    split at hc
    .rename_i ti hi
     split at hc
     .rename_i z hz
      split at hc
      .rename_i hcond
       cases hc
       exact a3m h ho ht hi hz hcond.1 hcond.2.1 hcond.2.2 hs hp
      .cases hc
     .cases hc
    .cases hc
   .cases hc
 |makeMap t hint =>
  rw[ho]at hc
  simp only[cI]at hc
  split at hc
  .rename_i ht;cases hc;exact a3l h ho ht hs hp
  .cases hc
 |lookup t x k ok =>
  rw[ho]at hc
  simp only[cI]at hc
  split at hc
  .rename_i kt et ht
   split at hc
   .rename_i q i hq hi
    split at hc
    .rename_i z hz
     split at hc
     .cases hc;exact a0R h ho ht (MN hq) hi hz hs hp
     .cases hc
    .cases hc
   .cases hc
  .cases hc
 |mapUpdate t x k y =>
  rw[ho]at hc
  simp only[cI]at hc
  split at hc
  .rename_i kt et ht
   split at hc
   .rename_i q hq;cases hc;exact O8 h (.inl ho) ht (MN hq) hs hp
   .cases hc
  .cases hc
 |insert t x k y =>
  rw[ho]at hc
  simp only[cI]at hc
  split at hc
  .rename_i kt et ht
   split at hc
   .rename_i q hq;cases hc;exact O8 h (.inr ho) ht (MN hq) hs hp
   .cases hc
  .cases hc
 |buildSlice t n parts =>
  rw[ho]at hc
  simp only[cI]at hc
  split at hc
  .rename_i et ht
   split at hc
   .rename_i ti hi
    split at hc
    .rename_i z hz
     split at hc
     .rename_i hcond
      obtain⟨c1,c2,c3,c4,c5⟩:=hcond
      have hps:parts.toList=(parts.toList.map (·.2)).zipIdx.map λp=>(p.2,p.1):=Rx parts.toList 0 (by rw[c3,rP];simp)
      have hm:(parts.toList.map λp=>bB p.2)=(parts.toList.map (·.2)).map bB:=by simp
      cases lm with
      |true =>
       simp only[if_true]at hc
       cases hc
       rw[hm]at hs
       exact VW h ho ht hi hz c1 c2 hps (by simp[c4]) (by simpa using c5) hs hp
      |false =>
       simp only[aT,if_false]at hc
       split at hc
       .split at hc
        .rename_i h1
         cases hc
         rw[hm]at hs
         exact a0W h ho ht hi hz c1 h1 hps (by simp[c4]) (by simpa using c5) hs hp
        .cases hc
       split at hc
       .rename_i hsc
        cases hc
        rw[hm]at hs
        simp only[au]at hsc
        have h1:ti.size=1:=iT hsc.2
        have hs':=Vb hs
        rw[<- h1]at hs'
        exact IV h ho ht hi hz c1 c2 hps (by simp[c4]) (by simpa using c5) hs' hp
       cases hc
       rw[hm]at hs
       exact IV h ho ht hi hz c1 c2 hps (by simp[c4]) (by simpa using c5) hs hp
     .cases hc
    .cases hc
   .cases hc
  .cases hc
 |build t parts =>
  rw[ho]at hc
  simp only[cI]at hc
  split at hc
  .rename_i ti hi
   split at hc
   .rename_i z pl hz hpl
    split at hc
    .rename_i h1
     cases hq:DJ pl parts.toList with
     |none=>rw[hq]at hc;cases hc
     |some qs =>
      rw[hq]at hc
      cases hc
      obtain⟨l1,l2⟩:=ML parts.toList qs hq
      exact VU h ho hi hz h1 (place:=λi=>pl[i]?) (λps ds hf=>run_places hi hz hpl ps ds hf) l1 l2 hs hp
    .cases hc
   .cases hc
  .cases hc
 |call c =>
  rw[ho]at hc
  obtain⟨callee,⟨args⟩,⟨tys⟩⟩:=c
  simp only[cI,Rb]at hc
  split at hc
  .rename_i b
   simp only[FE]at hc
   split at hc
   .unfold cLen at hc
    split at hc
    .rename_i x t
     split at hc
     .rename_i et ht;cases hc;exact a3o h ho ht hs hp
     .rename_i ht;cases hc;exact a0O h ho ht hs hp
     .cases hc
    .cases hc
   .unfold X8 at hc
    split at hc
    .rename_i s x t t'
     split at hc
     .rename_i htt
      subst htt
      split at hc
      .rename_i et ht
       split at hc
       .rename_i ti hi
        split at hc
        .rename_i z hz
         split at hc
         .rename_i hcond;cases hc;exact a3w h ho ht hi hz hcond.1 hcond.2 hs hp
         .cases hc
        .cases hc
       .cases hc
      .cases hc
     .split at hc
      .rename_i et ht hu
       split at hc
       .rename_i ti hi
        split at hc
        .rename_i z hz
         split at hc
         .rename_i hcond;cases hc;exact a0Y h ho ht hu hi hz hcond.1 hcond.2 hs hp
         .cases hc
        .cases hc
       .cases hc
      .cases hc
    .cases hc
   .unfold Ra at hc
    split at hc
    .split at hc
     .rename_i ht
      split at hc
      .rename_i hi
       split at hc
       .rename_i h0;cases hc;exact a0U h ho ht hi h0 hs hp
       .cases hc
      .cases hc
     .cases hc
    .cases hc
   .unfold Ig at hc
    split at hc
    .rename_i x y;cases hc;exact IU (mx:=false) h ho hs hp
    .cases hc
   .unfold Ig at hc
    split at hc
    .rename_i x y;cases hc;exact IU (mx:=true) h ho hs hp
    .cases hc
   .cases hc
  .rename_i f
   split at hc
   .cases hc;cases hs
   .cases hc
  .cases hc
 |_=>rw[ho]at hc;cases hc
end
def snap(w:World):Addr->Option Value:=λa=>w.cell? a
def RPL(F:Addr->Option Value)(xs:Array Value)(as:List AV):Prop:=xs.size=as.length/\∀(i:Nat) (x:Value) (a:AV),xs[i]?=some x->as[i]?=some a->RP F x a
def Pure(P:Program)(Gl:Nat->Option (List AV))(f:FuncId)(as:List AV)(res:AV):Prop :=
 ∀(w:World) (F:Addr->Option Value) (xs:Array Value),(∀a x,F a=some x->w.cell? a=some x)->Nb Gl F->GlW Gl w.heap.size w->RPL F xs as->
  Calls P f xs w λe w'=>∃v F',e=.returned v/\(∀ad y,F ad=some y->F' ad=some y)/\(∀ad y,F' ad=some y->w'.cell? ad=some y)/\(∀ad y,F' ad=some y->F ad=some y\/w.heap.size<=ad.block)/\RP F' v res/\Below w.heap.size w w'
def RL(F:Addr->Option Value)(own:List Ent)(xs:Array Value)(as:List AV):Prop:=xs.size=as.length/\∀(i:Nat) (x:Value) (a:AV),xs[i]?=some x->as[i]?=some a->R F own x a
def jJ(P:Program)(Gl:Nat->Option (List AV))(f:FuncId)(h:List aL)(as:List AV)(Q:AV->List aL->Prop):Prop :=
 ∀(F:Addr->Option Value) (own:List Ent) (B:Nat) (w0:W0) (t:List AV) (act:Act) (w:World) (xs:Array Value),Inv Gl F own B w0 ⟨t,h⟩ act w->RL F own xs as->
  Calls P f xs w λe w'=>∃v res h' F' own',e=.returned v/\Inv Gl F' own' B w0 ⟨t,h'⟩ act w'/\R F' own' v res/\Q res h'
def gy(P:Program)(Gl:Nat->Option (List AV))(d:Bool)(σ:St)(dst:Option Nat)(K:St->Prop):I->Prop
 | .call fo args=>(d=false/\∃ f cs,σ.val Gl fo=.clo f cs/\callable P f=true/\jJ P Gl f σ.h (args.map (σ.val Gl) ++ cs) fun res h'=>K (St.put ⟨σ.t,h'⟩ dst res))\/∃ f,σ.val Gl fo=.v (.func (.func f) #[] #[])/\callable P f=true/\((∃ as res,iE σ.h (args.map (σ.val Gl))=some as/\Pure P Gl f as res/\(d=true->(if scalar res then σ.h else freeze σ.h ((args.map (σ.val Gl)).flatMap gL))=σ.h)/\K (St.put ⟨σ.t,if scalar res then σ.h else freeze σ.h ((args.map (σ.val Gl)).flatMap gL)⟩ dst res)) \/
   (d=false/\jJ P Gl f σ.h (args.map (σ.val Gl)) λres h'=>K (St.put ⟨σ.t,h'⟩ dst res)))
 |i=>match step Gl σ i with
  |some (p,a,h')=>p/\K (St.put ⟨σ.t,h'⟩ dst a)
  |none=>False
def und:AV:=.v (.tuple #[])
def gV(P:Program)(Gl:Nat->Option (List AV))(d:Bool)(σ:St)(ins:Ins)(K:St->Prop):Prop :=
 match ins.gd with
 |none=>gy P Gl d σ ins.dst K ins.i
 |some (s,want)=>match σ.t.getD s .any with
  |.v (.bool b)=>if b=want then gy P Gl d σ ins.dst K ins.i else K (σ.put ins.dst und)
  |.v (.tuple _)=>K (σ.put ins.dst und)
  |_=>False
def zL(P:Program)(Gl:Nat->Option (List AV))(d:Bool)(K:St->Prop):List Ins->St->Prop
 |[],σ=>K σ
 |i::r,σ=>gV P Gl d σ i (zL P Gl d K r)
def a3P(P:Program)(ops:Array Oper)(o:Oper):Bool:=ops.toList.any λq=>match cI P false q.op with
 |some (.app _ _ _ (.t d) _)=>o.dst==some d
 |_=>false
def a9D(ops:Array Oper):Operand->Bool
 |.tmp d=>ops.toList.any λq=>q.dst==some d&&(match q.op with|.fieldAddr ..=>true|_=>false)
 |_=>false
def a3I(P:Program)(lm:Bool)(ops:Array Oper)(o:Oper):Bool:=match o.op with
 |.slice _ x _ _ _=>a9D ops x
 |_=>lm&&!a3P P ops o
def qL(P:Program)(lm:Bool)(ops:Array Oper)(o:Oper):Option Ins :=
 match cI P (a3I P lm ops o) o.op with
 |none=>none
 |some i=>match o.guard with
  |none=>some ⟨o.dst,none,i⟩
  |some (j,want)=>match(ops[j]?).bind (·.dst) with
   |some s=>some ⟨o.dst,some (s,want),i⟩
   |none=>none
section
variable{P:Program}{Gl:Nat->Option (List AV)}{F:Addr->Option Value}{own:List Ent}{B:Nat}{w0:W0}{σ:St}{act:Act}{w:World}
def nG(Gl:Nat->Option (List AV))(B:Nat)(w0:W0)(K:St->Prop)(act:Act)(w:World):Prop:=∃F own σ,Inv Gl F own B w0 σ act w/\K σ
theorem Si{F F':Addr->Option Value}{x:Value}{a:AV}(h:RP F x a)(hs:scalar a=true):RP F' x a:=by
 have one:∀{x:Value} {a:AV},RP F x a->qb a=true->RP F' x a:=by
  intro x a h hv
  cases a<;>first|(cases hv;done)|skip
  cases h
  exact .v _
 have two:∀{x:Value} {cs:List AV},RP F x (.agg cs)->cs.all qb=true->RP F' x (.agg cs):=by
  intro x cs h hv
  cases h with
  |agg xs cs hl h1 hR=>exact .agg xs cs hl h1 λj x a p q=>one (hR j x a p q) (aU.1 hv a (bM q))
 cases a with
 |v y=>cases h;exact .v _
 |agg cs=>exact two h hs
 |tup vs =>
  cases h with
  |tup xs cs hl hR =>
   refine .tup xs vs hl λj x a p q=>?_
   have:=aU.1 hs a (bM q)
   cases a with
   |v y=>have:=hR j x _ p q;cases this;exact .v _
   |agg cs=>exact two (hR j x _ p q) this
   |_=>cases this
 |_=>cases hs
theorem Inv.call(h:Inv Gl F own B w0 σ act w){w':World}{F':Addr->Option Value}(hF:∀ad y,F ad=some y->F' ad=some y)(hs:∀ad y,F' ad=some y->w'.cell? ad=some y)(hn:∀ad y,F' ad=some y->F ad=some y\/w.heap.size<=ad.block)(hb:Below w.heap.size w w'):Inv Gl F' own B w0 σ act w':=by
 refine h.turn (h':=σ.h) hF (Le.refl _) hs h.hl (λid e o p q=>?_) h.inj ?_ h.base (λad y q=>?_) (hpw:=λg hg _=>hb.block g hg) (hpF:=λg j y q=>(hn _ _ q).imp id .inr)
 .have hO:=h.objs id e o p q
  refine hO.mono hF (Le.refl _) (λg hg=>hb.block g (hO.lt hg)) (λg j hg hj=>?_)
  cases hq:F' ⟨g,j,none⟩with
  |none=>rfl
  |some y =>
   rcases hn _ _ hq with q|q
   .rw[hO.fz hg hj]at q;cases q
   .have:=hO.lt hg;simp only at q;omega
 .exact h.below.trans (hb.mono (cZ h.room h.below.size))
 .rcases hn ad y q with q'|q'
  .exact .inl q'
  .exact .inr (cZ (cZ h.room h.below.size) q')
theorem Gt (h:Inv Gl F own B w0 σ act w) {lm:Bool} {o:Oper} {i:I} (hc:cI P lm o.op=some i) {d:Bool} {K:St->Prop} (he:gy P Gl d σ o.dst K i) (Q:Exit->Act->World->Prop):o.wp P act w (nG Gl B w0 K) Q:=by
  by_cases hcall:∃f args,i=.call f args
  · obtain ⟨f,args,rfl⟩:=hcall
    obtain ⟨c,x,hop,a4p,hfo,hargs⟩:∃ c x,o.op=.call c/\c.callee=.value x/\f=bB x/\args=c.args.toList.map bB:=by
      cases hop:o.op with
      | call c =>
        rw[hop]at hc
        obtain⟨callee,as',tys⟩:=c
        simp only[cI,Rb]at hc
        split at hc
        · rename_i b
          simp only[FE]at hc
          split at hc
          · unfold cLen at hc; split at hc
            .split at hc<;>cases hc
            .cases hc
          · unfold X8 at hc; repeat' split at hc
            all_goals cases hc
          · unfold Ra at hc; repeat' split at hc
            all_goals cases hc
          .unfold Ig at hc;split at hc<;>cases hc
          .unfold Ig at hc;split at hc<;>cases hc
          .cases hc
        · rename_i x'
          split at hc
          · cases hc
            exact⟨_,x',rfl,rfl,rfl,rfl⟩
          .cases hc
        .cases hc
      | binOp op xt x y yt =>
        rw[hop]at hc
        simp only[cI,X7]at hc
        repeat' split at hc
        all_goals first
          |(cases hc;done)
          |(cases hn:yK op<;>rw[hn]at hc<;>cases hc;done)
      | makeSlice t l c => rw [hop] at hc; simp only [cI] at hc; repeat' split at hc
                           all_goals cases hc
      | buildSlice t n ps => rw [hop] at hc; simp only [cI] at hc; repeat' split at hc
                             all_goals first|(cases hc;done)|(cases lm<;>cases hc;done)
      | build t ps =>
        rw[hop]at hc
        simp only[cI]at hc
        repeat' split at hc
        all_goals first
          |(cases hc;done)
          |(rw[ig]at hc;obtain⟨_,_,q⟩:=hc;cases q)
      | slice t x lo hi mx =>
        rw[hop]at hc
        cases mx with
        | some m =>
          cases lo<;>cases hi<;>simp only[cI]at hc
          all_goals(repeat' split at hc)
          all_goals cases hc
        | none =>
          simp only[cI]at hc
          repeat' split at hc
          all_goals cases hc
      | alloc t =>
        rw[hop]at hc
        simp only[cI,MO]at hc
        repeat' split at hc
        all_goals cases hc
      | makeFunc fn first cs =>
        rw[hop]at hc
        cases fn with
        | func f =>
          simp only[cI]at hc
          split at hc<;>cases hc
        |_=>cases hc
      | _ =>
        rw[hop]at hc
        simp only[cI]at hc
        repeat' split at hc
        all_goals cases hc
    subst hargs hfo
    rcases he with⟨_,f,cs,hfv,hcb,hP⟩|he
    · obtain ⟨fn,hfn,hbody,hname⟩:=CQ hcb
      obtain⟨ys,hev,hyl,hyR⟩:∃ys,act.eval x=.func (.func f) #[] ys/\ys.size=cs.length/\∀(j:Nat) (x:Value) (a:AV),ys[j]?=some x->cs[j]?=some a->R F own x a:=by have:=h.ev x;rw[hfv]at this;exact this.BF
      have hrun:(execOp act.eval o).run P w=.ok (.enter f (c.args.map act.eval ++ ys)) w:=by
        unfold execOp
        simp only[hop]
        have hb':¬fn.body=none:=by intro q;rw[q]at hbody;cases hbody
        have hn':¬fn.name= "runtime.NumGoroutine":=by simpa using hname
        simp[resolve,a4p,hev,Deferred.ofValue,invoke,callFunc,hfn,hn',hb']
      unfold Oper.wp
      rw[hrun,Oper.upon_enter]
      have hrl:RL F own (c.args.map act.eval ++ ys) ((c.args.toList.map bB).map (σ.val Gl) ++ cs):=by
        refine⟨by simp[hyl],λj x a hx ha=>?_⟩
        rcases aM j c.args.size with hj|hj
        · rw [jB (by simpa using hj),mq,aD hj] at hx
          cases hx
          rw[aH (by simpa using hj)]at ha
          simp[ah,hj]at ha
          subst ha
          exact h.ev c.args[j]
        · rw [xW (by simpa using hj)] at hx
          rw[aK (by simpa using hj)]at ha
          exact hyR _ x a hx (by simpa using ha)
      refine(hP F own B w0 σ.t act w (c.args.map act.eval++ys) h hrl).mono ?_
      rintro e w' ⟨v,res,h',F',own',rfl,hI,hR,hK⟩
      exact⟨F',own',_,hI.put hR o.dst,hK⟩
    obtain⟨f,hfv,hcb,he⟩:=he
    obtain⟨fn,hfn,hbody,hname⟩:=CQ hcb
    have hev:act.eval x=.func (.func f) #[] #[]:=by have:=h.ev x;rw[hfv]at this;exact this.dK
    have hrun:(execOp act.eval o).run P w=.ok (.enter f (c.args.map act.eval)) w:=by
      unfold execOp
      simp only[hop]
      have hb':¬fn.body=none:=by intro q;rw[q]at hbody;cases hbody
      have hn':¬fn.name= "runtime.NumGoroutine":=by simpa using hname
      simp[resolve,a4p,hev,Deferred.ofValue,invoke,callFunc,hfn,hn',hb']
    unfold Oper.wp
    rw[hrun,Oper.upon_enter]
    rcases he with⟨as,res,hk,hP,_,hK⟩|⟨_,hP⟩
    case inr =>
      have hrl:RL F own (c.args.map act.eval) ((c.args.toList.map bB).map (σ.val Gl)):=by
        refine⟨by simp,λj x a hx ha=>?_⟩
        have hj:j<c.args.size:=by have:=(fE.1 hx).1;simpa using this
        rw[mq,aD hj]at hx
        cases hx
        simp[ah,hj]at ha
        subst ha
        exact h.ev c.args[j]
      refine(hP F own B w0 σ.t act w (c.args.map act.eval) h hrl).mono ?_
      rintro e w' ⟨v,res,h',F',own',rfl,hI,hR,hK⟩
      exact⟨F',own',_,hI.put hR o.dst,hK⟩
    obtain⟨F1,hF1,hI1,hkp⟩:=h.yY (((c.args.toList.map bB).map (σ.val Gl)).flatMap gL)
    obtain⟨l1,l2⟩:=zx h hF1 _ as hk hkp
    have a9N:RPL F1 (c.args.map act.eval) as:=by
      refine⟨by simpa using l1,λj x a hx ha=>?_⟩
      have hj:j<c.args.size:=by have:=(fE.1 hx).1;simpa using this
      rw[mq,aD hj]at hx
      cases hx
      exact(l2 j (act.eval c.args[j]) (σ.val Gl (bB c.args[j])) a (by simp[ah,hj]) ha (h.ev c.args[j])).1
    have hgw:GlW Gl w.heap.size w:=fun g cs q=>by
      obtain⟨q1,vs,ty,fr,q2,q3⟩:=hI1.gw g cs q
      exact⟨qz q1 (cZ hI1.room hI1.below.size),vs,ty,fr,by rw[hI1.below.block _ q1];exact q2,q3⟩
    refine(hP w F1 (c.args.map act.eval) hI1.sub hI1.gl hgw a9N).mono ?_
    rintro e w' ⟨v,F',rfl,g1,g2,g3,g4,g5⟩
    simp only
    cases hsc:scalar res with
    | true =>
      rw[hsc]at hK
      simp only[if_true]at hK
      have hI2:=h.call (F':=F) (w':=w') (λ_ _ q=>q) (λad y q=>by rw[World.cell?_of_block (w:=w) (g5.block _ (h.zY q))];exact h.sub _ _ q) (λ_ _ q=>.inl q) g5
      exact⟨F,own,_,hI2.put (.pure (Si g4 hsc)) o.dst,hK⟩
    | false =>
      rw[hsc]at hK
      simp only[aT,if_false]at hK
      have hI2:=hI1.call g1 g2 g3 g5
      exact⟨F',own,_,hI2.put (.pure g4) o.dst,hK⟩
  · have he' : (match step Gl σ i with | some (p, a, h') => p /\ K (St.put ⟨σ.t, h'⟩ o.dst a) | none => False) := by
      cases i<;>first|exact he|exact absurd ⟨_,_,rfl⟩ hcall
    cases hs:step Gl σ i with
    |none=>rw[hs]at he';exact he'.elim
    | some q =>
      obtain⟨p,a,h'⟩:=q
      rw[hs]at he'
      obtain⟨hp,hK⟩:=he'
      obtain⟨nx,x,w',F',own',hrun,hnx,hI,hR⟩:=step_ok h hc hs hp
      unfold Oper.wp
      rw[hrun]
      rcases hnx with rfl|⟨rfl,rfl⟩
      .exact⟨F',own',_,hI.put hR o.dst,hK⟩
      .exact⟨F',own',_,hI.put hR o.dst,hK⟩
theorem qp(h:Inv Gl F own B w0 σ act w){lm:Bool}{ops:Array Oper}{o:Oper}{ins:Ins}(hc:qL P lm ops o=some ins){d:Bool}{K:St->Prop}(he:gV P Gl d σ ins K)(Q:Exit->Act->World->Prop){k:Nat}(hk:ops[k]?=some o):wpOp P ops Q k (nG Gl B w0 K) act w:=by
 unfold wpOp
 rw[hk]
 simp only
 unfold qL at hc
 cases hi:cI P (a3I P lm ops o) o.op with
 |none=>rw[hi]at hc;cases hc
 |some i =>
  rw[hi]at hc
  simp only at hc
  cases hg:o.guard with
  |none =>
   rw[hg]at hc
   cases hc
   rw[if_pos (by simp[Region.wanted,hg])]
   exact .inl (Gt h hi he Q)
  |some q =>
   obtain⟨j,want⟩:=q
   rw[hg]at hc
   simp only at hc
   cases hs:(ops[j]?).bind (·.dst) with
   |none=>rw[hs]at hc;cases hc
   |some s =>
    rw[hs]at hc
    cases hc
    simp only[gV]at he
    split at he
    .rename_i b hb
     have hy:yielded ops act.tmps j=some b:=by
      unfold yielded
      rw[hs]
      have hlt:s<σ.t.length:=by
       rcases aM s σ.t.length with q|q
       .exact q
       .simp[List.getD,bg q]at hb
      have hlt':s<act.tmps.size:=by rw[h.tl];exact hlt
      have e1:σ.t[s]?=some (.v (.bool b)):=by rw[<- hb];simp[List.getD,ah hlt]
      have:=(h.tr s _ _ (aD hlt') e1).dK
      simp only[nQ,aD hlt',this]
     by_cases hbw:b=want
     .rw[if_pos hbw]at he
      rw[if_pos (by simp[Region.wanted,hg,hy,hbw])]
      exact .inl (Gt h hi he Q)
     .rw[if_neg hbw]at he
      rw[if_neg (by simp[Region.wanted,hg,hy,hbw])]
      exact⟨F,own,_,h.put (x:=undef) (a:=und) (.pure (.v undef)) o.dst,he⟩
    .rename_i ys hb
     have hy:yielded ops act.tmps j=none:=by
      unfold yielded
      rw[hs]
      have hlt:s<σ.t.length:=by
       rcases aM s σ.t.length with q|q
       .exact q
       .simp[List.getD,bg q]at hb
      have hlt':s<act.tmps.size:=by rw[h.tl];exact hlt
      have e1:σ.t[s]?=some (.v (.tuple ys)):=by rw[<- hb];simp[List.getD,ah hlt]
      have:=(h.tr s _ _ (aD hlt') e1).dK
      simp only[nQ,aD hlt',this]
     rw[if_neg (by simp[Region.wanted,hg,hy])]
     exact⟨F,own,_,h.put (x:=undef) (a:=und) (.pure (.v undef)) o.dst,he⟩
    .exact he.elim
theorem Sv {lm d:Bool} {ops:Array Oper} {Q:Exit->Act->World->Prop} {K:St->Prop} (hQ:∀ a w,nG Gl B w0 K a w->Q .normal a w):∀ (l:List Ins) (k:Nat),(∀ j,k + j < ops.size->∃ ins o,l[j]?=some ins/\ops[k + j]?=some o/\qL P lm ops o=some ins)->k + l.length=ops.size ->
  ∀(σ:St) (F:Addr->Option Value) (own:List Ent) (act:Act) (w:World),zL P Gl d K l σ->Inv Gl F own B w0 σ act w->wpOps P ops Q (List.range' k l.length) act w:=by
 intro l
 induction l with
 |nil=>intro k _ _ σ F own act w ha hI;exact hQ act w ⟨F,own,σ,hI,ha⟩
 |cons ins l ih =>
  intro k hl hk σ F own act w ha hI
  obtain⟨ins',o,e1,e2,e3⟩:=hl 0 (by simp at hk;omega)
  simp at e1
  subst e1
  simp only[jO]at e2
  rw[bI,pF,wpOps_cons]
  refine wpOp_mono ?_ (qp hI e3 ha Q e2)
  rintro a w1 ⟨F1,fQ,σ1,hI1,hK⟩
  exact ih (k+1) (λj hj=>by
   obtain⟨i',o',f1,f2,f3⟩:=hl (j+1) (by omega)
   exact⟨i',o',by simpa using f1,by rw[<- f2];congr 1;omega,f3⟩) (by simp at hk;omega) σ1 F1 fQ a w1 hK hI1
end
def Opd.slots:Opd->List Nat
 |.t i=>[i]
 |_=>[]
def Ca:Option Opd->List Nat
 |some x=>x.slots
 |none=>[]
def I.reads:I->List Nat
 |.mov x|.un _ x|.conv _ x|.fld _ _ _ x|.ext _ x|.oU _ x|.load _ _ x|.len x|.BS x|.nck x|.b2s x|.s2b _ x|.box _ _ x|.CJ _ _ _ x|.mk _ _ _ _ x|.Cc _ x=>x.slots
 |.pick c a b|.slice3 _ c a b|.tY _ c a b=>c.slots++a.slots++b.slots
 |.bin _ x y|.beq _ x y|.aeq _ _ x y|.rJ _ x y|.qR _ _ _ x y|.copy _ x y|.store _ x y|.idx x y|.Ba _ _ _ x y|.app _ _ _ x y|.apps _ _ x y|.min2 x y|.max2 x y|.mk2 _ _ _ _ x y|.sU _ _ _ x y=>x.slots++y.slots
 |.slice _ x lo hi|.um x lo hi|.aslice _ _ x lo hi|.AZ _ x lo hi=>x.slots++Ca lo++Ca hi
 |.qy _ _ xs|.xD _ _ xs|.CF _ xs|.bsc _ xs|.clo _ xs=>xs.flatMap Opd.slots
 |.build _ ps=>ps.flatMap λp=>p.2.2.slots
 |.alloc _ _=>[]
 |.mmk _ x=>Ca x
 |.alloca _ _ _ _=>[]
 |.call fo args=>fo.slots++args.flatMap Opd.slots
def Ins.looks(i:Ins):List Nat:=i.i.reads++(match i.gd with|some (s,_)=>[s]|none=>[])
def I.cls:I->Nat
 |.load ..|.call ..|.qR ..|.aslice ..|.b2s ..|.sU ..=>1
 |.store ..|.app ..|.apps ..|.s2b ..|.qy ..|.CF ..|.bsc ..|.box ..|.CJ ..|.alloc ..|.alloca ..|.copy ..|.mk ..|.AZ ..|.mk2 ..|.mmk ..|.tY ..=>2
 |_=>0
section
variable{P:Program}{Gl:Nat->Option (List AV)}
theorem val_congr{σ τ:St}{x:Opd}(h:∀s∈x.slots,τ.t.getD s .any=σ.t.getD s .any):τ.val Gl x=σ.val Gl x:=by
 cases x with
 |t i=>exact h i (by simp[Opd.slots])
 |k v=>rfl
 |g i=>rfl
theorem EL{σ τ:St}:∀(ps:List (Nat×Nat×Opd)) (cs:List AV),(∀s∈ps.flatMap (λp=>p.2.2.slots),τ.t.getD s .any=σ.t.getD s .any)->pE Gl τ cs ps=pE Gl σ cs ps:=by
 intro ps
 induction ps with
 |nil=>intro cs _;rfl
 |cons p ps ih =>
  intro cs h
  obtain⟨o,s,x⟩:=p
  have hx:τ.val Gl x=σ.val Gl x:=val_congr λs hs=>h s (by simp[hs])
  simp only[pE,hx]
  split
  .split
   .exact ih _ λs hs=>h s (by simp only[dZ,aV];exact .inr hs)
   .rfl
  .rfl
theorem map_congr{σ τ:St}{xs:List Opd}(h:∀s∈xs.flatMap Opd.slots,τ.t.getD s .any=σ.t.getD s .any):xs.map (τ.val Gl)=xs.map (σ.val Gl):=by
 apply nJ
 intro x hx
 exact val_congr λs hs=>h s (uY.2 ⟨x,hx,hs⟩)
theorem Ae{σ τ:St}{x:Option Opd}(h:∀s∈Ca x,τ.t.getD s .any=σ.t.getD s .any):x.map (τ.val Gl)=x.map (σ.val Gl):=by
 cases x with
 |none=>rfl
 |some x=>simp only[bE];rw[val_congr h]
theorem yH{σ τ:St}{i:I}(h:∀s∈i.reads,τ.t.getD s .any=σ.t.getD s .any)(hh:τ.h=σ.h):step Gl τ i=step Gl σ i:=by
 cases i<;>simp only[I.reads,aV,or_imp,forall_and]at h<;>first
  |(simp only[step,val_congr h,hh];done)
  |(simp only[step,val_congr h.1,val_congr h.2,hh];done)
  |(simp only[step,val_congr h.1.1,val_congr h.1.2,val_congr h.2,hh];done)
  |(simp only[step,val_congr h.1.1,Ae h.1.2,Ae h.2,hh];done)
  |(simp only[step,map_congr h,hh];done)
  |(simp only[step,Ae h,hh];done)
  |(simp only[step,EL _ _ h,hh];done)
  |(simp only[step,hh];done)
theorem QB{h g:List aL}{a:AV}(hr:nS a=[]):lC h a=lC g a:=by
 cases a<;>first|rfl|cases hr
theorem Qx{h g:List aL}:∀{cs:List AV},cs.flatMap nS=[]->lN h cs=lN g cs:=by
 intro cs
 induction cs with
 |nil=>intro _;rfl
 |cons c cs ih =>
  intro hr
  rw[dZ,List.append_eq_nil_iff]at hr
  simp only[lN]
  rw[QB (h:=h) (g:=g) hr.1,ih hr.2]
theorem Qz{h g:List aL}{a:AV}(hr:gL a=[]):kV h a=kV g a:=by
 cases a with
 |agg cs=>simp only[kV];rw[Qx (h:=h) (g:=g) hr]
 |_=>first|rfl|cases hr
theorem Nj{h g:List aL}:∀{cs:List AV},(∀a∈cs,gL a=[])->iE h cs=iE g cs:=by
 intro cs
 induction cs with
 |nil=>intro _;rfl
 |cons c cs ih =>
  intro hr
  simp only[iE]
  rw[Qz (h:=h) (g:=g) (hr c (by simp)),ih λa ha=>hr a (by simp[ha])]
theorem tH{t:List AV}{h g:List aL}(x:Opd):St.val Gl ⟨t,h⟩ x=St.val Gl ⟨t,g⟩ x:=by cases x<;>rfl
theorem Wn{t:List AV}{h g:List aL}(xs:List Opd):xs.map (St.val Gl ⟨t,h⟩)=xs.map (St.val Gl ⟨t,g⟩):=nJ λx _=>tH x
theorem Lj{t:List AV}{h g:List aL}(x:Option Opd):x.map (St.val Gl ⟨t,h⟩)=x.map (St.val Gl ⟨t,g⟩):=by cases x<;>simp[tH (Gl:=Gl) (t:=t) (h:=h) (g:=g)]
theorem a1J{t:List AV}{h g:List aL}(ps:List (Nat×Nat×Opd))(cs:List AV):pE Gl ⟨t,h⟩ cs ps=pE Gl ⟨t,g⟩ cs ps:=EL ps cs λ_ _=>rfl
theorem RN{t:List AV}{h g:List aL}{i:I}(hc:i.cls=0):step Gl ⟨t,g⟩ i=(step Gl ⟨t,h⟩ i).map λq=>(q.1,q.2.1,g):=by
 cases i with
 |xD ty sz xs =>
  simp only[step,Wn (Gl:=Gl) (t:=t) (h:=g) (g:=h)]
  generalize xs.map (St.val Gl ⟨t,h⟩)=l
  by_cases hr:l.all (λa=>(gL a).isEmpty)=true
  .rw[Nj (h:=g) (g:=h) λa ha=>zU.1 (aU.1 hr a ha)]
   cases iE h l with
   |none=>rfl
   |some ys=>simp only;split<;>rfl
  ·have:∀ ys:List AV,(ys.all (fun y=>y.cells.length == sz) && l.all (fun a=>(gL a).isEmpty))=false:=fun ys=>by
    simp only[rR]at hr;rw[hr,Bool.and_false]
   cases iE g l<;>cases iE h l<;>simp[this]
 |build z ps=>simp only[step,a1J (Gl:=Gl) (t:=t) (h:=g) (g:=h)];cases pE Gl ⟨t,h⟩ (z.map .v) ps<;>rfl
 |slice sz x lo hi =>
  simp only[step,tH (Gl:=Gl) (t:=t) (h:=g) (g:=h),Lj (Gl:=Gl) (t:=t) (h:=g) (g:=h)]
  split
  .split
   .cases mJ _ _ _<;>rfl
   .rfl
  .cases mJ _ _ _<;>rfl
  .split
   .cases mJ _ _ _<;>rfl
   .rfl
  .rfl
 |um x lo hi =>
  simp only[step,tH (Gl:=Gl) (t:=t) (h:=g) (g:=h),Lj (Gl:=Gl) (t:=t) (h:=g) (g:=h)]
  split
  .cases mJ _ _ _<;>rfl
  .rfl
 |bin op x y =>
  simp only[step,tH (Gl:=Gl) (t:=t) (h:=g) (g:=h)]
  split
  .cases kZ _ _ _<;>rfl
  .rfl
 |un op x =>
  simp only[step,tH (Gl:=Gl) (t:=t) (h:=g) (g:=h)]
  split
  .cases unV _ _<;>rfl
  .rfl
 |aeq n fs x y =>
  simp only[step,tH (Gl:=Gl) (t:=t) (h:=g) (g:=h)]
  split
  .cases eqA _ _ _<;>rfl
  .rfl
 |fld o sz ag x =>
  simp only[step,tH (Gl:=Gl) (t:=t) (h:=g) (g:=h)]
  split
  .split
   .split<;>rfl
   .rename_i cs _ _;cases cs[o]?<;>rfl
  .rfl
 |ext k x =>
  simp only[step,tH (Gl:=Gl) (t:=t) (h:=g) (g:=h)]
  split
  .rename_i vs _;cases vs[k]?<;>rfl
  .rfl
 |slice3 sz x y z =>
  simp only[step,tH (Gl:=Gl) (t:=t) (h:=g) (g:=h)]
  split
  .split<;>rfl
  .rfl
 |Ba sz ag n x y =>
  simp only[step,tH (Gl:=Gl) (t:=t) (h:=g) (g:=h)]
  split
  .split
   .split<;>rfl
   .rfl
  .rfl
 |rJ sz x y =>
  simp only[step,tH (Gl:=Gl) (t:=t) (h:=g) (g:=h)]
  split
  .split<;>rfl
  .split<;>rfl
  .rfl
 |_=>first
  |(cases hc;done)
  |(simp only[step,tH (Gl:=Gl) (t:=t) (h:=g) (g:=h)];first|rfl|(split<;>rfl))
theorem CZ{σ τ:St}{i:I}(hc:i.cls=0)(h:∀s∈i.reads,τ.t.getD s .any=σ.t.getD s .any){p:Prop}{a:AV}{h':List aL}(hs:step Gl σ i=some (p,a,h')):h'=σ.h/\step Gl τ i=some (p,a,τ.h):=by
 have e1:step Gl ⟨τ.t,σ.h⟩ i=some (p,a,h'):=by rw[yH (σ:=σ) (τ:=⟨τ.t,σ.h⟩) h rfl];exact hs
 have e2:=RN (Gl:=Gl) (t:=τ.t) (h:=σ.h) (g:=τ.h) hc
 rw[e1]at e2
 have e3:=RN (Gl:=Gl) (t:=σ.t) (h:=σ.h) (g:=σ.h) hc
 have hs':step Gl ⟨σ.t,σ.h⟩ i=some (p,a,h'):=hs
 rw[hs']at e3
 simp only[bE,iG,jw,true_and]at e3
 exact⟨e3,e2⟩
def Fy(P:Program)(Gl:Nat->Option (List AV))(d:Bool)(σ:St)(a:AV)(h':List aL):I->Prop
 |.call fo args=>∃f,σ.val Gl fo=.v (.func (.func f) #[] #[])/\callable P f=true/\∃as,iE σ.h (args.map (σ.val Gl))=some as/\Pure P Gl f as a/\(d=true->(if scalar a then σ.h else freeze σ.h ((args.map (σ.val Gl)).flatMap gL))=σ.h)/\h'=(if scalar a then σ.h else freeze σ.h ((args.map (σ.val Gl)).flatMap gL))
 |i=>∃p,step Gl σ i=some (p,a,h')/\p
def FJ(P:Program)(Gl:Nat->Option (List AV))(d:Bool)(σ:St)(ins:Ins)(a:AV)(h':List aL):Prop :=
 match ins.gd with
 |none=>Fy P Gl d σ a h' ins.i
 |some (s,want)=>match σ.t.getD s .any with
  |.v (.bool b)=>if b=want then Fy P Gl d σ a h' ins.i else a=und/\h'=σ.h
  |.v (.tuple _)=>a=und/\h'=σ.h
  |_=>False
theorem Mv{σ:St}{dst:Option Nat}{K:St->Prop}{i:I}:gy P Gl true σ dst K i↔∃a h',Fy P Gl true σ a h' i/\K (St.put ⟨σ.t,h'⟩ dst a):=by
 by_cases hcall:∃f args,i=.call f args
 .obtain⟨f,args,rfl⟩:=hcall
  constructor
  .rintro(⟨h1,_⟩|⟨f,hf,hcb,(⟨as,res,h1,h2,h3,h4⟩|⟨h1,_⟩)⟩)
   .cases h1
   .exact⟨res,_,⟨f,hf,hcb,as,h1,h2,h3,rfl⟩,h4⟩
   .cases h1
  .rintro⟨res,h',⟨f,hf,hcb,as,h1,h2,h3,rfl⟩,h4⟩
   exact .inr ⟨f,hf,hcb,.inl ⟨as,res,h1,h2,h3,h4⟩⟩
 ·have e1:gy P Gl true σ dst K i=(match step Gl σ i with | some (p,a,h')=>p/\K (St.put ⟨σ.t,h'⟩ dst a) | none=>False):=by
   cases i<;>first|rfl|exact absurd ⟨_,_,rfl⟩ hcall
  have e2:∀a h',Fy P Gl true σ a h' i=∃p,step Gl σ i=some (p,a,h')/\p:=λa h'=>by
   cases i<;>first|rfl|exact absurd ⟨_,_,rfl⟩ hcall
  rw[e1]
  constructor
  .intro h
   cases hs:step Gl σ i with
   |none=>rw[hs]at h;exact h.elim
   |some q =>
    obtain⟨p,a,h'⟩:=q
    rw[hs]at h
    exact⟨a,h',by rw[e2];exact⟨p,hs,h.1⟩,h.2⟩
  .rintro⟨a,h',h1,h2⟩
   rw[e2]at h1
   obtain⟨p,hs,hp⟩:=h1
   rw[hs]
   exact⟨hp,h2⟩
theorem MZ{σ:St}{K:St->Prop}{ins:Ins}:gV P Gl true σ ins K↔∃a h',FJ P Gl true σ ins a h'/\K (St.put ⟨σ.t,h'⟩ ins.dst a):=by
 unfold gV FJ
 cases ins.gd with
 |none=>exact Mv
 |some q =>
  obtain⟨s,want⟩:=q
  simp only
  generalize σ.t.getD s .any=g
  have no:∀{X:AV->List aL->Prop},(False↔∃a h',False/\X a h'):=fun{X}=>⟨λh=>h.elim,fun⟨_,_,h,_⟩=>h.elim⟩
  cases g with
  |v x=>cases x with
   |bool b =>
    simp only
    by_cases hb:b=want
    .simp only[if_pos hb];exact Mv
    .simp only[if_neg hb]
     constructor
     .intro h;exact⟨und,σ.h,⟨rfl,rfl⟩,h⟩
     .rintro⟨a,h',⟨rfl,rfl⟩,h⟩;exact h
   |tuple ys =>
    simp only
    constructor
    .intro h;exact⟨und,σ.h,⟨rfl,rfl⟩,h⟩
    .rintro⟨a,h',⟨rfl,rfl⟩,h⟩;exact h
   |_=>exact no
  |_=>exact no
theorem Gv {σ τ:St} {i:I} (h:∀ s ∈ i.reads,τ.t.getD s .any=σ.t.getD s .any) (hh:i.cls ≠ 0->τ.h=σ.h) {a:AV} {h':List aL} (he:Fy P Gl true σ a h' i) :
  (i.cls≠2->h'=σ.h)/\Fy P Gl true τ a (if i.cls=2 then h' else τ.h) i:=by
 by_cases hcall:∃f args,i=.call f args
 .obtain⟨f,args,rfl⟩:=hcall
  obtain⟨f',hf,hcb,as,h1,h2,h3,rfl⟩:=he
  have hτ:=hh (by simp[I.cls])
  have hA:∀s∈args.flatMap Opd.slots,τ.t.getD s .any=σ.t.getD s .any:=λs hs=>h s (by simp only[I.reads,aV];exact .inr hs)
  have hO:τ.val Gl f=σ.val Gl f:=val_congr λs hs=>h s (by simp only[I.reads,aV];exact .inl hs)
  refine⟨λ_=>h3 rfl,f',by rw[hO];exact hf,hcb,as,?_,h2,?_,?_⟩
  .rw[map_congr hA,hτ];exact h1
  .rw[map_congr hA,hτ];exact h3
  .rw[map_congr hA,hτ,h3 rfl];simp[I.cls]
 ·have e2:∀ (ρ:St) a h',Fy P Gl true ρ a h' i=∃ p,step Gl ρ i=some (p,a,h')/\p:=fun ρ a h'=>by
   cases i<;>first|rfl|exact absurd ⟨_,_,rfl⟩ hcall
  rw[e2]at he
  obtain⟨p,hs,hp⟩:=he
  rw[e2]
  by_cases hc:i.cls=0
  .obtain⟨q1,q2⟩:=CZ hc h hs
   exact⟨λ_=>q1,p,by rw[if_neg (by omega)];exact q2,hp⟩
  .have hτ:=hh hc
   have hs2:=yH (Gl:=Gl) h hτ
   rw[hs]at hs2
   by_cases hc2:i.cls=2
   .exact⟨λq=>absurd hc2 q,p,by rw[if_pos hc2];exact hs2,hp⟩
   ·have hload:h'=σ.h:=by
     cases i<;>first|(exact absurd rfl hc)|(exact absurd rfl hc2)|(exact absurd ⟨_,_,rfl⟩ hcall)|skip
     all_goals(simp only[step]at hs)
     all_goals(repeat' split at hs)
     all_goals first
      |(cases hs;done)
      |(cases hs;rfl)
      |(rw[ig]at hs;obtain⟨_,_,q⟩:=hs;cases q;rfl)
    refine⟨λ_=>hload,p,?_,hp⟩
    rw[if_neg hc2,hτ,<- hload];exact hs2
theorem GJ {σ τ:St} {ins:Ins} (h:∀ s ∈ ins.looks,τ.t.getD s .any=σ.t.getD s .any) (hh:ins.i.cls ≠ 0->τ.h=σ.h) {a:AV} {h':List aL} (he:FJ P Gl true σ ins a h') :
  (ins.i.cls≠2->h'=σ.h)/\∃h'',FJ P Gl true τ ins a h''/\(ins.i.cls≠2->h''=τ.h)/\(ins.i.cls=2->h''=h'):=by
 have hr:∀s∈ins.i.reads,τ.t.getD s .any=σ.t.getD s .any:=λs hs=>h s (by simp[Ins.looks,hs])
 unfold FJ at he ⊢
 cases hg:ins.gd with
 |none =>
  rw[hg]at he
  obtain⟨q1,q2⟩:=Gv hr hh he
  exact⟨q1,_,q2,λc=>if_neg c,λc=>if_pos c⟩
 |some q =>
  obtain⟨s,want⟩:=q
  rw[hg]at he
  simp only at he ⊢
  rw[h s (by simp[Ins.looks,hg])]
  split at he
  .rename_i b hb
   split at he
   .rename_i hbw
    obtain⟨q1,q2⟩:=Gv hr hh he
    exact⟨q1,_,by rw[if_pos hbw];exact q2,λc=>if_neg c,λc=>if_pos c⟩
   .rename_i hbw
    obtain⟨rfl,rfl⟩:=he
    refine⟨λ_=>rfl,τ.h,by rw[if_neg hbw];exact⟨rfl,rfl⟩,λ_=>rfl,λc=>hh (by omega)⟩
  .obtain⟨rfl,rfl⟩:=he
   exact⟨λ_=>rfl,τ.h,⟨rfl,rfl⟩,λ_=>rfl,λc=>hh (by omega)⟩
  .exact he.elim
def BZ(t:List AV)(d:Option Nat)(a:AV):List AV :=
 match d with
 |some i=>t.set i a
 |none=>t
theorem put_eq(σ:St)(h:List aL)(d:Option Nat)(a:AV):St.put ⟨σ.t,h⟩ d a=⟨BZ σ.t d a,h⟩:=by cases d<;>rfl
theorem VG(t:List AV)(d:Option Nat)(a:AV):(BZ t d a).length=t.length:=by cases d<;>simp[BZ]
theorem NQ{t:List AV}{d:Option Nat}{a:AV}{s:Nat}(h:d≠some s):(BZ t d a)[s]?=t[s]?:=by
 cases d with
 |none=>rfl
 |some i=>exact aB (λe=>h (by rw[e]))
theorem IK{t t':List AV}{s:Nat}{a:AV}(hl:t.length=t'.length):(BZ t (some s) a)[s]?=(BZ t' (some s) a)[s]?:=by
 simp[BZ,dY,hl]
def yS(l:List Ins)(k:Nat):Option Nat:=(l[k]?).bind (·.dst)
def tS(t:List AV)(l:List Ins)(as:Nat->AV)(S:Nat->Bool):Nat->List AV
 |0=>t
 |k+1=>if S k then BZ (tS t l as S k) (yS l k) (as k) else tS t l as S k
theorem FN (t:List AV) (l:List Ins) (as:Nat->AV) (S:Nat->Bool) (k:Nat):(tS t l as S k).length=t.length:=by
  induction k with
  |zero=>rfl
  | succ k ih => simp only [tS]; split
                 .rw[VG];exact ih
                 .exact ih
theorem BQ{t:List AV}{l:List Ins}{as as':Nat->AV}{S S':Nat->Bool}{k:Nat}(h:∀j,j<k->as j=as' j/\S j=S' j):tS t l as S k=tS t l as' S' k:=by
 induction k with
 |zero=>rfl
 |succ k ih =>
  simp only[tS]
  rw[ih λj hj=>h j (by omega),(h k (by omega)).1,(h k (by omega)).2]
theorem PE{t:List AV}{l:List Ins}{as:Nat->AV}{S S':Nat->Bool}{s:Nat}{k:Nat}(h:∀j,j<k->yS l j=some s->S j=S' j):(tS t l as S k)[s]?=(tS t l as S' k)[s]?:=by
 induction k with
 |zero=>rfl
 |succ k ih =>
  have ih':=ih λj hj=>h j (by omega)
  have hl:(tS t l as S k).length=(tS t l as S' k).length:=by rw[FN,FN]
  simp only[tS]
  by_cases hd:yS l k=some s
  .rw[h k (by omega) hd,hd]
   split
   .exact IK hl
   .exact ih'
  .split<;>split<;>simp only[NQ hd,ih']
theorem H8 {t:List AV} {l:List Ins} {as:Nat->AV} {S:Nat->Bool} {j k:Nat} (hjk:j<=k) (h:∀ i,j<=i->i < k->S i=false):tS t l as S k=tS t l as S j:=by
  induction k with
  | zero => have : j = 0 := by omega
            subst this;rfl
  | succ k ih =>
    rcases aM k j with q|q
    · have:j=k + 1:=by omega
      subst this;rfl
    · simp only [tS]
      rw[h k q (by omega)]
      exact ih q λi a b=>h i a (by omega)
theorem trace {K:St->Prop} {l:List Ins} {σ:St} (h:zL P Gl true K l σ):∃ (as:Nat->AV) (hs:Nat->List aL),hs 0=σ.h /\
  (∀i ins,l[i]?=some ins->FJ P Gl true ⟨tS σ.t l as (λ_=>true) i,hs i⟩ ins (as i) (hs (i+1)))/\K ⟨tS σ.t l as (λ_=>true) l.length,hs l.length⟩:=by
 have key:∀k,k<=l.length->∃(as:Nat->AV) (hs:Nat->List aL),hs 0=σ.h/\(∀i ins,i<k->l[i]?=some ins->FJ P Gl true ⟨tS σ.t l as (λ_=>true) i,hs i⟩ ins (as i) (hs (i+1)))/\zL P Gl true K (l.drop k) ⟨tS σ.t l as (λ_=>true) k,hs k⟩:=by
  intro k
  induction k with
  |zero=>intro _;exact⟨λ_=>.any,λ_=>σ.h,rfl,λi ins hi=>by omega,h⟩
  |succ k ih =>
   intro hk
   obtain⟨as,hs,h0,h1,h2⟩:=ih (by omega)
   have hlt:k<l.length:=by omega
   rw[jc hlt]at h2
   obtain⟨a,h',ha,hr⟩:=MZ.1 h2
   refine⟨λi=>if i=k then a else as i,λi=>if i=k+1 then h' else hs i,by simp[h0],λi ins hi hl=>?_,?_⟩
   .have e1:tS σ.t l (λi=>if i=k then a else as i) (λ_=>true) i=tS σ.t l as (λ_=>true) i:=BQ λj hj=>⟨if_neg (by omega),rfl⟩
    simp only[e1]
    by_cases hik:i=k
    .subst hik
     rw[ah hlt]at hl
     cases hl
     simp only[if_true]
     rw[if_neg (by omega)]
     exact ha
    .rw[if_neg (by omega),if_neg hik,if_neg (by omega)]
     exact h1 i ins (by omega) hl
   .have e1:tS σ.t l (λi=>if i=k then a else as i) (λ_=>true) k=tS σ.t l as (λ_=>true) k:=BQ λj hj=>⟨if_neg (by omega),rfl⟩
    simp only[tS,if_true,e1]
    rw[put_eq]at hr
    have e2:yS l k=l[k].dst:=by simp[yS,ah hlt]
    rw[e2]
    exact hr
 obtain⟨as,hs,h0,h1,h2⟩:=key l.length (bF _)
 refine⟨as,hs,h0,λi ins hl=>h1 i ins (aj.1 hl).1 hl,?_⟩
 rw[nR]at h2
 exact h2
end
def direct(ops:Array Oper)(i:Nat):List Nat:=match ops[i]? with
 |some o=>o.after.toList.filterMap λe=>if Region.binds .any e then some e.on else none
 |none=>[]
def tb(bm:Array Nat)(i j:Nat):Bool:=(bm.getD i 0).testBit j
def clash(a b:Ins):Bool :=
 (match a.dst with|some d=>b.looks.contains d||b.dst==some d|none=>false)||(match b.dst with|some d=>a.looks.contains d|none=>false)||
 (a.i.cls==2&&b.i.cls != 0)||(b.i.cls==2&&a.i.cls != 0)
def BD(ops:Array Oper)(l:List Ins):Bool :=
 let bm:=Region.before ops
 let n:=ops.size
 (List.range n).all λi=>(direct ops i).all (λd=>decide (d<i))&&
  (List.range i).all λj=>(!tb bm i j||(direct ops i).contains j||(direct ops i).any λd=>decide (j<d)&&tb bm d j)&&(!clash (l.getD j default) (l.getD i default)||tb bm i j)
section
variable{P:Program}{Gl:Nat->Option (List AV)}{F:Addr->Option Value}{own:List Ent}{B:Nat}{w0:W0}{σ:St}{act:Act}{w:World}
theorem Np {ops:Array Oper} {l:List Ins} (h:BD ops l=true) :
  (∀i d,i<ops.size->d∈direct ops i->d<i)/\(∀i j,j<i->i<ops.size->tb (Region.before ops) i j=true->j∈direct ops i\/∃d∈direct ops i,j<d/\tb (Region.before ops) d j=true)/\
  (∀i j,j<i->i<ops.size->clash (l.getD j default) (l.getD i default)=true->tb (Region.before ops) i j=true):=by
 unfold BD at h
 have h1:∀i,i<ops.size->_:=λi hi=>aU.1 h i (bO.2 hi)
 refine⟨λi d hi hd=>?_,λi j hj hi ht=>?_,λi j hj hi hc=>?_⟩
 .have:=h1 i hi
  rw[au]at this
  exact of_decide_eq_true (aU.1 this.1 d hd)
 .have:=h1 i hi
  rw[au]at this
  have:=aU.1 this.2 j (bO.2 hj)
  rw[au]at this
  have:=this.1
  simp only[ht,qo,yE,jD]at this
  rcases this with q|q
  .exact .inl (iV.1 q)
  .obtain⟨d,hd,hq⟩:=gP.1 q
   rw[au]at hq
   exact .inr ⟨d,hd,of_decide_eq_true hq.1,hq.2⟩
 .have:=h1 i hi
  rw[au]at this
  have:=aU.1 this.2 j (bO.2 hj)
  rw[au]at this
  have:=this.2
  rw[hc]at this
  exact this
theorem Ie{a b:Ins}(h1:a.i.cls=2)(h2:b.i.cls≠0):clash a b=true:=by simp[clash,h1,h2]
theorem a1G{a b:Ins}(h1:b.i.cls=2)(h2:a.i.cls≠0):clash a b=true:=by simp[clash,h1,h2]
theorem OJ{a b:Ins}{s:Nat}(h1:a.dst=some s)(h2:b.dst=some s):clash a b=true:=by simp[clash,h1,h2]
theorem DI{n:Nat}{S:Nat->Bool}(h:0<(List.range n).countP λi=>!S i):∃i,i<n/\S i=false/\∀j,j<i->S j=true:=by
 have ex:∃i,i<n/\S i=false:=by
  obtain⟨i,hi,hs⟩:=List.countP_pos_iff.1 h
  exact⟨i,bO.1 hi,by simpa using hs⟩
 obtain⟨i,hi⟩:=ex
 induction i using Nat.strongRecOn with
 |_ i ih =>
  by_cases hall:∀j,j<i->S j=true
  .exact⟨i,hi.1,hi.2,hall⟩
  ·have:∃ j,j < i/\S j=false:=by
    apply kL
    intro q
    exact hall λj hj=>by
     cases hs:S j with
     |true=>rfl
     |false=>exact absurd ⟨j,hj,hs⟩ q
   obtain⟨j,hj,hs⟩:=this
   exact ih j hj ⟨by omega,hs⟩
theorem count_set{n:Nat}{S S':Nat->Bool}{k:Nat}(hk:k<n)(h0:S k=false)(h1:S' k=true)(h:∀j,j≠k->S' j=S j):((List.range n).countP λi=>!S i)=((List.range n).countP λi=>!S' i)+1:=by
 induction n with
 |zero=>omega
 |succ n ih =>
  rw[qA,List.countP_append,List.countP_append]
  rcases aM k n with q|q
  .rw[ih q]
   simp only[List.countP_cons,List.countP_nil]
   rw[h n (by omega)]
   omega
  .have:k=n:=by omega
   subst this
   have e:((List.range k).countP λi=>!S i)=((List.range k).countP λi=>!S' i):=List.countP_congr λi hi=>by
    rw[h i (by have:=bO.1 hi;omega)]
   rw[e]
   simp[h0,h1]
theorem Nn {lm : Bool} {ops : Array Oper} {l : List Ins} (hl : l.length = ops.size) (hc : ∀ (j : Nat) (o : Oper), ops[j]? = some o -> ∃ ins, l[j]? = some ins /\ qL P lm ops o = some ins) (hd : BD ops l = true) {Q : Exit -> Act -> World -> Prop} {K : St -> Prop} (hQ : ∀ a w, nG Gl B w0 K a w -> Q .normal a w)
    (ha:zL P Gl true K l σ) (hI:Inv Gl F own B w0 σ act w):wpAny P .any ops Q ops.size (Array.replicate ops.size false) act w:=by
  obtain⟨d1,d2,d3⟩:=Np hd
  obtain⟨as,hs,h0,hone,hK⟩:=trace ha
  generalize hn:ops.size=n at *
  have oP:∀ i,i < n->∃ o ins,ops[i]?=some o/\l[i]?=some ins/\qL P lm ops o=some ins/\l.getD i default=ins:=fun i hi=>by
    have ho:ops[i]?=some (ops[i]'(by omega)):=aD (by omega)
    obtain⟨ins,e1,e2⟩:=hc i _ ho
    exact⟨_,ins,ho,e1,e2,by simp[List.getD,e1]⟩
  have hstep:∀ i,i < n->(l.getD i default).i.cls ≠ 2->hs (i + 1)=hs i:=fun i hi hne=>by
    obtain⟨o,ins,_,e1,_,e3⟩:=oP i hi
    rw[e3]at hne
    exact(GJ (τ:=⟨tS σ.t l as (λ_=>true) i,hs i⟩) (λ_ _=>rfl) (λ_=>rfl) (hone i ins e1)).1 hne
  have hconst:∀ a b,a<=b->b<=n->(∀ i,a<=i->i < b->(l.getD i default).i.cls ≠ 2)->hs b=hs a:=by
    intro a b hab hbn
    induction b with
    | zero => intro _; have : a = 0 := by omega
              subst this;rfl
    | succ b ih =>
      intro h
      rcases aM b a with q|q
      · have:a=b + 1:=by omega
        subst this;rfl
      · rw [hstep b (by omega) (h b q (by omega))]
        exact ih q (by omega) λi p r=>h i p (by omega)
  have ahead:∀ (S:Nat->Bool),(∀ i,i < n->S i=true->∀ d ∈ direct ops i,S d=true)->∀ i j,i < n->(∀ d ∈ direct ops i,S d=true)->tb (Region.before ops) i j=true->j < i->S j=true:=by
    intro S hcl i
    induction i using Nat.strongRecOn with
    | _ i ih =>
      intro j hi pX ht hji
      rcases d2 i j hji hi ht with q|⟨d,hdm,r,q⟩
      .exact pX j q
      · have hdi:=d1 i d hi hdm
        exact ih d hdi j (by omega) (hcl d (by omega) (pX d hdm)) q r
  have Ez:∀ (S:Nat->Bool),(∀ i,i < n->S i=true->∀ d ∈ direct ops i,S d=true)->∀ i j,i < n->j < i->S i=true->clash (l.getD j default) (l.getD i default)=true->S j=true:=fun S hcl i j hi hji hS hcl' =>
    ahead S hcl i j hi (hcl i hi hS) (d3 i j hji hi hcl') hji
  have EA:∀ (S:Nat->Bool),(∀ i,i < n->S i=true->∀ d ∈ direct ops i,S d=true)->∀ i j,i < n->j < i->(∀ d ∈ direct ops i,S d=true)->clash (l.getD j default) (l.getD i default)=true->S j=true:=fun S hcl i j hi hji pX hcl' =>
    ahead S hcl i j hi pX (d3 i j hji hi hcl') hji
  have mem_ready:∀ (listed:Array Bool) (i:Nat),listed.size=n->i ∈ Region.ready .any ops listed->i < n/\listed.getD i false=false/\∀ d ∈ direct ops i,listed.getD d false=true:=by
    intro listed i hsz hi
    unfold Region.ready at hi
    rw[iU,bO,hn]at hi
    obtain⟨h1,h2⟩:=hi
    rw[au]at h2
    have e0:listed.getD i false=listed.getD i true:=by
      have:i<listed.size:=by omega
      simp[Array.getD,this]
    refine⟨h1,by rw[e0];simpa using h2.1,λd hd=>?_⟩
    obtain⟨o,ins,ho,_⟩:=oP i h1
    have h3:=h2.2
    rw[ho]at h3
    simp only[bE,fT]at h3
    unfold direct at hd
    rw[ho]at hd
    simp only at hd
    obtain⟨e,he,hq⟩:=o9.1 hd
    have:=fM.1 h3 e (by simpa using he)
    split at hq
    · rename_i hb
      cases hq
      simpa[hb]using this
    .cases hq
  have xH:∀ (listed:Array Bool) (i:Nat),listed.size=n->i < n->listed.getD i false=false->(∀ j,j < i->listed.getD j false=true)->i ∈ Region.ready .any ops listed:=by
    intro listed i hsz hi h1 h2
    unfold Region.ready
    rw[iU,bO,hn]
    refine⟨hi,?_⟩
    have e0:listed.getD i false=listed.getD i true:=by
      have:i<listed.size:=by omega
      simp[Array.getD,this]
    rw[au]
    refine⟨by rw[<- e0,h1];rfl,?_⟩
    obtain⟨o,ins,ho,_⟩:=oP i hi
    rw[ho]
    simp only[bE,fT]
    refine fM.2 λe he=>?_
    cases hb:Region.binds .any e with
    |false=>rfl
    | true =>
      have hd:e.on ∈ direct ops i:=by
        unfold direct
        rw[ho]
        exact o9.2 ⟨e,by simpa using he,by simp[hb]⟩
      have:=h2 e.on (d1 i e.on hi hd)
      simpa using this
  have main : ∀ (fuel : Nat) (listed : Array Bool) (τ : St) (F : Addr -> Option Value) (own : List Ent) (act : Act) (w : World), listed.size = n -> (∀ i, i < n -> listed.getD i false = true -> ∀ d ∈ direct ops i, listed.getD d false = true) ->
      ((List.range n).countP λi=>!listed.getD i false)=fuel->(∃k,k<=n/\(∀i,i<n->(l.getD i default).i.cls=2->(listed.getD i false=true↔i<k))/\τ.h=hs k)->τ.t=tS σ.t l as (λi=>listed.getD i false) n->
      Inv Gl F own B w0 τ act w->wpAny P .any ops Q fuel listed act w:=by
    intro fuel
    induction fuel with
    | zero =>
      intro listed τ F own act w hsz hcl hcnt ⟨k,hk,hkw,hh⟩ ht hI
      have hall:∀ i,i < n->listed.getD i false=true:=fun i hi=>by
        have:=wF.1 hcnt i (bO.2 hi)
        simpa using this
      refine⟨?_,hQ act w ⟨F,own,τ,hI,?_⟩⟩
      · apply qB.2
        intro i hi
        obtain⟨q1,q2,_⟩:=mem_ready listed i hsz hi
        rw[hall i q1]at q2
        cases q2
      · have e1 : τ.t = tS σ.t l as (fun _ => true) l.length := by
          rw[ht,hl];exact BQ λj hj=>⟨rfl,hall j hj⟩
        have e2:τ.h=hs l.length:=by
          rw[hh,hl]
          exact(hconst k n hk (bF _) λi h1 h2 h3=>by have:=(hkw i h2 h3).1 (hall i h2);omega).symm
        have:τ=⟨tS σ.t l as (λ_=>true) l.length,hs l.length⟩:=by cases τ;simp only at e1 e2;rw[e1,e2]
        rw[this];exact hK
    | succ fuel ih =>
      intro listed τ F own act w hsz hcl hcnt ⟨k,hk,hkw,hh⟩ ht hI
      refine⟨λhnil=>?_,λi hi=>?_⟩
      · obtain ⟨i,h1,h2,h3⟩:=DI (n:=n) (S:=fun i=>listed.getD i false) (by omega)
        have:=xH listed i hsz h1 h2 h3
        rw[hnil]at this
        simp at this
      · obtain ⟨hin,hiS,pX⟩:=mem_ready listed i hsz hi
        obtain⟨o,ins,ho,hli,hci,hgd⟩:=oP i hin
        have a6E:∀ s,s ∈ ins.looks->τ.t.getD s .any=(tS σ.t l as (fun _=>true) i).getD s .any:=fun s hs'=>by
          have e1:tS σ.t l as (fun _=>true) i=tS σ.t l as (fun j=>decide (j < i)) n:=by
            rw[H8 (S:=λj=>decide (j<i)) (j:=i) (by omega) λj h1 h2=>by simp;omega]
            exact BQ λj hj=>⟨rfl,by simp[hj]⟩
          rw[e1,ht]
          have:(tS σ.t l as (fun j=>listed.getD j false) n)[s]?=(tS σ.t l as (fun j=>decide (j < i)) n)[s]?:=PE fun j hj hdj=>by
            obtain⟨o',ins',_,hl',_,hg'⟩:=oP j hj
            have hdst:ins'.dst=some s:=by simpa[yS,hl']using hdj
            rcases oJ j i with r|r|r
            · rw [gF r]
              refine EA _ hcl i j hin r pX ?_
              rw[hg',hgd]
              simp only[clash,hdst,jD,iV]
              exact .inl (.inl (.inl (.inl hs')))
            .subst r;simp[hiS]
            · rw [jh (by omega)]
              cases hq:listed.getD j false with
              |false=>rfl
              | true =>
                have:=Ez _ hcl j i hj r hq (by
                  rw[hg',hgd]
                  simp only[clash,hdst,jD,iV]
                  exact .inl (.inl (.inr hs')))
                rw[hiS]at this;cases this
          rw[aQ,aQ,this]
        have hheap:ins.i.cls ≠ 0->τ.h=hs i:=fun hne=>by
          rw[hh]
          have lo:∀ j,j < n->(l.getD j default).i.cls=2->j < i->j < k:=fun j hj hc2 hji=>by
            refine(hkw j hj hc2).1 (EA _ hcl i j hin hji pX ?_)
            rw[hgd];exact Ie hc2 hne
          have up:∀ j,j < n->(l.getD j default).i.cls=2->i < j->¬ j < k:=fun j hj hc2 hij hjk=>by
            have hSj:=(hkw j hj hc2).2 hjk
            have:=Ez _ hcl j i hj hij hSj (by rw[hgd];exact a1G hc2 hne)
            rw[hiS]at this;cases this
          have self:(l.getD i default).i.cls=2->¬ i < k:=fun hc2 hik=>by
            have:=(hkw i hin hc2).2 hik
            rw[hiS]at this;cases this
          rcases Nat.le_total k i with r|r
          .exact(hconst k i r (by omega) λj h1 h2 h3=>by have:=lo j (by omega) h3 h2;omega).symm
          · refine hconst i k r hk fun j h1 h2 h3=>?_
            rcases aM i j with q|q
            .exact up j (by omega) h3 q h2
            · have:j=i:=by omega
              subst this;exact self h3 h2
        obtain⟨q0,h'',q1,q2,q3⟩:=GJ (τ:=τ) (σ:=⟨tS σ.t l as (λ_=>true) i,hs i⟩) a6E hheap (hone i ins hli)
        have a3Z:gV P Gl true τ ins (λρ=>ρ=St.put ⟨τ.t,h''⟩ ins.dst (as i)):=MZ.2 ⟨as i,h'',q1,rfl⟩
        refine wpOp_mono ?_ (qp hI hci a3Z Q ho)
        rintro a1 w1 ⟨F1,fQ,ρ,hI1,rfl⟩
        rw[put_eq]at hI1
        have hset:∀ j,(listed.setIfInBounds i true).getD j false=if j=i then true else listed.getD j false:=fun j=>by
          by_cases hji:j=i
          · subst hji
            have:j<listed.size:=by omega
            simp[Array.getD,this]
          · rw [if_neg hji]
            simp only[jR]
            rw[pJ (λe=>hji e.symm)]
        refine ih (listed.setIfInBounds i true) ⟨BZ τ.t ins.dst (as i),h''⟩ F1 fQ a1 w1 (by simp[hsz]) (λj hj hS d hdj=>?_) ?_ ?_ ?_ hI1
        · rw [hset] at hS ⊢
          split
          .rfl
          · split at hS
            .rename_i hji;subst hji;exact pX d hdj
            .exact hcl j hj hS d hdj
        · have:=count_set (n:=n) (S:=fun j=>listed.getD j false) (S':=fun j=>(listed.setIfInBounds i true).getD j false) hin hiS (by simp only [hset]; simp) (fun j hj=>by simp only [hset,if_neg hj])
          omega
        · by_cases hc2:ins.i.cls=2
          · refine ⟨i + 1,by omega,fun j hj hcj=>?_,by rw [q3 hc2]⟩
            rw[hset]
            split
            .rename_i hji;subst hji;simp
            · rename_i hji
              rw[hkw j hj hcj]
              constructor
              · intro hjk
                rcases aM i j with r|r
                · have hSj:=(hkw j hj hcj).2 hjk
                  have:=Ez _ hcl j i hj r hSj (by rw[hgd];exact Ie hc2 (by omega))
                  rw[hiS]at this;cases this
                .omega
              · intro b0n
                refine(hkw j hj hcj).1 (EA _ hcl i j hin (by omega) pX ?_)
                rw[hgd];exact Ie hcj (by omega)
          · refine ⟨k,hk,fun j hj hcj=>?_,by rw [q2 hc2]; exact hh⟩
            rw[hset]
            split
            .rename_i hji;subst hji;rw[hgd]at hcj;exact absurd hcj hc2
            .exact hkw j hj hcj
        · simp only
          apply gG
          intro s
          have hdi:yS l i=ins.dst:=by simp[yS,hli]
          by_cases hds:ins.dst=some s
          · have e1 : (tS σ.t l as (fun j => (listed.setIfInBounds i true).getD j false) n)[s]? = (tS σ.t l as (fun j => decide (j <= i)) n)[s]? := PE fun j hj hdj => by
              obtain⟨o',ins',_,hl',_,hg'⟩:=oP j hj
              have hdst:ins'.dst=some s:=by simpa[yS,hl']using hdj
              rw[hset]
              split
              .rename_i hji;subst hji;simp
              · rename_i hji
                rcases aM j i with r|r
                · rw [gF (by omega)]
                  refine EA _ hcl i j hin r pX ?_
                  rw[hg',hgd];exact OJ hdst hds
                · rw [jh (by omega)]
                  cases hq:listed.getD j false with
                  |false=>rfl
                  | true =>
                    have:=Ez _ hcl j i hj (by omega) hq (by rw[hg',hgd];exact OJ hds hdst)
                    rw[hiS]at this;cases this
            rw[e1,H8 (S:=λj=>decide (j<=i)) (j:=i+1) (by omega) λj h1 h2=>by simp;omega]
            simp only[tS,gF (bF i),if_true,hdi,hds]
            exact IK (by rw[ht,FN,FN])
          · rw [NQ hds,ht]
            exact PE fun j hj hdj=>by
              rw[hset]
              split
              .rename_i hji;subst hji;rw[hdi]at hdj;exact absurd hdj hds
              .rfl
  have hrep:∀ i,(Array.replicate n false).getD i false=false:=fun i=>by
    simp only[jR,tF]
    split<;>rfl
  refine main n (Array.replicate n false) σ F own act w (by simp) (λi _ h=>by rw[hrep]at h;cases h) ?_ ⟨0,by omega,λi hi _=>by simp[hrep],h0.symm⟩ ?_ hI
  · have:((List.range n).countP fun i=>!(Array.replicate n false).getD i false)=(List.range n).length:=vH.2 fun i _=>by rw [hrep]; rfl
    rw[this];simp
  · have:tS σ.t l as (fun i=>(Array.replicate n false).getD i false) n=tS σ.t l as (fun i=>(Array.replicate n false).getD i false) 0:=H8 (by omega) fun i _ _=>hrep i
    rw[this];rfl
end
def I.lI:I->Bool
 |.call ..=>true
 |_=>false
def I.ids(Gl:Nat->Option (List AV))(σ:St):I->List Nat
 |.load _ _ x=>match σ.val Gl x with|.ptr id _ _ _=>[id]|_=>[]
 |.qR _ _ _ x _=>match σ.val Gl x with|.ptr id _ _ _=>[id]|_=>[]
 |.aslice _ _ x _ _=>match σ.val Gl x with|.ptr id _ _ _=>[id]|_=>[]
 |.b2s x=>match σ.val Gl x with|.row id _ _ _ _=>[id]|_=>[]
 |.sU _ _ _ x _=>match σ.val Gl x with|.mp id=>[id]|_=>[]
 |.call _ args=>(args.map (σ.val Gl)).flatMap gL
 |_=>[]
def agree(N:Nat)(U:List Nat)(h h':List aL):Prop:=∀id,id<N->id∉U->h'[id]?=h[id]?
theorem agree.symm{N:Nat}{U:List Nat}{h h':List aL}(a:agree N U h h'):agree N U h' h:=λid p q=>(a id p q).symm
def gI(p:Nat×Ins):Nat:=match p.1 with
 |0=>p.2.i.cls
 |1=>1
 |_=>2
theorem Td{p:Nat×Ins}(h:p.1=0):gI p=p.2.i.cls:=by obtain⟨m,i⟩:=p;simp only at h;subst h;rfl
theorem Gb{p:Nat×Ins}(h:p.1=1):gI p=1:=by obtain⟨m,i⟩:=p;simp only at h;subst h;rfl
theorem Ga{p:Nat×Ins}(h:p.1=2):gI p=2:=by obtain⟨m,i⟩:=p;simp only at h;subst h;rfl
def ko(a b:Nat×Ins):Bool :=
 (match a.2.dst with|some d=>b.2.looks.contains d||b.2.dst==some d|none=>false)||(match b.2.dst with|some d=>a.2.looks.contains d|none=>false)||
 (gI a==2&&gI b != 0&&!(a.1==2&&b.1==1))||(gI b==2&&gI a != 0&&!(b.1==2&&a.1==1))||(a.2.i.lI&&b.2.i.lI)
def Wz(hc:List Nat):I->Bool
 |.call (.k (.func (.func f) _ _)) _=>hc.any (Nat.beq f)
 |_=>false
def marks(hc:List Nat)(ops:Array Oper)(l:List Ins):List (Nat×Ins) :=
 let bm:=Region.before ops
 let cl:=fun(a:Ins)=>if Wz hc a.i then 2 else a.i.cls
 l.zipIdx.map fun(a,i)=>(if Wz hc a.i then 2 else if cl a != 0&&l.zipIdx.any (fun(b,j)=>cl a+cl b==3&&cl b != 0&&!(tb bm i j||tb bm j i)) then cl a else 0,a)
def Eu(ops:Array Oper)(l:List (Nat×Ins)):Bool :=
 let bm:=Region.before ops
 let n:=ops.size
 l.all (λp=>p.1==0||p.1==2||(p.1==1&&Nat.ble p.2.i.cls 1))&&(List.range n).all λi=>(direct ops i).all (λd=>decide (d<i))&&
  (List.range i).all λj=>(!tb bm i j||(direct ops i).contains j||(direct ops i).any λd=>decide (j<d)&&tb bm d j)&&(!ko (l.getD j default) (l.getD i default)||tb bm i j)
theorem Te(hc:List Nat)(ops:Array Oper)(l:List Ins):(marks hc ops l).length=l.length:=by simp[marks]
theorem Wm{hc:List Nat}{ops:Array Oper}{l:List Ins}{j:Nat}{i:Ins}(h:l[j]?=some i):∃m,(marks hc ops l)[j]?=some (m,i):=by
 simp only[marks,aS,List.getElem?_zipIdx,h,bE,dJ]
 exact⟨_,rfl⟩
def wants(σ:St)(ins:Ins):Prop:=match ins.gd with
 |none=>True
 |some (s,want)=>σ.t.getD s .any=.v (.bool want)
def tJ(P:Program)(Gl:Nat->Option (List AV))(N:Nat)(U:List Nat)(p:Nat×Ins)(σ:St)(K:St->Prop):Prop:=match p.1 with
 |0=>gV P Gl true σ p.2 K
 |1=>(wants σ p.2->∀id∈p.2.i.ids Gl σ,id<N/\id∉U)/\gV P Gl true σ p.2 K
 |_=>gV P Gl false σ p.2 λρ=>agree N U σ.h ρ.h/\K ρ
def iD(P:Program)(Gl:Nat->Option (List AV))(N:Nat)(U:List Nat)(K:St->Prop):List (Nat×Ins)->St->Prop
 |[],σ=>K σ
 |p::r,σ=>tJ P Gl N U p σ (iD P Gl N U K r)
section
variable{P:Program}{Gl:Nat->Option (List AV)}{F:Addr->Option Value}{own:List Ent}{B:Nat}{w0:W0}{σ τ:St}{act:Act}{w:World}{N:Nat}{U:List Nat}
theorem MB {ops:Array Oper} {l:List (Nat × Ins)} (h:Eu ops l=true) :
  (∀i d,i<ops.size->d∈direct ops i->d<i)/\(∀i j,j<i->i<ops.size->tb (Region.before ops) i j=true->j∈direct ops i\/∃d∈direct ops i,j<d/\tb (Region.before ops) d j=true)/\
  (∀i j,j<i->i<ops.size->ko (l.getD j default) (l.getD i default)=true->tb (Region.before ops) i j=true)/\∀p∈l,p.1=0\/p.1=2\/(p.1=1/\p.2.i.cls<=1):=by
 unfold Eu at h
 rw[au]at h
 obtain⟨hm,h⟩:=h
 have h1:∀i,i<ops.size->_:=λi hi=>aU.1 h i (bO.2 hi)
 refine⟨λi d hi hd=>?_,λi j hj hi ht=>?_,λi j hj hi hc=>?_,λp hp=>?_⟩
 .have:=h1 i hi
  rw[au]at this
  exact of_decide_eq_true (aU.1 this.1 d hd)
 .have:=h1 i hi
  rw[au]at this
  have:=aU.1 this.2 j (bO.2 hj)
  rw[au]at this
  have:=this.1
  simp only[ht,qo,yE,jD]at this
  rcases this with q|q
  .exact .inl (iV.1 q)
  .obtain⟨d,hd,hq⟩:=gP.1 q
   rw[au]at hq
   exact .inr ⟨d,hd,of_decide_eq_true hq.1,hq.2⟩
 .have:=h1 i hi
  rw[au]at this
  have:=aU.1 this.2 j (bO.2 hj)
  rw[au]at this
  have:=this.2
  rw[hc]at this
  exact this
 .have:=aU.1 hm p hp
  simp only[jD,au,nU]at this
  rcases this with(q|q)|⟨q,r⟩
  .exact .inl q
  .exact .inr (.inl q)
  .exact .inr (.inr ⟨q,fP r⟩)
theorem qg {a b:Nat × Ins} (h:ko a b=false) :
  (∀d,a.2.dst=some d->d∉b.2.looks/\b.2.dst≠some d)/\(∀d,b.2.dst=some d->d∉a.2.looks)/\
  (gI a=2->gI b=0\/(a.1=2/\b.1=1))/\(gI b=2->gI a=0\/(b.1=2/\a.1=1))/\(a.2.i.lI=true->b.2.i.lI=false):=by
 unfold ko at h
 simp only[mZ]at h
 obtain⟨⟨⟨⟨h1,h2⟩,h3⟩,h4⟩,h5⟩:=h
 refine⟨λd hd=>?_,λd hd=>?_,λhm=>?_,λhm=>?_,λhm=>?_⟩
 .rw[hd]at h1
  simp only[mZ,beq_eq_false_iff_ne]at h1
  exact⟨(λq=>by rw[iV.2 q]at h1;cases h1.1),h1.2⟩
 .rw[hd]at h2
  simp only at h2
  exact λq=>by rw[iV.2 q]at h2;cases h2
 .rw[hm]at h3
  simp at h3
  by_cases q:gI b=0
  .exact .inl q
  .exact .inr (h3 q)
 .rw[hm]at h4
  simp at h4
  by_cases q:gI a=0
  .exact .inl q
  .exact .inr (h4 q)
 .rw[hm]at h5
  simpa using h5
def vP(Gl:Nat->Option (List AV))(σ:St)(ins:Ins):Option (Prop×AV×List aL):=match ins.gd with
 |none=>step Gl σ ins.i
 |some (s,want)=>match σ.t.getD s .any with
  |.v (.bool b)=>if b=want then step Gl σ ins.i else some (True,und,σ.h)
  |.v (.tuple _)=>some (True,und,σ.h)
  |_=>none
theorem N7{d:Bool}{dst:Option Nat}{K:St->Prop}{i:I}(hn:i.lI=false):gy P Gl d σ dst K i↔∃q a h',step Gl σ i=some (q,a,h')/\q/\K (St.put ⟨σ.t,h'⟩ dst a):=by
 have e:gy P Gl d σ dst K i=(match step Gl σ i with|some (p,a,h')=>p/\K (St.put ⟨σ.t,h'⟩ dst a)|none=>False):=by cases i<;>first|rfl|(cases hn;done)
 rw[e]
 cases hs:step Gl σ i with
 |none=>exact⟨λh=>h.elim,fun⟨_,_,_,h,_⟩=>by cases h⟩
 |some q=>obtain⟨p,a,h'⟩:=q;exact⟨λh=>⟨p,a,h',rfl,h⟩,fun⟨_,_,_,h,r⟩=>by cases h;exact r⟩
theorem CO{d:Bool}{K:St->Prop}{ins:Ins}(hn:ins.i.lI=false):gV P Gl d σ ins K↔∃q a h',vP Gl σ ins=some (q,a,h')/\q/\K (St.put ⟨σ.t,h'⟩ ins.dst a):=by
 unfold gV vP
 cases ins.gd with
 |none=>exact N7 hn
 |some g =>
  obtain⟨s,want⟩:=g
  simp only
  have one:∀{X:Prop},K (σ.put ins.dst und)↔∃q a h',some ((True:Prop),und,σ.h)=some (q,a,h')/\q/\K (St.put ⟨σ.t,h'⟩ ins.dst a):=fun{X}=>⟨λh=>⟨_,_,_,rfl,trivial,h⟩,fun⟨_,_,_,h,_,r⟩=>by cases h;exact r⟩
  have no:False↔∃q a h',(none:Option (Prop×AV×List aL))=some (q,a,h')/\q/\K (St.put ⟨σ.t,h'⟩ ins.dst a):=⟨λh=>h.elim,fun⟨_,_,_,h,_⟩=>by cases h⟩
  generalize σ.t.getD s .any=g
  cases g with
  |v x=>cases x with
   |bool b =>
    simp only
    by_cases hb:b=want
    .simp only[if_pos hb];exact N7 hn
    .simp only[if_neg hb];exact one (X:=True)
   |tuple ys=>exact one (X:=True)
   |_=>exact no
  |_=>exact no
theorem Kz{i:I}(hc:i.cls<=1)(hn:i.lI=false)(hl:∀s∈i.reads,τ.t.getD s .any=σ.t.getD s .any)(hi:∀id∈i.ids Gl σ,τ.h[id]?=σ.h[id]?){q:Prop}{a:AV}{h':List aL}(hs:step Gl σ i=some (q,a,h')):h'=σ.h/\step Gl τ i=some (q,a,τ.h):=by
 by_cases h0:i.cls=0
 .exact CZ h0 hl hs
 .have e1:step Gl ⟨τ.t,σ.h⟩ i=some (q,a,h'):=by rw[yH (σ:=σ) (τ:=⟨τ.t,σ.h⟩) hl rfl];exact hs
  have hv:∀x:Opd,(∀s∈x.slots,s∈i.reads)->σ.val Gl x=St.val Gl ⟨τ.t,σ.h⟩ x:=λx hx=>(val_congr (σ:=σ) (τ:=⟨τ.t,σ.h⟩) λs hs=>hl s (hx s hs)).symm
  have hvh:∀x:Opd,τ.val Gl x=St.val Gl ⟨τ.t,σ.h⟩ x:=λx=>by cases x<;>rfl
  cases i with
  |load sz ag x =>
   have hvx:=hv x (λs hs=>hs)
   simp only[I.ids,hvx]at hi
   simp only[step,hvh]at e1 ⊢
   split at e1
   .split at e1
    .rename_i hag
     rw[if_pos hag]
     split at e1
     .rename_i hsz;cases e1;rw[if_pos hsz];exact⟨rfl,rfl⟩
     .cases e1
    .rename_i cs _ hag
     rw[if_neg hag]
     cases cs with
     |nil=>cases e1
     |cons c cs=>cases e1;exact⟨rfl,rfl⟩
   .rename_i id G j o hp
    rw[hp]at hi
    rw[hi id (by simp)]
    split at e1
    .rename_i ob hob
     split at e1
     .rename_i hG
      rw[if_pos hG]
      split at e1
      .rename_i hag;cases e1;rw[if_pos hag];exact⟨rfl,rfl⟩
      .rename_i hag;cases e1;rw[if_neg hag];exact⟨rfl,rfl⟩
     .cases e1
    .cases e1
   .cases e1
  |qR bsz st n x k =>
   have hvx:=hv x (λs hs=>by simp only[I.reads,aV];exact .inl hs)
   simp only[I.ids,hvx]at hi
   simp only[step,hvh]at e1 ⊢
   split at e1
   .rename_i id G j o k' m hp hp2
    rw[hp]at hi
    rw[hi id (by simp)]
    split at e1
    .rename_i ob hob
     split at e1
     .rename_i hG;cases e1;rw[if_pos hG];exact⟨rfl,rfl⟩
     .rename_i hG
      split at e1
      .rename_i hG2;cases e1;rw[if_neg hG,if_pos hG2];exact⟨rfl,rfl⟩
      .cases e1
    .cases e1
   .cases e1;exact⟨rfl,rfl⟩
   .cases e1
  |b2s x =>
   have hvx:=hv x (λs hs=>hs)
   simp only[I.ids,hvx]at hi
   simp only[step,hvh]at e1 ⊢
   have he:jL τ.h 1 (St.val Gl ⟨τ.t,σ.h⟩ x)=jL σ.h 1 (St.val Gl ⟨τ.t,σ.h⟩ x):=by
    cases hx:St.val Gl ⟨τ.t,σ.h⟩ x with
    |row id G sz off len=>rw[hx]at hi;simp only[jL,hi id (by simp)]
    |v y =>
     by_cases hy:y=.slice none 0 0
     .subst hy;rfl
     ·have e0:∀ h:List aL,jL h 1 (.v y)=none:=fun h=>by
       unfold jL
       split
       .rename_i q;cases q
       .rename_i q;cases q;exact absurd rfl hy
       .rename_i q;cases q
       .rfl
      rw[e0,e0]
    |_=>simp only[jL]
   rw[he]
   split at e1
   .rename_i ys hys
    cases hb:bytesOf ys with
    |none=>rw[hb]at e1;cases e1
    |some l=>rw[hb]at e1;cases e1;exact⟨rfl,rfl⟩
   .cases e1
  |aslice bsz n x lo hi' =>
   have hvx:=hv x (λs hs=>by simp only[I.reads,aV];exact .inl (.inl hs))
   have hm:∀q:Option Opd,q.map (τ.val Gl)=q.map (St.val Gl ⟨τ.t,σ.h⟩):=λq=>by cases q<;>simp[hvh]
   simp only[I.ids,hvx]at hi
   simp only[step,hvh,hm]at e1 ⊢
   split at e1
   .rename_i id G j o hp
    rw[hp]at hi
    rw[hi id (by simp)]
    split at e1
    .rename_i ob hob
     split at e1
     .rename_i hG
      rw[if_pos hG]
      cases hq:mJ n (lo.map (St.val Gl ⟨τ.t,σ.h⟩)) (hi'.map (St.val Gl ⟨τ.t,σ.h⟩)) with
      |none=>rw[hq]at e1;cases e1
      |some q=>rw[hq]at e1;cases e1;exact⟨rfl,rfl⟩
     .rename_i hG
      rw[if_neg hG]
      split at e1
      .rename_i hG2
       rw[if_pos hG2]
       cases hq:mJ n (lo.map (St.val Gl ⟨τ.t,σ.h⟩)) (hi'.map (St.val Gl ⟨τ.t,σ.h⟩)) with
       |none=>rw[hq]at e1;cases e1
       |some q=>rw[hq]at e1;cases e1;exact⟨rfl,rfl⟩
      .cases e1
    .cases e1
   .cases e1
  |sU kt ok z x k =>
   have hvx:=hv x (λs hs=>by simp only[I.reads,aV];exact .inl hs)
   simp only[I.ids,hvx]at hi
   simp only[step,hvh]at e1 ⊢
   split at e1
   .rename_i id hp
    rw[hp]at hi
    rw[hi id (by simp)]
    split at e1
    .rename_i ob hob
     split at e1
     .rename_i hG
      rw[if_pos hG]
      split at e1
      .cases e1;exact⟨rfl,rfl⟩
      .cases e1;exact⟨rfl,rfl⟩
     .cases e1
    .cases e1
   .cases e1
  |call f as=>cases hn
  |_=>first|exact absurd rfl h0|(simp[I.cls]at hc;done)
theorem uq{ins:Ins}(h:∀s∈ins.looks,τ.t.getD s .any=σ.t.getD s .any):∀s∈ins.i.reads,τ.t.getD s .any=σ.t.getD s .any:=λs hs=>h s (by simp[Ins.looks,hs])
theorem Ci{ins:Ins}{s:Nat}{want:Bool}(h:∀s∈ins.looks,τ.t.getD s .any=σ.t.getD s .any)(hg:ins.gd=some (s,want)):τ.t.getD s .any=σ.t.getD s .any:=h s (by simp[Ins.looks,hg])
theorem EG{ins:Ins}(hl:∀s∈ins.looks,τ.t.getD s .any=σ.t.getD s .any):wants τ ins=wants σ ins:=by
 unfold wants
 cases hg:ins.gd with
 |none=>rfl
 |some g=>obtain⟨s,want⟩:=g;simp only;rw[Ci hl hg]
theorem Lh{ins:Ins}(hc:ins.i.cls<=1)(hn:ins.i.lI=false)(hl:∀s∈ins.looks,τ.t.getD s .any=σ.t.getD s .any)(hi:wants σ ins->∀id∈ins.i.ids Gl σ,τ.h[id]?=σ.h[id]?){q:Prop}{a:AV}{h':List aL}(hs:vP Gl σ ins=some (q,a,h')):h'=σ.h/\vP Gl τ ins=some (q,a,τ.h):=by
 unfold vP at hs ⊢
 cases hg:ins.gd with
 |none=>rw[hg]at hs;exact Kz hc hn (uq hl) (hi (by unfold wants;rw[hg];trivial)) hs
 |some g =>
  obtain⟨s,want⟩:=g
  rw[hg]at hs
  simp only at hs ⊢
  rw[Ci hl hg]
  split at hs
  .rename_i b hb
   split at hs
   .rename_i hbw;rw[if_pos hbw];exact Kz hc hn (uq hl) (hi (by unfold wants;rw[hg];simp only;rw[hb,hbw])) hs
   .rename_i hbw;rw[if_neg hbw];cases hs;exact⟨rfl,rfl⟩
  .cases hs;exact⟨rfl,rfl⟩
  .cases hs
theorem a0I{ins:Ins}(hl:∀s∈ins.looks,τ.t.getD s .any=σ.t.getD s .any)(hh:τ.h=σ.h):vP Gl τ ins=vP Gl σ ins:=by
 unfold vP
 rw[yH (uq hl) hh,hh]
 cases hg:ins.gd with
 |none=>rfl
 |some g=>obtain⟨s,want⟩:=g;simp only;rw[Ci hl hg]
theorem Li{ins:Ins}(hc:ins.i.cls<=1)(hn:ins.i.lI=false){q:Prop}{a:AV}{h':List aL}(hs:vP Gl σ ins=some (q,a,h')):h'=σ.h:=(Lh (τ:=σ) hc hn (λ_ _=>rfl) (λ_ _ _=>rfl) hs).1
theorem J8{i:I}(hl:∀s∈i.reads,τ.t.getD s .any=σ.t.getD s .any):i.ids Gl τ=i.ids Gl σ:=by
 have hv:∀x:Opd,(∀s∈x.slots,s∈i.reads)->τ.val Gl x=σ.val Gl x:=λx hx=>val_congr λs hs=>hl s (hx s hs)
 cases i with
 |load sz ag x=>simp only[I.ids,hv x (λs hs=>hs)]
 |qR bsz st n x k=>simp only[I.ids,hv x (λs hs=>by simp only[I.reads,aV];exact .inl hs)]
 |aslice bsz n x lo hi=>simp only[I.ids,hv x (λs hs=>by simp only[I.reads,aV];exact .inl (.inl hs))]
 |b2s x=>simp only[I.ids,hv x (λs hs=>hs)]
 |sU kt ok z x k=>simp only[I.ids,hv x (λs hs=>by simp only[I.reads,aV];exact .inl hs)]
 |call f as=>simp only[I.ids,map_congr (Gl:=Gl) (σ:=σ) (τ:=τ) (xs:=as) λs hs=>hl s (by simp only[I.reads,aV];exact .inr hs)]
 |_=>rfl
def D(Gl:Nat->Option (List AV))(N:Nat)(U:List Nat)(p:Nat×Ins)(σ:St)(v:AV)(h2:List aL):Prop :=
 (∃q,vP Gl σ p.2=some (q,v,h2)/\q)/\(p.1=1->wants σ p.2->∀id∈p.2.i.ids Gl σ,id<N/\id∉U)/\(2<=p.1->agree N U σ.h h2)
theorem vw{p:Nat×Ins}(hn:p.2.i.lI=false){K:St->Prop}:tJ P Gl N U p σ K↔∃v h2,D Gl N U p σ v h2/\K (St.put ⟨σ.t,h2⟩ p.2.dst v):=by
 obtain⟨m,ins⟩:=p
 have ph:∀(h2:List aL) (v:AV),(St.put ⟨σ.t,h2⟩ ins.dst v).h=h2:=λh2 v=>by cases ins.dst<;>rfl
 match m with
 |0 =>
  show gV P Gl true σ ins K↔_
  rw[CO hn]
  constructor
  .rintro⟨q,a,h',e,hq,hK⟩;exact⟨a,h',⟨⟨q,e,hq⟩,(λr=>by cases r),(λr=>absurd r (by simp))⟩,hK⟩
  .rintro⟨a,h',⟨⟨q,e,hq⟩,_,_⟩,hK⟩;exact⟨q,a,h',e,hq,hK⟩
 |1 =>
  show(_/\gV P Gl true σ ins K)↔_
  rw[CO hn]
  constructor
  .rintro⟨hi,q,a,h',e,hq,hK⟩;exact⟨a,h',⟨⟨q,e,hq⟩,λ_=>hi,(λr=>absurd r (by simp))⟩,hK⟩
  .rintro⟨a,h',⟨⟨q,e,hq⟩,hi,_⟩,hK⟩;exact⟨hi rfl,q,a,h',e,hq,hK⟩
 |m+2 =>
  show gV P Gl false σ ins _↔_
  rw[CO hn]
  constructor
  .rintro⟨q,a,h',e,hq,hA,hK⟩
   rw[ph]at hA
   exact⟨a,h',⟨⟨q,e,hq⟩,(λr=>absurd r (by simp)),λ_=>hA⟩,hK⟩
  .rintro⟨a,h',⟨⟨q,e,hq⟩,_,hA⟩,hK⟩;exact⟨q,a,h',e,hq,by rw[ph];exact hA (by simp),hK⟩
theorem D.fn{p:Nat×Ins}{v v':AV}{h h':List aL}(a:D Gl N U p σ v h)(b:D Gl N U p σ v' h'):v=v'/\h=h':=by
 obtain⟨⟨q,e,_⟩,_⟩:=a
 obtain⟨⟨q',e',_⟩,_⟩:=b
 rw[e]at e';cases e';exact⟨rfl,rfl⟩
def okM(p:Nat×Ins):Prop:=p.1=0\/p.1=2\/(p.1=1/\p.2.i.cls<=1)
theorem D.tr {p:Nat × Ins} (hm:okM p) (hn:p.2.i.lI=false) (hl:∀ s ∈ p.2.looks,τ.t.getD s .any=σ.t.getD s .any) (hh:τ.h=σ.h\/gI p=0\/(p.1=1/\agree N U σ.h τ.h)) {v:AV} {h2:List aL} (h:D Gl N U p σ v h2) :
  D Gl N U p τ v (if gI p=2 then h2 else τ.h)/\(gI p≠2->h2=σ.h):=by
 obtain⟨⟨q,e,hq⟩,hi,ha⟩:=h
 have hi':p.1=1->wants τ p.2->∀id∈p.2.i.ids Gl τ,id<N/\id∉U:=λr=>by rw[J8 (uq hl),EG hl];exact hi r
 have low:p.2.i.cls<=1->(wants σ p.2->∀id∈p.2.i.ids Gl σ,τ.h[id]?=σ.h[id]?)->gI p≠2->D Gl N U p τ v (if gI p=2 then h2 else τ.h)/\(gI p≠2->h2=σ.h):=by
  intro hc M9 h2'
  obtain⟨e1,e2⟩:=Lh hc hn hl M9 e
  refine⟨?_,λ_=>e1⟩
  rw[if_neg h2']
  refine⟨⟨q,e2,hq⟩,hi',λr=>?_⟩
  exfalso
  rcases hm with m|m|⟨m,_⟩
  .omega
  .exact h2' (Ga m)
  .omega
 rcases hh with hh|hh|⟨hh,hag⟩
 .have e':=a0I (Gl:=Gl) hl hh
  rw[e]at e'
  have hc2:gI p≠2->h2=σ.h:=λhne=>by
   rcases hm with m|m|⟨m,c⟩
   .have:=Td m
    have hle:p.2.i.cls<=2:=by cases p.2.i<;>simp[I.cls]
    exact Li (by omega) hn e
   .exact absurd (Ga m) hne
   .exact Li c hn e
  refine⟨⟨⟨q,?_,hq⟩,hi',λr=>?_⟩,hc2⟩
  .split
   .exact e'
   .rename_i hne;rw[hh,<- hc2 hne];exact e'
  .rw[hh]
   split
   .exact ha r
   .exact λ_ _ _=>rfl
 ·have h0:p.1=0:=by
   rcases hm with m|m|⟨m,_⟩
   .exact m
   .rw[Ga m]at hh;cases hh
   .rw[Gb m]at hh;cases hh
  have hc:p.2.i.cls=0:=by rw[<- Td h0];exact hh
  refine low (by omega) ?_ (by omega)
  have:p.2.i.ids Gl σ=[]:=by cases hp:p.2.i<;>first|rfl|(rw[hp]at hc;cases hc)
  rw[this];intro _ id hid;cases hid
 ·have hc:p.2.i.cls<=1:=by
   rcases hm with m|m|⟨_,m⟩
   .omega
   .omega
   .exact m
  exact low hc (λhw id hid=>hag id (hi hh hw id hid).1 (hi hh hw id hid).2) (by rw[Gb hh];simp)
theorem J5{h g:List aL}{a:AV}(hr:∀id∈nS a,g[id]?=h[id]?):lC g a=lC h a:=by
 cases a with
 |row id G sz off len=>simp only[lC];rw[hr id (by simp[nS])]
 |_=>rfl
theorem Tw{h g:List aL}:∀{cs:List AV},(∀id∈cs.flatMap nS,g[id]?=h[id]?)->lN g cs=lN h cs:=by
 intro cs
 induction cs with
 |nil=>intro _;rfl
 |cons c cs ih =>
  intro hr
  simp only[lN]
  rw[J5 λid hi=>hr id (by simp only[dZ,aV];exact .inl hi),ih λid hi=>hr id (by simp only[dZ,aV];exact .inr hi)]
theorem Tx{h g:List aL}{a:AV}(hr:∀id∈gL a,g[id]?=h[id]?):kV g a=kV h a:=by
 cases a with
 |agg cs=>simp only[kV];rw[Tw hr]
 |row id G sz off len=>exact J5 (a:=.row id G sz off len) hr
 |_=>rfl
theorem QA{h g:List aL}:∀{cs:List AV},(∀id∈cs.flatMap gL,g[id]?=h[id]?)->iE g cs=iE h cs:=by
 intro cs
 induction cs with
 |nil=>intro _;rfl
 |cons c cs ih =>
  intro hr
  simp only[iE]
  rw[Tx λid hi=>hr id (by simp only[dZ,aV];exact .inl hi),ih λid hi=>hr id (by simp only[dZ,aV];exact .inr hi)]
theorem set_self{α:Type}{l:List α}{i:Nat}{x:α}(h:l[i]?=some x):l.set i x=l:=by
 apply gG
 intro j
 rw[dY]
 split
 .rename_i hj
  subst hj
  split
  .exact h.symm
  .rename_i hl;rw[bg (by omega)]
 .rfl
theorem a4y:∀(ids:List Nat) (h:List aL) (j:Nat) (o:aL),(freeze h ids)[j]?=some o->∃o',h[j]?=some o'/\o'.es=o.es/\(j∈ids->o.fz=o.es.length)/\(o.fz=o'.fz\/o.fz=o.es.length):=by
 intro ids
 induction ids with
 |nil=>intro h j o e;exact⟨o,e,rfl,λq=>by simp at q,.inl rfl⟩
 |cons id ids ih =>
  intro h j o e
  simp only[freeze,d9]at e
  cases ho:h[id]? with
  |none =>
   rw[ho]at e
   simp only at e
   obtain⟨o',e1,e2,e3,e4⟩:=ih h j o e
   refine⟨o',e1,e2,λq=>?_,e4⟩
   rcases bT.1 q with r|r
   .subst r;rw[ho]at e1;cases e1
   .exact e3 r
  |some ob =>
   rw[ho]at e
   simp only at e
   obtain⟨o',e1,e2,e3,e4⟩:=ih _ j o e
   rw[dY]at e1
   split at e1
   .rename_i hj
    subst hj
    split at e1
    .cases e1
     refine⟨ob,ho,e2,λ_=>?_,?_⟩
     .rcases e4 with r|r
      .rw[r];simp only at e2 ⊢;rw[e2]
      .exact r
     .rcases e4 with r|r
      .right;rw[r];simp only at e2 ⊢;rw[e2]
      .exact .inr r
    .cases e1
   .rename_i hj
    refine⟨o',e1,e2,λq=>?_,e4⟩
    rcases bT.1 q with r|r
    .exact absurd r.symm hj
    .exact e3 r
theorem TG:∀(ids:List Nat) (h:List aL),(∀id∈ids,∀o,h[id]?=some o->o.fz=o.es.length)->freeze h ids=h:=by
 intro ids
 induction ids with
 |nil=>intro h _;rfl
 |cons id ids ih =>
  intro h hq
  simp only[freeze,d9]
  cases ho:h[id]? with
  |none=>exact ih h λj hj=>hq j (by simp[hj])
  |some ob =>
   simp only
   have:({ ob with fz:=ob.es.length }:aL)=ob:=by
    have:=hq id (by simp) ob ho
    rw[<- this]
   rw[this,set_self ho]
   exact ih h λj hj=>hq j (by simp[hj])
theorem Nk{h g:List aL}{ids:List Nat}(hr:∀id∈ids,g[id]?=h[id]?)(hf:freeze h ids=h):freeze g ids=g:=by
 refine TG ids g λid hi o ho=>?_
 rw[hr id hi]at ho
 rw[<- hf]at ho
 obtain⟨_,_,_,e3,_⟩:=a4y ids h id o ho
 exact e3 hi
theorem wK {p:Nat × Ins} {K1 K2:St->Prop} (hm:okM p) (hl:∀ s ∈ p.2.looks,τ.t.getD s .any=σ.t.getD s .any) (hh:τ.h=σ.h\/gI p=0\/(p.1=1/\agree N U σ.h τ.h))
  (hK:∀v h1,K1 (St.put ⟨σ.t,h1⟩ p.2.dst v)->(gI p≠2->h1=σ.h)->(2<=p.1->agree N U σ.h h1)->K2 (St.put ⟨τ.t,if gI p=2 then h1 else τ.h⟩ p.2.dst v)) (h:tJ P Gl N U p σ K1):tJ P Gl N U p τ K2:=by
 by_cases hcall:p.2.i.lI=true
 case neg =>
  have hn:p.2.i.lI=false:=by simpa using hcall
  rw[vw hn]at h ⊢
  obtain⟨v,h2,hD,hk⟩:=h
  obtain⟨d1,d2⟩:=hD.tr hm hn hl hh
  exact⟨v,_,d1,hK v h2 hk d2 hD.2.2⟩
 case pos =>
  obtain⟨m,dst,gd,i⟩:=p
  simp only at hcall hl hh hK
  obtain⟨fo,args,rfl⟩:∃fo args,i=.call fo args:=by cases i<;>first|exact⟨_,_,rfl⟩|cases hcall
  have hr:=uq hl
  have hA:args.map (τ.val Gl)=args.map (σ.val Gl):=map_congr λs hs=>hr s (by simp only[I.reads,aV];exact .inr hs)
  have hO:τ.val Gl fo=σ.val Gl fo:=val_congr λs hs=>hr s (by simp only[I.reads,aV];exact .inl hs)
  have a9W:=J8 (Gl:=Gl) hr
  have hne0:¬gI (m,(⟨dst,gd,.call fo args⟩:Ins))=0:=by
   rcases hm with q|q|⟨q,_⟩<;>(simp only at q;subst q;simp[gI,I.cls])
  have guard:∀(d:Bool) (K1 K2:St->Prop),(wants σ ⟨dst,gd,.call fo args⟩->gy P Gl d σ dst K1 (.call fo args)->gy P Gl d τ dst K2 (.call fo args))->(K1 (σ.put dst und)->K2 (τ.put dst und))->gV P Gl d σ ⟨dst,gd,.call fo args⟩ K1->gV P Gl d τ ⟨dst,gd,.call fo args⟩ K2:=by
   intro d K1 K2 he hu h
   unfold gV at h ⊢
   cases hg:gd with
   |none=>subst hg;exact he trivial h
   |some g =>
    obtain⟨s,want⟩:=g
    subst hg
    simp only at h ⊢
    rw[Ci hl rfl]
    split at h
    .rename_i b hbb
     split at h
     .rename_i hb;rw[if_pos hb];exact he (by unfold wants;simp only;rw[hbb,hb]) h
     .rename_i hb;rw[if_neg hb];exact hu h
    .exact hu h
    .exact h.elim
  have a2y:∀K1 K2:St->Prop,(∀v h1,K1 (St.put ⟨σ.t,h1⟩ dst v)->h1=σ.h->K2 (St.put ⟨τ.t,τ.h⟩ dst v))->K1 (σ.put dst und)->K2 (τ.put dst und):=λK1 K2 hk h=>hk und σ.h h rfl
  have XM:∀K1 K2:St->Prop,(∀id∈(args.map (σ.val Gl)).flatMap gL,τ.h[id]?=σ.h[id]?)->(∀v h1,K1 (St.put ⟨σ.t,h1⟩ dst v)->h1=σ.h->K2 (St.put ⟨τ.t,τ.h⟩ dst v))->gy P Gl true σ dst K1 (.call fo args)->gy P Gl true τ dst K2 (.call fo args):=by
   intro K1 K2 M9 hk h
   obtain(⟨h1,_⟩|⟨f,hf,hcb,(⟨as,res,h1,h2,h3,h4⟩|⟨h1,_⟩)⟩):=h
   .cases h1
   .have h3':=h3 rfl
    rw[h3']at h4
    have e3:(if scalar res then τ.h else freeze τ.h ((args.map (τ.val Gl)).flatMap gL))=τ.h:=by
     split
     .rfl
     .rename_i hs
      rw[if_neg hs]at h3'
      rw[hA]
      exact Nk M9 h3'
    refine .inr ⟨f,by rw[hO];exact hf,hcb,.inl ⟨as,res,?_,h2,λ_=>e3,?_⟩⟩
    .rw[hA,QA M9];exact h1
    .rw[e3];exact hk res _ h4 rfl
   .cases h1
  match m,hm,hh,hK,h,hne0 with
  |0,hm,hh,hK,h,hne0 =>
   have hτ:τ.h=σ.h:=by
    rcases hh with q|q|⟨q,_⟩
    .exact q
    .exact absurd q hne0
    .cases q
   have hk:∀v h1,K1 (St.put ⟨σ.t,h1⟩ dst v)->h1=σ.h->K2 (St.put ⟨τ.t,τ.h⟩ dst v):=λv h1 q e=>hK v h1 q (λ_=>e) (λr=>absurd r (by simp))
   exact guard true K1 K2 (λ_=>XM K1 K2 (λid _=>by rw[hτ]) hk) (a2y K1 K2 hk) h
  |1,hm,hh,hK,h,hne0 =>
   obtain⟨hi,h⟩:=h
   have hk:∀v h1,K1 (St.put ⟨σ.t,h1⟩ dst v)->h1=σ.h->K2 (St.put ⟨τ.t,τ.h⟩ dst v):=λv h1 q e=>hK v h1 q (λ_=>e) (λr=>absurd r (by simp))
   refine⟨by rw[a9W,EG hl];exact hi,guard true K1 K2 (λhw=>XM K1 K2 (λid hid=>?_) hk) (a2y K1 K2 hk) h⟩
   rcases hh with q|q|⟨_,q⟩
   .rw[q]
   .exact absurd q hne0
   .exact q id (hi hw id hid).1 (hi hw id hid).2
  |m+2,hm,hh,hK,h,hne0 =>
   have hτ:τ.h=σ.h:=by
    rcases hh with q|q|⟨q,_⟩
    .exact q
    .exact absurd q hne0
    .cases q
   have ph:∀(t:List AV) (h2:List aL) (v:AV),(St.put ⟨t,h2⟩ dst v).h=h2:=λt h2 v=>by cases dst<;>rfl
   have hk:∀v h1,(agree N U σ.h (St.put ⟨σ.t,h1⟩ dst v).h/\K1 (St.put ⟨σ.t,h1⟩ dst v))->agree N U τ.h (St.put ⟨τ.t,h1⟩ dst v).h/\K2 (St.put ⟨τ.t,h1⟩ dst v):=by
    intro v h1 ⟨q1,q2⟩
    rw[ph]at q1 ⊢
    exact⟨by rw[hτ];exact q1,hK v h1 q2 (λq=>absurd rfl q) (λ_=>q1)⟩
   refine guard false _ _ (λ_ h=>?_) (λh=>?_) h
   .obtain(⟨_,f,cs,hf,hcb,h1⟩|⟨f,hf,hcb,(⟨as,res,h1,h2,h3,h4⟩|⟨_,h1⟩)⟩):=h
    .refine .inl ⟨rfl,f,cs,by rw[hO];exact hf,hcb,?_⟩
     rw[hA,hτ]
     intro F own B w0 t act w xs hI hR
     refine(h1 F own B w0 t act w xs hI hR).mono ?_
     rintro e w' ⟨v,res,h',F',own',g1,g2,g3,g4⟩
     exact⟨v,res,h',F',own',g1,g2,g3,hτ▸hk res h' g4⟩
    .refine .inr ⟨f,by rw[hO];exact hf,hcb,.inl ⟨as,res,by rw[hA,hτ];exact h1,h2,(λq=>by cases q),?_⟩⟩
     rw[hA,hτ]
     have q:=hk res _ h4
     rw[hτ]at q
     exact q
    .refine .inr ⟨f,by rw[hO];exact hf,hcb,.inr ⟨rfl,?_⟩⟩
     rw[hA,hτ]
     intro F own B w0 t act w xs hI hR
     refine(h1 F own B w0 t act w xs hI hR).mono ?_
     rintro e w' ⟨v,res,h',F',own',g1,g2,g3,g4⟩
     exact⟨v,res,h',F',own',g1,g2,g3,hτ▸hk res h' g4⟩
   .have:=hk und σ.h h
    have e:(⟨τ.t,σ.h⟩:St)=τ:=by rw[<- hτ]
    rw[e]at this
    exact this
theorem RB{ops:Array Oper}{k:Nat}{K:Act->World->Prop}(h:wpOp P ops (λ_ _ _=>False) k K act w):∃a1 w1,K a1 w1:=by
 unfold wpOp at h
 split at h
 .exact⟨_,_,h⟩
 .rename_i o ho
  split at h
  .rcases h with h|⟨_,a,w,q⟩
   .unfold Oper.wp at h
    generalize (execOp act.eval o).run P w=r at h
    cases r with
    |ok n w' =>
     cases n<;>simp only[Oper.upon]at h<;>first
      |exact h.elim
      |exact⟨_,_,h⟩
      |skip
     .obtain⟨e,w1,fr,hR,_⟩:=h []
      cases e with
      |returned v=>exact⟨_,_,hR⟩
      |panicked ch=>exact hR.elim
      |outgrown=>obtain⟨_,_,q⟩:=hR;exact q.elim
     .obtain⟨v,w1,hR,_⟩:=h default []
      exact⟨_,_,hR⟩
    |halt s w'=>cases s<;>exact h.elim
   .exact q.elim
  .exact⟨_,_,h⟩
theorem FQ {lm:Bool} {ops:Array Oper} {k:Nat} {o:Oper} {p:Nat × Ins} (hm:okM p) (ho:ops[k]?=some o) (hc:qL P lm ops o=some p.2) (hI:Inv Gl F own B w0 σ act w) {K:St->Prop} (h:tJ P Gl N U p σ K) :
  ∃F1 fQ FI w1 v h1,Inv Gl F1 fQ B w0 (St.put ⟨σ.t,h1⟩ p.2.dst v) FI w1/\K (St.put ⟨σ.t,h1⟩ p.2.dst v)/\(gI p≠2->h1=σ.h)/\(2<=p.1->agree N U σ.h h1):=by
 have h':tJ P Gl N U p σ (λρ=>∃v h1,ρ=St.put ⟨σ.t,h1⟩ p.2.dst v/\K ρ/\(gI p≠2->h1=σ.h)/\(2<=p.1->agree N U σ.h h1)):=by
  refine wK (τ:=σ) hm (λ_ _=>rfl) (.inl rfl) (λv h1 k1 k2 k3=>?_) h
  by_cases hq:gI p=2
  .rw[if_pos hq];exact⟨v,h1,rfl,k1,k2,k3⟩
  .rw[if_neg hq];rw[k2 hq]at k1;exact⟨v,σ.h,rfl,k1,λ_=>rfl,λ_ _ _ _=>rfl⟩
 have ex:∃d K',gV P Gl d σ p.2 K'/\∀ρ,K' ρ->∃v h1,ρ=St.put ⟨σ.t,h1⟩ p.2.dst v/\K ρ/\(gI p≠2->h1=σ.h)/\(2<=p.1->agree N U σ.h h1):=by
  obtain⟨m,ins⟩:=p
  match m,h' with
  |0,h'=>exact⟨true,_,h',λ_ q=>q⟩
  |1,h'=>exact⟨true,_,h'.2,λ_ q=>q⟩
  |m+2,h'=>exact⟨false,_,h',λ_ q=>q.2⟩
 obtain⟨d,K',hs,hK'⟩:=ex
 obtain⟨FI,w1,F1,fQ,ρ,hI1,hk⟩:=RB (qp hI hc hs (λ_ _ _=>False) ho)
 obtain⟨v,h1,rfl,k1,k2,k3⟩:=hK' ρ hk
 exact⟨F1,fQ,FI,w1,v,h1,hI1,k1,k2,k3⟩
theorem JA{t:List AV}{h:List aL}{d:Option Nat}{a:AV}{s:Nat}(hs:d≠some s):(St.put ⟨t,h⟩ d a).t.getD s .any=t.getD s .any:=by
 cases d with
 |none=>rfl
 |some i =>
  have:i≠s:=λq=>hs (by rw[q])
  simp only[St.put,List.getD,aB this]
theorem xI{t:List AV}{h:List aL}{d:Option Nat}{a:AV}:(St.put ⟨t,h⟩ d a).h=h:=by cases d<;>rfl
theorem put_comm{t:List AV}{h g k:List aL}{d e:Option Nat}{a b:AV}(hd:∀s,d=some s->e≠some s):St.put ⟨(St.put ⟨t,h⟩ d a).t,k⟩ e b=St.put ⟨(St.put ⟨t,g⟩ e b).t,k⟩ d a:=by
 cases d with
 |none=>cases e<;>rfl
 |some i =>
  cases e with
  |none=>rfl
  |some j =>
   have:i≠j:=λq=>hd i rfl (by rw[q])
   simp only[St.put]
   rw[List.set_comm _ _ this]
theorem Fu{a b:Nat×Ins}(hab:ko a b=false)(hma:okM a){h1:List aL}(k2:gI a≠2->h1=σ.h)(k3:2<=a.1->agree N U σ.h h1):h1=σ.h\/gI b=0\/(b.1=1/\agree N U σ.h h1):=by
 by_cases ha:gI a=2
 .rcases(qg hab).2.2.1 ha with q|⟨q1,q2⟩
  .exact .inr (.inl q)
  .exact .inr (.inr ⟨q2,k3 (by omega)⟩)
 .exact .inl (k2 ha)
theorem J9{a b:Nat×Ins}(hab:ko a b=false){h2:List aL}(k2:gI b≠2->h2=σ.h)(k3:2<=b.1->agree N U σ.h h2):h2=σ.h\/gI a=0\/(a.1=1/\agree N U σ.h h2):=by
 by_cases hb:gI b=2
 .rcases(qg hab).2.2.2.1 hb with q|⟨q1,q2⟩
  .exact .inr (.inl q)
  .exact .inr (.inr ⟨q2,k3 (by omega)⟩)
 .exact .inl (k2 hb)
theorem EX{a b:Nat×Ins}(hab:ko a b=false){h1:List aL}{v:AV}:∀s∈b.2.looks,(St.put ⟨σ.t,h1⟩ a.2.dst v).t.getD s .any=σ.t.getD s .any:=λs hs=>JA λq=>((qg hab).1 s q).1 hs
theorem KD{a b:Nat×Ins}(hab:ko a b=false){h1:List aL}{v:AV}:∀s∈a.2.looks,(St.put ⟨σ.t,h1⟩ b.2.dst v).t.getD s .any=σ.t.getD s .any:=λs hs=>JA λq=>(qg hab).2.1 s q hs
theorem OE{lm:Bool}{ops:Array Oper}{b:Nat×Ins}(hmb:okM b)(hn:b.2.i.lI=false){post:List (Nat×Ins)}{K:St->Prop}:∀(pre:List (Nat×Ins)),(∀a∈pre,okM a/\ko a b=false/\∃(k:Nat) (o:Oper),ops[k]?=some o/\qL P lm ops o=some a.2)->∀(σ:St) (F:Addr->Option Value) (own:List Ent) (act:Act) (w:World),Inv Gl F own B w0 σ act w->iD P Gl N U K (pre++b::post) σ->∃v h2,D Gl N U b σ v h2:=by
 intro pre
 induction pre with
 |nil=>intro _ σ F own act w _ h;obtain⟨v,h2,hD,_⟩:=(vw hn).1 h;exact⟨v,h2,hD⟩
 |cons a pre ih =>
  intro hp σ F own act w hI h
  obtain⟨hma,hab,k,o,ho,hc⟩:=hp a (by simp)
  obtain⟨F1,fQ,FI,w1,v,h1,hI1,hK,k2,k3⟩:=FQ hma ho hc hI h
  obtain⟨vb,hb,hD⟩:=ih (λx hx=>hp x (by simp[hx])) _ F1 fQ FI w1 hI1 hK
  have hl:∀s∈b.2.looks,σ.t.getD s .any=(St.put ⟨σ.t,h1⟩ a.2.dst v).t.getD s .any:=λs hs=>(EX hab s hs).symm
  have hh:σ.h=(St.put ⟨σ.t,h1⟩ a.2.dst v).h\/gI b=0\/(b.1=1/\agree N U (St.put ⟨σ.t,h1⟩ a.2.dst v).h σ.h):=by
   rw[xI]
   rcases Fu hab hma k2 k3 with q|q|⟨q,r⟩
   .exact .inl q.symm
   .exact .inr (.inl q)
   .exact .inr (.inr ⟨q,r.symm⟩)
  exact⟨_,_,(hD.tr hmb hn hl hh).1⟩
theorem Cy{b:Nat×Ins}(hmb:okM b)(hn:b.2.i.lI=false){post:List (Nat×Ins)}{K:St->Prop}:∀(pre:List (Nat×Ins)),(∀a∈pre,okM a/\ko a b=false)->∀(σ:St) (v:AV) (h2:List aL),D Gl N U b σ v h2->iD P Gl N U K (pre++b::post) σ->iD P Gl N U K (pre++post) (St.put ⟨σ.t,h2⟩ b.2.dst v):=by
 intro pre
 induction pre with
 |nil =>
  intro _ σ v h2 hD h
  obtain⟨v',h2',hD',hk⟩:=(vw hn).1 h
  obtain⟨rfl,rfl⟩:=hD.fn hD'
  exact hk
 |cons a pre ih =>
  intro hp σ v h2 hD h
  obtain⟨hma,hab⟩:=hp a (by simp)
  have hD2:=(hD.tr (τ:=σ) hmb hn (λ_ _=>rfl) (.inl rfl)).2
  refine wK (σ:=σ) (τ:=St.put ⟨σ.t,h2⟩ b.2.dst v) (K1:=iD P Gl N U K (pre++b::post)) hma (KD hab) (by rw[xI];exact J9 hab hD2 hD.2.2) ?_ h
  intro va h1 hk k2 k3
  have hD1:=(hD.tr (τ:=St.put ⟨σ.t,h1⟩ a.2.dst va) hmb hn (EX hab) (by rw[xI];exact Fu hab hma k2 k3)).1
  have:=ih (λx hx=>hp x (by simp[hx])) _ v _ hD1 hk
  rw[xI]at this ⊢
  rw[put_comm (g:=h2) λs q=>((qg hab).1 s q).2]at this
  have e:(if gI b=2 then h2 else h1)=(if gI a=2 then h1 else h2):=by
   by_cases ha:gI a=2
   ·have hb:gI b ≠ 2:=by
     rcases(qg hab).2.2.1 ha with q|⟨_,q⟩
     .omega
     .rw[Gb q];simp
    rw[if_pos ha,if_neg hb]
   .rw[if_neg ha]
    split
    .rfl
    .rename_i hb;rw[k2 ha,hD2 hb]
  rw[e]at this
  exact this
theorem Gu{b:Nat×Ins}(hmb:okM b)(hb:b.2.i.lI=true){post:List (Nat×Ins)}{K:St->Prop}:∀(pre:List (Nat×Ins)),(∀a∈pre,okM a/\ko a b=false)->∀(σ:St),iD P Gl N U K (pre++b::post) σ->tJ P Gl N U b σ (iD P Gl N U K (pre++post)):=by
 intro pre
 induction pre with
 |nil=>intro _ σ h;exact h
 |cons a pre ih =>
  intro hp σ h
  obtain⟨hma,hab⟩:=hp a (by simp)
  have hna:a.2.i.lI=false:=by
   cases q:a.2.i.lI with
   |false=>rfl
   |true=>have:=(qg hab).2.2.2.2 q;rw[hb]at this;cases this
  obtain⟨va,h1,hD,hk⟩:=(vw hna).1 h
  have hDs:=(hD.tr (τ:=σ) hma hna (λ_ _=>rfl) (.inl rfl)).2
  have h2:=ih (λx hx=>hp x (by simp[hx])) _ hk
  refine wK (σ:=St.put ⟨σ.t,h1⟩ a.2.dst va) (τ:=σ) (K1:=iD P Gl N U K (pre++post)) hmb (λs hs=>(EX hab s hs).symm) ?_ ?_ h2
  .rw[xI]
   rcases Fu hab hma hDs hD.2.2 with q|q|⟨q,r⟩
   .exact .inl q.symm
   .exact .inr (.inl q)
   .exact .inr (.inr ⟨q,r.symm⟩)
  .intro vb hb1 hk2 k2 k3
   rw[xI]at k2 k3
   show tJ P Gl N U a _ _
   rw[vw hna]
   have k2':gI b≠2->(if gI b=2 then hb1 else σ.h)=σ.h:=λq=>if_neg q
   have k3':2<=b.1->agree N U σ.h (if gI b=2 then hb1 else σ.h):=λq=>by
    have h2b:gI b=2:=by
     rcases hmb with r|r|⟨r,_⟩
     .omega
     .exact Ga r
     .omega
    rw[if_pos h2b]
    have hσ:h1=σ.h:=by
     apply hDs
     intro ha
     rcases(qg hab).2.2.1 ha with r|⟨_,r⟩<;>omega
    rw[<- hσ];exact k3 q
   have hDa:=hD.tr (τ:=St.put ⟨σ.t,if gI b=2 then hb1 else σ.h⟩ b.2.dst vb) hma hna (KD hab) (by rw[xI];exact J9 hab k2' k3')
   refine⟨va,_,hDa.1,?_⟩
   rw[xI]
   rw[put_comm (g:=(if gI b=2 then hb1 else σ.h)) λs q=>((qg hab).1 s q).2]at hk2
   have e:hb1=(if gI a=2 then h1 else(if gI b=2 then hb1 else σ.h)):=by
    by_cases ha:gI a=2
    ·have hb2:gI b ≠ 2:=by
      rcases(qg hab).2.2.1 ha with q|⟨_,q⟩
      .omega
      .rw[Gb q];simp
     rw[if_pos ha,k2 hb2]
    .rw[if_neg ha]
     split
     .rfl
     .rename_i hb2;rw[k2 hb2,hDs ha]
   rw[<- e]
   exact hk2
theorem a1h {lm:Bool} {ops:Array Oper} {b:Nat × Ins} {kb:Nat} {ob:Oper} (hmb:okM b) (hob:ops[kb]?=some ob) (hcb:qL P lm ops ob=some b.2) {post:List (Nat × Ins)} {K:St->Prop} {Q:Exit->Act->World->Prop} (pre:List (Nat × Ins)) (hp:∀ a ∈ pre,okM a/\ko a b=false/\∃ (k:Nat) (o:Oper),ops[k]?=some o/\qL P lm ops o=some a.2) (hI:Inv Gl F own B w0 σ act w) (h:iD P Gl N U K (pre ++ b :: post) σ) :
  wpOp P ops Q kb (nG Gl B w0 (iD P Gl N U K (pre++post))) act w:=by
 have h':tJ P Gl N U b σ (iD P Gl N U K (pre++post)):=by
  cases hn:b.2.i.lI with
  |true=>exact Gu hmb hn pre (λa ha=>⟨(hp a ha).1,(hp a ha).2.1⟩) σ h
  |false =>
   obtain⟨v,h2,hD⟩:=OE hmb hn pre hp σ F own act w hI h
   rw[vw hn]
   exact⟨v,h2,hD,Cy hmb hn pre (λa ha=>⟨(hp a ha).1,(hp a ha).2.1⟩) σ v h2 hD h⟩
 have ex:∃d,gV P Gl d σ b.2 (iD P Gl N U K (pre++post))\/gV P Gl d σ b.2 (λρ=>agree N U σ.h ρ.h/\iD P Gl N U K (pre++post) ρ):=by
  obtain⟨m,ins⟩:=b
  match m,h' with
  |0,h'=>exact⟨true,.inl h'⟩
  |1,h'=>exact⟨true,.inl h'.2⟩
  |m+2,h'=>exact⟨false,.inr h'⟩
 obtain⟨d,h'|h'⟩:=ex
 .exact qp hI hcb h' Q hob
 .refine wpOp_mono ?_ (qp hI hcb h' Q hob)
  rintro a1 w1 ⟨F1,fQ,ρ,hI1,_,hk⟩
  exact⟨F1,fQ,ρ,hI1,hk⟩
theorem zF{p q:Nat->Bool}{i:Nat}:∀(l:List Nat),l.Pairwise (·<·)->i∈l->p i=true->(∀j,q j=if j=i then false else p j)->∃pre post,l.filter p=pre++i::post/\l.filter q=pre++post/\∀j∈pre,j<i:=by
 intro l
 induction l with
 |nil=>intro _ hi;cases hi
 |cons a l ih =>
  intro hs hi hp hq
  rw[iN]at hs
  by_cases hai:a=i
  .subst hai
   refine⟨[],l.filter p,by rw[tQ hp];rfl,?_,by simp⟩
   rw[tT (by rw[hq];simp)]
   apply List.filter_congr
   intro x hx
   rw[hq,if_neg]
   intro e;have:=hs.1 x hx;omega
  .have hil:i∈l:=by rcases bT.1 hi with r|r;exact absurd r.symm hai;exact r
   obtain⟨pre,post,e1,e2,e3⟩:=ih hs.2 hil hp hq
   have hqa:q a=p a:=by rw[hq,if_neg hai]
   cases hpa:p a with
   |true =>
    refine⟨a::pre,post,by rw[tQ hpa,e1];rfl,by rw[tQ (by rw[hqa];exact hpa),e2];rfl,λj hj=>?_⟩
    rcases bT.1 hj with r|r
    .subst r;exact hs.1 i hil
    .exact e3 j r
   |false =>
    exact⟨pre,post,by rw[tT (by simp[hpa]),e1],by rw[tT (by simp[hqa,hpa]),e2],e3⟩
theorem Mw {lm:Bool} {ops:Array Oper} {L:List (Nat × Ins)} (hl:L.length=ops.size) (hc:∀ (j:Nat) (o:Oper),ops[j]?=some o->∃ p,L[j]?=some p/\qL P lm ops o=some p.2) (hd:Eu ops L=true) {Q:Exit->Act->World->Prop} {K:St->Prop} (hQ:∀ a w,nG Gl B w0 K a w->Q .normal a w)
  (ha:iD P Gl N U K L σ) (hI:Inv Gl F own B w0 σ act w):wpAny P .any ops Q ops.size (Array.replicate ops.size false) act w:=by
 obtain⟨d1,d2,d3,dm⟩:=MB hd
 generalize hn:ops.size=n at *
 have oP:∀i,i<n->∃o p,ops[i]?=some o/\L[i]?=some p/\qL P lm ops o=some p.2/\L.getD i default=p/\okM p:=λi hi=>by
  have ho:ops[i]?=some (ops[i]'(by omega)):=aD (by omega)
  obtain⟨ins,e1,e2⟩:=hc i _ ho
  exact⟨_,ins,ho,e1,e2,by simp[List.getD,e1],dm ins (bM e1)⟩
 have ahead:∀(S:Nat->Bool),(∀i,i<n->S i=true->∀d∈direct ops i,S d=true)->∀i j,i<n->(∀d∈direct ops i,S d=true)->tb (Region.before ops) i j=true->j<i->S j=true:=by
  intro S hcl i
  induction i using Nat.strongRecOn with
  |_ i ih =>
   intro j hi pX ht hji
   rcases d2 i j hji hi ht with q|⟨d,hdm,r,q⟩
   .exact pX j q
   .have hdi:=d1 i d hi hdm
    exact ih d hdi j (by omega) (hcl d (by omega) (pX d hdm)) q r
 have mem_ready:∀(listed:Array Bool) (i:Nat),listed.size=n->i∈Region.ready .any ops listed->i<n/\listed.getD i false=false/\∀d∈direct ops i,listed.getD d false=true:=by
  intro listed i hsz hi
  unfold Region.ready at hi
  rw[iU,bO,hn]at hi
  obtain⟨h1,h2⟩:=hi
  rw[au]at h2
  have e0:listed.getD i false=listed.getD i true:=by
   have:i<listed.size:=by omega
   simp[Array.getD,this]
  refine⟨h1,by rw[e0];simpa using h2.1,λd hd=>?_⟩
  obtain⟨o,ins,ho,_⟩:=oP i h1
  have h3:=h2.2
  rw[ho]at h3
  simp only[bE,fT]at h3
  unfold direct at hd
  rw[ho]at hd
  simp only at hd
  obtain⟨e,he,hq⟩:=o9.1 hd
  have:=fM.1 h3 e (by simpa using he)
  split at hq
  .rename_i hb
   cases hq
   simpa[hb]using this
  .cases hq
 have xH:∀(listed:Array Bool) (i:Nat),listed.size=n->i<n->listed.getD i false=false->(∀j,j<i->listed.getD j false=true)->i∈Region.ready .any ops listed:=by
  intro listed i hsz hi h1 h2
  unfold Region.ready
  rw[iU,bO,hn]
  refine⟨hi,?_⟩
  have e0:listed.getD i false=listed.getD i true:=by
   have:i<listed.size:=by omega
   simp[Array.getD,this]
  rw[au]
  refine⟨by rw[<- e0,h1];rfl,?_⟩
  obtain⟨o,ins,ho,_⟩:=oP i hi
  rw[ho]
  simp only[bE,fT]
  refine fM.2 λe he=>?_
  cases hb:Region.binds .any e with
  |false=>rfl
  |true =>
   have hd:e.on∈direct ops i:=by
    unfold direct
    rw[ho]
    exact o9.2 ⟨e,by simpa using he,by simp[hb]⟩
   have:=h2 e.on (d1 i e.on hi hd)
   simpa using this
 have main:∀ (fuel:Nat) (listed:Array Bool) (τ:St) (F:Addr->Option Value) (own:List Ent) (act:Act) (w:World),listed.size=n->(∀ i,i < n->listed.getD i false=true->∀ d ∈ direct ops i,listed.getD d false=true) ->
   ((List.range n).countP λi=>!listed.getD i false)=fuel->iD P Gl N U K (((List.range n).filter λi=>!listed.getD i false).map λi=>L.getD i default) τ->
   Inv Gl F own B w0 τ act w->wpAny P .any ops Q fuel listed act w:=by
  intro fuel
  induction fuel with
  |zero =>
   intro listed τ F own act w hsz hcl hcnt hop hI
   have hall:∀i,i<n->listed.getD i false=true:=λi hi=>by
    have:=wF.1 hcnt i (bO.2 hi)
    simpa using this
   refine⟨?_,hQ act w ⟨F,own,τ,hI,?_⟩⟩
   .apply qB.2
    intro i hi
    obtain⟨q1,q2,_⟩:=mem_ready listed i hsz hi
    rw[hall i q1]at q2
    cases q2
   .have:(List.range n).filter (λi=>!listed.getD i false)=[]:=List.filter_eq_nil_iff.2 λi hi=>by rw[hall i (bO.1 hi)];simp
    rw[this]at hop;exact hop
  |succ fuel ih =>
   intro listed τ F own act w hsz hcl hcnt hop hI
   refine⟨λhnil=>?_,λi hi=>?_⟩
   .obtain⟨i,h1,h2,h3⟩:=DI (n:=n) (S:=λi=>listed.getD i false) (by omega)
    have:=xH listed i hsz h1 h2 h3
    rw[hnil]at this
    simp at this
   .obtain⟨hin,hiS,pX⟩:=mem_ready listed i hsz hi
    obtain⟨o,p,ho,hli,hci,hgd,hmp⟩:=oP i hin
    have hset:∀j,(listed.setIfInBounds i true).getD j false=if j=i then true else listed.getD j false:=λj=>by
     by_cases hji:j=i
     .subst hji
      have:j<listed.size:=by omega
      simp[Array.getD,this]
     .rw[if_neg hji]
      simp only[jR]
      rw[pJ (λe=>hji e.symm)]
    obtain⟨pre,post,e1,e2,e3⟩:=zF (p:=λj=>!listed.getD j false) (q:=λj=>!(listed.setIfInBounds i true).getD j false) (i:=i) (List.range n) uF (bO.2 hin) (by simp[hiS]) (λj=>by rw[hset];split<;>simp)
    have hpre:∀j∈pre,j<n/\listed.getD j false=false:=λj hj=>by
     have:j∈(List.range n).filter (λj=>!listed.getD j false):=by rw[e1];simp[hj]
     rw[iU,bO]at this
     exact⟨this.1,by simpa using this.2⟩
    rw[e1,dP,dn,hgd]at hop
    refine wpOp_mono ?_ (a1h (lm:=lm) hmp ho hci (pre.map λi=>L.getD i default) (λa ha=>?_) hI hop)
    .rintro a1 w1 ⟨F1,fQ,ρ,hI1,hk⟩
     refine ih (listed.setIfInBounds i true) ρ F1 fQ a1 w1 (by simp[hsz]) (λj hj hS d hdj=>?_) ?_ ?_ hI1
     .rw[hset]at hS ⊢
      split
      .rfl
      .split at hS
       .rename_i hji;subst hji;exact pX d hdj
       .exact hcl j hj hS d hdj
     .have:=count_set (n:=n) (S:=λj=>listed.getD j false) (S':=λj=>(listed.setIfInBounds i true).getD j false) hin hiS (by simp only[hset];simp) (λj hj=>by simp only[hset,if_neg hj])
      omega
     .rw[e2,dP];exact hk
    .obtain⟨j,hj,rfl⟩:=dW.1 ha
     obtain⟨hjn,hjS⟩:=hpre j hj
     obtain⟨oj,pj,hoj,hlj,hcj,hgj,hmj⟩:=oP j hjn
     simp only[hgj]
     refine⟨hmj,?_,j,oj,hoj,hcj⟩
     cases hq:ko pj p with
     |false=>rfl
     |true =>
      have ht:=d3 i j (e3 j hj) hin (by rw[hgj,hgd];exact hq)
      have:=ahead (λk=>listed.getD k false) hcl i j hin pX ht (e3 j hj)
      rw[hjS]at this;cases this
 have hrep:∀i,(Array.replicate n false).getD i false=false:=λi=>by
  simp only[jR,tF]
  split<;>rfl
 refine main n (Array.replicate n false) σ F own act w (by simp) (λi _ h=>by rw[hrep]at h;cases h) ?_ ?_ hI
 .have:((List.range n).countP λi=>!(Array.replicate n false).getD i false)=(List.range n).length:=vH.2 λi _=>by rw[hrep];rfl
  rw[this];simp
 .have e1:(List.range n).filter (λi=>!(Array.replicate n false).getD i false)=List.range n:=List.filter_eq_self.2 λi _=>by rw[hrep];rfl
  have e2:(List.range n).map (λi=>L.getD i default)=L:=by
   apply gG
   intro j
   rw[aS]
   rcases aM j n with q|q
   .obtain⟨_,p,_,e,_,e',_⟩:=oP j q
    rw[wE q,e];simp only[bE,e']
   .rw[bg (by simpa using q),bg (by omega)];rfl
  rw[e1,e2];exact ha
end
inductive MV where
 |ptr
 |mp
 |row (G sz:Nat)
def MV.at(n:Nat):MV->AV
 |.ptr=>.ptr n 1 0 0
 |.mp=>.mp n
 |.row G sz=>.row n G sz 0 G
def mkO(Gl:Nat->Option (List AV))(σ:St):I->Option (Prop×MV×aL)
 |.alloc ty zero=>some (True,.ptr,⟨ty,zero.cells.size,0,false,[gu zero]⟩)
 |.mk ty sz bytes zero n=>match σ.val Gl n with
  |.v (.int .i64 n)=>some (0<=n/\n*bytes<=lG/\n<=4611686018427387904,.row n.toNat sz,⟨ty,sz,0,true,List.replicate n.toNat (gu zero)⟩)
  |_=>none
 |.mk2 ty sz bytes zero l c=>match σ.val Gl l,σ.val Gl c with
  |.v (.int .i64 l),.v (.int .i64 c)=>some (0<=l/\l<=c/\c*bytes<=lG/\c<=4611686018427387904,.row l.toNat sz,⟨ty,sz,0,true,List.replicate l.toNat (gu zero)⟩)
  |_,_=>none
 |.mmk ty hint=>match hint.map (σ.val Gl) with
  |none=>some (True,.mp,⟨ty,0,0,true,[]⟩)
  |some (.v (.int _ _))=>some (True,.mp,⟨ty,0,0,true,[]⟩)
  |_=>none
 |.bsc ty xs=>if(xs.map (σ.val Gl)).all sc1=true then some (True,.row xs.length 1,⟨ty,1,0,true,xs.map (σ.val Gl)⟩) else none
 |_=>none
def Wy:I->Bool
 |.alloc ..|.mk ..|.mk2 ..|.mmk ..|.bsc ..=>true
 |_=>false
def plainO(ob:aL):Bool:=ob.es.all λe=>e.cells.all qb
def xB(p:Nat×Ins):Bool:=Wy p.2.i&&p.2.gd.isNone&&(p.1==0||p.1==2)&&(match p.2.dst with|some d=>!(p.2.looks.contains d)|none=>false)
def apart(a b:Nat×Ins):Bool:=!((match a.2.dst with|some d=>b.2.looks.contains d||b.2.dst==some d|none=>false)||(match b.2.dst with|some d=>a.2.looks.contains d|none=>false))
def AO(a b:Nat×Ins):Bool:=xB b&&apart a b&&gI a==2
def Ev(ops:Array Oper)(l:List (Nat×Ins)):Bool :=
 let bm:=Region.before ops
 let n:=ops.size
 l.all (λp=>p.1==0||p.1==2||(p.1==1&&Nat.ble p.2.i.cls 1))&&(List.range n).all λi=>(direct ops i).all (λd=>decide (d<i))&&
  (List.range i).all λj=>(!tb bm i j||(direct ops i).contains j||(direct ops i).any λd=>decide (j<d)&&tb bm d j)&&
   (!ko (l.getD j default) (l.getD i default)||AO (l.getD j default) (l.getD i default)||(tb bm i j&&(!xB (l.getD j default)||(List.range j).all λa=>!(gI (l.getD a default)==2)||tb bm i a)))
section
variable{P:Program}{Gl:Nat->Option (List AV)}{F:Addr->Option Value}{own:List Ent}{B:Nat}{w0:W0}{σ τ:St}{act:Act}{w:World}{N:Nat}{U:List Nat}
theorem Lx{i:I}{p:Prop}{v:MV}{ob:aL}(h:mkO Gl σ i=some (p,v,ob)):step Gl σ i=some (p,v.at σ.h.length,σ.h++[ob]):=by
 cases i with
 |alloc ty zero=>cases h;rfl
 |mk ty sz bytes zero n =>
  simp only[mkO]at h
  split at h
  .rename_i n hn;cases h;simp only[step,hn];rfl
  .cases h
 |mk2 ty sz bytes zero l c =>
  simp only[mkO]at h
  split at h
  .rename_i l c hl hc;cases h;simp only[step,hl,hc];rfl
  .cases h
 |mmk ty hint =>
  simp only[mkO]at h
  split at h
  .rename_i hn;cases h;simp only[step,hn];rfl
  .rename_i hn;cases h;simp only[step,hn];rfl
  .cases h
 |bsc ty xs =>
  simp only[mkO]at h
  split at h
  .rename_i hn;cases h;simp only[step,hn,if_true];rfl
  .cases h
 |_=>cases h
theorem Va{i:I}(hi:Wy i=true){q:Prop×AV×List aL}(h:step Gl σ i=some q):∃v ob,mkO Gl σ i=some (q.1,v,ob):=by
 cases i with
 |alloc ty zero=>cases h;exact⟨_,_,rfl⟩
 |mk ty sz bytes zero n =>
  simp only[step]at h
  split at h
  .rename_i n hn;cases h;simp only[mkO,hn];exact⟨_,_,rfl⟩
  .cases h
 |mk2 ty sz bytes zero l c =>
  simp only[step]at h
  split at h
  .rename_i l c hl hc;cases h;simp only[mkO,hl,hc];exact⟨_,_,rfl⟩
  .cases h
 |mmk ty hint =>
  simp only[step]at h
  split at h
  .rename_i hn;cases h;simp only[mkO,hn];exact⟨_,_,rfl⟩
  .rename_i hn;cases h;simp only[mkO,hn];exact⟨_,_,rfl⟩
  .cases h
 |bsc ty xs =>
  simp only[step]at h
  split at h
  .rename_i hn;cases h;simp only[mkO,hn,if_true];exact⟨_,_,rfl⟩
  .cases h
 |_=>cases hi
theorem Dp{i:I}(h:∀s∈i.reads,τ.t.getD s .any=σ.t.getD s .any):mkO Gl τ i=mkO Gl σ i:=by
 cases i<;>first|rfl|skip
 all_goals(simp only[I.reads,aV,or_imp,forall_and]at h)
 all_goals first
  |(simp only[mkO,val_congr h];done)
  |(simp only[mkO,val_congr h.1,val_congr h.2];done)
  |(simp only[mkO,Ae h];done)
  |(simp only[mkO,map_congr h];done)
theorem GH(z:Value):(gu z).cells.all qb=true:=by
 rw[kJ]
 refine aU.2 λa ha=>?_
 obtain⟨x,_,rfl⟩:=dW.1 ha
 rfl
theorem SY{i:I}{p:Prop}{v:MV}{ob:aL}(h:mkO Gl σ i=some (p,v,ob)):plainO ob=true/\ob.fz=0:=by
 have rep:∀(n:Nat) (z:Value),((List.replicate n (gu z)).all λe=>e.cells.all qb)=true:=λn z=>aU.2 λa ha=>by
  rw[gJ ha];exact GH z
 cases i with
 |alloc ty zero=>cases h;exact⟨by simp only[plainO,ji,List.all_nil,jA];exact GH zero,rfl⟩
 |mk ty sz bytes zero n =>
  simp only[mkO]at h
  split at h
  .cases h;exact⟨rep _ _,rfl⟩
  .cases h
 |mk2 ty sz bytes zero l c =>
  simp only[mkO]at h
  split at h
  .cases h;exact⟨rep _ _,rfl⟩
  .cases h
 |mmk ty hint =>
  simp only[mkO]at h
  split at h
  .cases h;exact⟨rfl,rfl⟩
  .cases h;exact⟨rfl,rfl⟩
  .cases h
 |bsc ty xs =>
  simp only[mkO]at h
  split at h
  .rename_i hn
   cases h
   refine⟨aU.2 λa ha=>?_,rfl⟩
   have:=aU.1 hn a ha
   cases a<;>first|(cases this;done)|rfl
  .cases h
 |_=>cases h
def Tk(n:Nat)(a:AV):Prop:=∀(F:Addr->Option Value) (own:List Ent) (x:Value),R F own x a->R F (own.take n) x a
theorem a5u{F0:Addr->Option Value}{x0:Value}{a:AV}(h:RP F0 x0 a)(n:Nat):Tk n a:=by
 induction h with
 |any=>exact λF own x _=>.pure (.any x)
 |v y=>exact λF own x h=>by rw[h.dK];exact .pure (.v _)
 |nil sz=>exact λF own x h=>.pure h.jU
 |list ad m cap sz xs cv hn hc hz hF hR ih=>exact λF own x h=>.pure h.jU
 |jZ ad cs cv hF hR ih=>exact λF own x h=>.pure h.qH
 |agg xs cs hl h1 hR ih =>
  intro F own x h
  obtain⟨ys,rfl,hl',h1',hR'⟩:=h.gY
  refine .agg ys cs hl' h1' λj y a p q=>?_
  have hj:j<xs.size:=by rw[hl];exact(aj.1 q).1
  exact ih j _ a (aD hj) q F own y (hR' j y a p q)
 |tup xs cs hl hR ih =>
  intro F own x h
  obtain⟨ys,rfl,hl',hR'⟩:=h.vk
  refine .tup ys cs hl' λj y a p q=>?_
  have hj:j<xs.size:=by rw[hl];exact(aj.1 q).1
  exact ih j _ a (aD hj) q F own y (hR' j y a p q)
theorem a2B{F0:Addr->Option Value}{AJ:List Ent}{x0:Value}{a:AV}(h:R F0 AJ x0 a){n:Nat}(hn:AJ.length<=n):Tk n a:=by
 have tk:∀{own:List Ent} {id:Nat} {e e0:Ent},AJ[id]?=some e0->own[id]?=some e->(own.take n)[id]?=some e:=fun{own id e e0} h0 h1=>by
  have:=(aj.1 h0).1
  rw[bJ,if_pos (by omega)];exact h1
 induction h with
 |pure h=>exact a5u h n
 |row x id G sz off len e he hG hs hx hz =>
  intro F own x h
  obtain⟨e',q1,q2,q3,q4⟩:=h.lX
  exact .row _ _ _ _ _ _ e' (tk he q1) q2 q3 q4 (h.oH q1)
 |q9 x id G sz len e he hG hs hx hz =>
  intro F own x h
  obtain⟨e',q1,q2,q3,q4⟩:=h.FC
  exact .q9 _ _ _ _ _ e' (tk he q1) q2 q3 q4 (h.rX q1)
 |ptr x id G i off e he hG hs hx hz =>
  intro F own x h
  obtain⟨e',q1,q2,q3,q4⟩:=h.p9
  exact .ptr _ _ _ _ _ e' (tk he q1) q2 q3 q4 (h.nI q1)
 |mp x id e he h0 hx =>
  intro F own x h
  obtain⟨e',q1,q2,q3⟩:=h.Bo
  exact .mp _ _ e' (tk he q1) q2 q3
 |clo f xs cs hl hR ih =>
  intro F own x h
  obtain⟨ys,rfl,hl',hR'⟩:=h.BF
  refine .clo f ys cs hl' λj y a p q=>?_
  have hj:j<xs.size:=by rw[hl];exact(aj.1 q).1
  exact ih j _ a (aD hj) q F own y (hR' j y a p q)
 |agg xs cs hl h1 hR ih =>
  intro F own x h
  obtain⟨ys,rfl,hl',h1',hR'⟩:=h.gY
  refine .agg ys cs hl' h1' λj y a p q=>?_
  have hj:j<xs.size:=by rw[hl];exact(aj.1 q).1
  exact ih j _ a (aD hj) q F own y (hR' j y a p q)
 |tup xs cs hl hR ih =>
  intro F own x h
  obtain⟨ys,rfl,hl',hR'⟩:=h.vk
  refine .tup ys cs hl' λj y a p q=>?_
  have hj:j<xs.size:=by rw[hl];exact(aj.1 q).1
  exact ih j _ a (aD hj) q F own y (hR' j y a p q)
theorem Ld{e:Ent}{ob:aL}(h:oV F own w e ob)(hp:plainO ob=true){obj:Obj}(ho:∀g,e.g=some g->w.heap[g]?=some obj):∀(F':Addr->Option Value) (own':List Ent) (w':World),(∀g,e.g=some g->w'.heap[g]?=some obj/\∀j,F' ⟨g,j,none⟩=none)->oV F' own' w' e ob:=by
 intro F' own' w' hw
 have cell:∀(i j:Nat) (x a:AV),ob.es[i]?=some x->x.cells[j]?=some a->∃z,a=.v z:=λi j x a p q =>
  GI (aU.1 (aU.1 hp x (bM p)) a (bM q))
 rcases h with⟨k0,k1,k2,k3,k4,k5,k6,k7,k8⟩|⟨k0,m1,m2,g,m3,es,clock,m4,m5,m6,m7⟩
 .refine .inl ⟨k0,k1,k2,k3,k4,k5,k6,k7,?_⟩
  cases hg:e.g with
  |none=>rw[hg]at k8;exact k8
  |some g =>
   rw[hg]at k8
   obtain⟨cs,⟨fr,a1,af⟩,a2,a3,a4⟩:=k8
   obtain⟨b1,b2⟩:=hw g hg
   rw[ho g hg]at a1
   refine⟨cs,⟨fr,b1.trans a1,af⟩,a2,λi j x a p q=>?_,λj _=>b2 j⟩
   obtain⟨y,c1,c2,c3⟩:=a3 i j x a p q
   obtain⟨z,rfl⟩:=cell i j x a p q
   have:=c3.r.dK
   subst this
   refine⟨_,c1,c2,?_⟩
   unfold RC
   split
   .exact .v _
   .exact .pure (.v _)
 .obtain⟨b1,b2⟩:=hw g m3
  rw[ho g m3]at m4
  refine .inr ⟨k0,m1,m2,g,m3,es,clock,b1.trans m4,m5,λi en x p q=>?_,b2⟩
  obtain⟨a,rfl,c1,c2,c3⟩:=m6 i en x p q
  obtain⟨z,rfl⟩:=cell i (gu en.key).cells.length _ a q (by simp[AV.cells])
  have one:∀y,RP F y (.v z)->y=z:=λy h=>by cases h;rfl
  have:=one _ c3
  exact⟨_,rfl,c1,c2,by rw[this];exact .v _⟩
theorem a5h{v:MV}{n:Nat}{e:Ent}{x:Value}(h:R F own x (v.at n))(he:own[n]?=some e):∀(F':Addr->Option Value) (own':List Ent) (n':Nat),own'[n']?=some e->R F' own' x (v.at n'):=by
 intro F' own' n' he'
 cases v with
 |ptr =>
  obtain⟨e1,q1,q2,q3,q4⟩:=R.p9 h
  rw[he]at q1;cases q1
  exact .ptr _ _ _ _ _ e he' q2 q3 q4 (R.nI h he)
 |mp =>
  obtain⟨e1,q1,q2,q3⟩:=R.Bo h
  rw[he]at q1;cases q1
  exact .mp _ _ e he' q2 q3
 |row G sz =>
  obtain⟨e1,q1,q2,q3,q4⟩:=R.lX h
  rw[he]at q1;cases q1
  exact .row _ _ _ _ _ _ e he' q2 q3 q4 (R.oH h he)
def W0.nH(w0:W0)(l:List PdE)(h:l.Pairwise λa b=>∀g,a.e.g=some g->b.e.g≠some g):W0:=⟨w0.w,w0.F,w0.N,w0.fr,w0.hfr,l,h⟩
theorem Inv.nH (h:Inv Gl F own B w0 σ act w) {l:List PdE} (hl:l.Pairwise fun a b=>∀ g,a.e.g=some g->b.e.g ≠ some g) (hp:DR B l F own w):Inv Gl F own B (w0.nH l hl) σ act w :=
  { tl:=h.tl,tr:=h.tr,defers:=h.defers,sub:=h.sub,hl:=h.hl,objs:=h.objs,inj:=h.inj,below:=h.below,base:=h.base,gl:=h.gl,gw:=h.gw,room:=h.room,ext:=h.ext,nC:=h.nC,nl:=h.nl,fr:=h.fr,pd:=hp }
theorem demote {F0:Addr->Option Value} {AJ:List Ent} {a5i:Act} {wb:World} (hI0:Inv Gl F0 AJ B w0 τ a5i wb) {d:Nat} {v:MV} {ob:aL} (hp:plainO ob=true) (hf:ob.fz=0) (h:Inv Gl F own B w0 (St.put ⟨τ.t,τ.h ++ [ob]⟩ (some d) (v.at τ.h.length)) act w) :
  ∃(x:Value) (q:PdE) (hl:(q::w0.pd).Pairwise λa b=>∀g,a.e.g=some g->b.e.g≠some g),q.ob=ob/\Inv Gl F (own.take τ.h.length) B (w0.nH (q::w0.pd) hl) (τ.put (some d) (.v x)) act w/\(d<τ.t.length->∀(F':Addr->Option Value) (own':List Ent) (n':Nat),own'[n']?=some q.e->R F' own' x (v.at n')):=by
 have hlen:own.length=τ.h.length+1:=by have:=h.hl;simpa[St.put]using this
 have hn:τ.h.length<own.length:=by omega
 have he:own[τ.h.length]?=some own[τ.h.length]:=ah hn
 generalize own[τ.h.length]=e at he
 have hob:(St.put ⟨τ.t,τ.h++[ob]⟩ (some d) (v.at τ.h.length)).h[τ.h.length]?=some ob:=by simp[St.put]
 have hO:=h.objs _ e ob he hob
 have Co:∃obj,∀g,e.g=some g->w.heap[g]?=some obj:=by
  cases hg:e.g with
  |none=>exact⟨.map #[] 0,λg q=>by cases q⟩
  |some g =>
   have hlt:=hO.lt hg
   exact⟨w.heap[g],λg' q=>by cases q;exact aD hlt⟩
 obtain⟨obj,Co⟩:=Co
 have hnew:∀g,e.g=some g->∀q∈w0.pd,q.e.g≠some g:=λg hg q hq hqg=>(h.pd q hq g hqg).2.2.1 _ e he hg
 have hpw:((⟨obj,e,ob,Ld hO hp Co⟩:PdE)::w0.pd).Pairwise λa b=>∀g,a.e.g=some g->b.e.g≠some g :=
  iN.2 ⟨λq hq g hg=>hnew g hg q hq,w0.pdn⟩
 have rU:∀{id:Nat} {e':Ent},(own.take τ.h.length)[id]?=some e'->id<τ.h.length/\own[id]?=some e':=fun{id e'} q=>by
  rw[bJ]at q
  split at q
  .exact⟨by assumption,q⟩
  .cases q
 refine⟨act.tmps.getD d undef,⟨obj,e,ob,Ld hO hp Co⟩,hpw,rfl,?_,λhd=>?_⟩
 .refine{ tl:=by have:=h.tl;simpa[St.put]using this,tr:=λi x a p q=>?_,defers:=h.defers,sub:=h.sub,hl:=by simp only[St.put,bH];omega,objs:=λid e' o p q=>?_,inj:=λi j e1 e2 g p q=>h.inj i j e1 e2 g (rU p).2 (rU q).2,below:=h.below,base:=λid e' g p=>h.base id e' g (rU p).2,gl:=h.gl,gw:=h.gw,room:=h.room,ext:=h.ext,nC:=h.nC,nl:=hI0.nl,fr:=λq hq=>?_,pd:=?_ }
  .have q':(τ.t.set d (.v (act.tmps.getD d undef)))[i]?=some a:=q
   rw[dY]at q'
   split at q'
   .rename_i hdi
    subst hdi
    split at q'
    .cases q'
     have:act.tmps.getD d undef=x:=by
      have hlt:=(fE.1 p).1
      rw[aD hlt]at p
      simp[Array.getD,hlt]
      exact aI p
     rw[this];exact .pure (.v _)
    .cases q'
   .rename_i hdi
    have q2:(St.put ⟨τ.t,τ.h++[ob]⟩ (some d) (v.at τ.h.length)).t[i]?=some a:=by
     show(τ.t.set d _)[i]?=some a
     rw[aB hdi];exact q'
    have hi0:i<a5i.tmps.size:=by rw[hI0.tl];exact(aj.1 q').1
    exact a2B (hI0.tr i _ a (aD hi0) q') (gU hI0.hl) F own x (h.tr i x a p q2)
  .obtain⟨hid,hown⟩:=rU p
   have q':τ.h[id]?=some o:=q
   have q2:(St.put ⟨τ.t,τ.h++[ob]⟩ (some d) (v.at τ.h.length)).h[id]?=some o:=by
    show(τ.h++[ob])[id]?=some o
    rw[aH hid];exact q'
   rcases h.objs id e' o hown q2 with⟨k0,k1,k2,k3,k4,k5,k6,k7,k8⟩|hm
   case inr=>exact .inr hm
   refine .inl ⟨k0,k1,k2,k3,k4,k5,k6,k7,?_⟩
   cases hg:e'.g with
   |none=>rw[hg]at k8;exact k8
   |some g =>
    rw[hg]at k8
    obtain⟨cs,a1,a2,a3,a4⟩:=k8
    refine⟨cs,a1,a2,λi j x a r s=>?_,a4⟩
    obtain⟨y,b1,b2,b3⟩:=a3 i j x a r s
    refine⟨y,b1,b2,?_⟩
    unfold RC at b3 ⊢
    split
    .rename_i hpr;rw[if_pos hpr]at b3;exact b3
    .rename_i hpr
     rw[if_neg hpr]at b3
     have a9X:id<AJ.length:=by rw[hI0.hl];exact hid
     rcases hI0.objs id _ o (ah a9X) q' with⟨_,z1,z2,z3,z4,z5,z6,z7,z8⟩|⟨_,_,m2,_⟩
     case inr=>exact absurd m2 hpr
     cases hg0:AJ[id].g with
     |none =>
      rw[hg0]at z8
      have z8:AJ[id].cap=0:=z8
      have:=(aj.1 r).1
      omega
     |some g0 =>
      rw[hg0]at z8
      obtain⟨_,_,_,z9,_⟩:=z8
      obtain⟨y0,_,_,c3⟩:=z9 i j x a r s
      exact a2B c3.r (gU hI0.hl) F own y b3
  .have:=h.fr q hq
   have hN:q.1<=τ.h.length:=cZ (w0.hfr q hq) hI0.nl
   show R F ((own.take τ.h.length).take q.1) q.2.1 q.2.2
   rw[xg,oq hN];exact this
  .intro q hq g hg
   rcases bT.1 hq with rfl|hq
   .have hg:e.g=some g:=hg
    refine⟨Co g hg,λj=>hO.fz hg (by rw[hf,tq];exact p8 _),λid e' p r=>?_,h.base _ e g he hg⟩
    obtain⟨p1,p2⟩:=rU p
    have:=h.inj id τ.h.length e' e g p2 he r hg
    omega
   .obtain⟨p1,p2,p3,p4⟩:=h.pd q hq g hg
    exact⟨p1,p2,λid e' r=>p3 id e' (rU r).2,p4⟩
 .have hds:d<act.tmps.size:=by rw[h.tl];simpa[St.put]using hd
  have q2:(St.put ⟨τ.t,τ.h++[ob]⟩ (some d) (v.at τ.h.length)).t[d]?=some (v.at τ.h.length):=by
   show(τ.t.set d _)[d]?=_
   rw[aW hd]
  have:=h.tr d _ _ (aD hds) q2
  have e1:act.tmps.getD d undef=act.tmps[d]:=by simp[Array.getD,hds]
  rw[e1]
  exact a5h this he
theorem claim {l1 l2:List PdE} {q:PdE} {hl:(l1 ++ q :: l2).Pairwise fun a b=>∀ g,a.e.g=some g->b.e.g ≠ some g} (hl':(l1 ++ l2).Pairwise fun a b=>∀ g,a.e.g=some g->b.e.g ≠ some g) (h:Inv Gl F own B (w0.nH (l1 ++ q :: l2) hl) τ act w) {d:Nat} {v:MV} {x:Value}
  (hx:∀a,τ.t[d]?=some a->a=.v x) (hR:d<τ.t.length->∀(F':Addr->Option Value) (own':List Ent) (n':Nat),own'[n']?=some q.e->R F' own' x (v.at n')) :
  Inv Gl F (own++[q.e]) B (w0.nH (l1++l2) hl') (St.put ⟨τ.t,τ.h++[q.ob]⟩ (some d) (v.at τ.h.length)) act w:=by
 have hq:q∈(w0.nH (l1++q::l2) hl).pd:=aV.2 (.inr (List.mem_cons_self))
 have hpd:=h.pd q hq
 have get:∀{k:Nat} {f:Ent},(own++[q.e])[k]?=some f->(k=own.length/\f=q.e)\/(k<own.length/\own[k]?=some f):=fun{k f} hf=>by
  rcases aM k own.length with hk|hk
  .rw[aH hk]at hf;exact .inr ⟨hk,hf⟩
  .rw[aK hk]at hf
   have h0:k-own.length=0:=by
    rcases eO (k-own.length) with h0|h0
    .exact h0
    .rw[bg (by simp;omega)]at hf;cases hf
   rw[h0]at hf
   simp at hf
   exact .inl ⟨by omega,hf.symm⟩
 have last:(own++[q.e])[own.length]?=some q.e:=by simp
 refine{ tl:=by have:=h.tl;simpa[St.put]using this,tr:=λi y a p r=>?_,defers:=h.defers,sub:=h.sub,hl:=by simp[St.put,h.hl],objs:=λid e' o p r=>?_,inj:=λi j e1 e2 g p r s t=>?_,below:=h.below,base:=λid e' g p r=>?_,gl:=h.gl,gw:=h.gw,room:=h.room,ext:=h.ext,nC:=h.nC,nl:=by have:=h.nl;simp only[St.put,ak];exact cZ this (Nat.le_add_right _ _),fr:=λz hz=>(h.fr z hz).mono (λ_ _ r=>r) ((Le.snoc _ _).take _),pd:=λz hz g hg=>?_ }
 .have r':(τ.t.set d (v.at τ.h.length))[i]?=some a:=r
  rw[dY]at r'
  split at r'
  .rename_i hdi
   subst hdi
   split at r'
   .rename_i hd
    cases r'
    have hv:=h.tr d y _ p (ah hd)
    rw[hx _ (ah hd)]at hv
    rw[hv.dK]
    exact hR hd F _ _ (by rw[<- h.hl];exact last)
   .cases r'
  .exact(h.tr i y a p r').mono (λ_ _ r=>r) (Le.snoc _ _)
 .have r':(τ.h++[q.ob])[id]?=some o:=r
  rcases get p with⟨rfl,rfl⟩|⟨hk,hf⟩
  .rw[h.hl,aK (bF _)]at r'
   simp at r'
   subst r'
   exact q.ok F _ w λg hg=>⟨(hpd g hg).1,(hpd g hg).2.1⟩
  .rw[aH (by rw[<- h.hl];exact hk)]at r'
   have hO:=h.objs id e' o hf r'
   exact hO.mono (λ_ _ r=>r) (Le.snoc _ _) (λg hg=>rfl) (λg j hg hj=>hO.fz hg hj)
 .rcases get p with⟨rfl,rfl⟩|⟨hi,hf⟩<;>rcases get r with⟨rfl,rfl⟩|⟨hj,hf'⟩
  .rfl
  .exact absurd t ((hpd g s).2.2.1 j e2 hf')
  .exact absurd s ((hpd g t).2.2.1 i e1 hf)
  .exact h.inj i j e1 e2 g hf hf' s t
 .rcases get p with⟨rfl,rfl⟩|⟨hk,hf⟩
  .exact(hpd g r).2.2.2
  .exact h.base id e' g hf r
 ·have hz':z ∈ (w0.nH (l1 ++ q :: l2) hl).pd:=by
   rcases aV.1 hz with hz|hz
   .exact aV.2 (.inl hz)
   .exact aV.2 (.inr (j6 _ hz))
  obtain⟨p1,p2,p3,p4⟩:=h.pd z hz' g hg
  refine⟨p1,p2,λid e' r s=>?_,p4⟩
  rcases get r with⟨rfl,rfl⟩|⟨hk,hf⟩
  .rw[wo]at hl
   rcases aV.1 hz with hz|hz
   .exact hl.2.2 z hz q (List.mem_cons_self) g hg s
   .have:=(iN.1 hl.2.1).1 z hz g s
    exact this hg
  .exact p3 id e' hf s
end
section
variable{P:Program}{Gl:Nat->Option (List AV)}{F:Addr->Option Value}{own:List Ent}{B:Nat}{w0:W0}{σ τ:St}{act:Act}{w:World}{N:Nat}{U:List Nat}
theorem Cg{b:Nat×Ins}(h:xB b=true):Wy b.2.i=true/\b.2.gd=none/\(b.1=0\/b.1=2)/\b.2.i.lI=false/\∃d,b.2.dst=some d/\d∉b.2.looks:=by
 unfold xB at h
 simp only[au,jD,nU,Option.isNone_iff_eq_none]at h
 obtain⟨⟨⟨h1,h2⟩,h3⟩,h4⟩:=h
 refine⟨h1,h2,h3,?_,?_⟩
 .cases hi:b.2.i<;>first|rfl|(rw[hi]at h1;cases h1)
 .split at h4
  .rename_i d hd
   exact⟨d,hd,λq=>by rw[iV.2 q]at h4;cases h4⟩
  .cases h4
theorem apart_spec{a b:Nat×Ins}(h:apart a b=true):(∀d,a.2.dst=some d->d∉b.2.looks/\b.2.dst≠some d)/\(∀d,b.2.dst=some d->d∉a.2.looks):=by
 unfold apart at h
 simp only[jv,mZ]at h
 obtain⟨h1,h2⟩:=h
 refine⟨λd hd=>?_,λd hd=>?_⟩
 .rw[hd]at h1
  simp only[mZ,beq_eq_false_iff_ne]at h1
  exact⟨(λq=>by rw[iV.2 q]at h1;cases h1.1),h1.2⟩
 .rw[hd]at h2
  simp only at h2
  exact λq=>by rw[iV.2 q]at h2;cases h2
def Apart(a b:Nat×Ins):Prop:=(∀d,a.2.dst=some d->d∉b.2.looks/\b.2.dst≠some d)/\(∀d,b.2.dst=some d->d∉a.2.looks)
theorem yg{a b:Nat×Ins}(h:ko a b=false):Apart a b:=⟨(qg h).1,(qg h).2.1⟩
theorem RO{p:Nat×Ins}(hm:okM p){K:St->Prop}(h:tJ P Gl N U p σ K):tJ P Gl N U p σ λρ=>K ρ/\∃v h1,ρ=St.put ⟨σ.t,h1⟩ p.2.dst v:=by
 refine wK (τ:=σ) hm (λ_ _=>rfl) (.inl rfl) (λv h1 k1 k2 k3=>?_) h
 by_cases hq:gI p=2
 .rw[if_pos hq];exact⟨k1,v,h1,rfl⟩
 .rw[if_neg hq];rw[k2 hq]at k1;exact⟨k1,v,σ.h,rfl⟩
theorem WR {lm:Bool} {ops:Array Oper} {b:Nat × Ins} {kb:Nat} {ob:Oper} (hmb:okM b) (hob:ops[kb]?=some ob) (hcb:qL P lm ops ob=some b.2) {post:List (Nat × Ins)} {K:St->Prop} {Q:Exit->Act->World->Prop} (pre:List (Nat × Ins)) (hp:∀ a ∈ pre,okM a/\ko a b=false/\∃ (k:Nat) (o:Oper),ops[k]?=some o/\qL P lm ops o=some a.2) (hI:Inv Gl F own B w0 σ act w) (h:iD P Gl N U K (pre ++ b :: post) σ) :
  wpOp P ops Q kb (nG Gl B w0 λρ=>iD P Gl N U K (pre++post) ρ/\∃v h1,ρ=St.put ⟨σ.t,h1⟩ b.2.dst v) act w:=by
 have h':tJ P Gl N U b σ (iD P Gl N U K (pre++post)):=by
  cases hn:b.2.i.lI with
  |true=>exact Gu hmb hn pre (λa ha=>⟨(hp a ha).1,(hp a ha).2.1⟩) σ h
  |false =>
   obtain⟨v,h2,hD⟩:=OE hmb hn pre hp σ F own act w hI h
   rw[vw hn]
   exact⟨v,h2,hD,Cy hmb hn pre (λa ha=>⟨(hp a ha).1,(hp a ha).2.1⟩) σ v h2 hD h⟩
 replace h':=RO hmb h'
 have ex:∃d,gV P Gl d σ b.2 (λρ=>iD P Gl N U K (pre++post) ρ/\∃v h1,ρ=St.put ⟨σ.t,h1⟩ b.2.dst v)\/gV P Gl d σ b.2 (λρ=>agree N U σ.h ρ.h/\iD P Gl N U K (pre++post) ρ/\∃v h1,ρ=St.put ⟨σ.t,h1⟩ b.2.dst v):=by
  obtain⟨m,ins⟩:=b
  match m,h' with
  |0,h'=>exact⟨true,.inl h'⟩
  |1,h'=>exact⟨true,.inl h'.2⟩
  |m+2,h'=>exact⟨false,.inr h'⟩
 obtain⟨d,h'|h'⟩:=ex
 .exact qp hI hcb h' Q hob
 .refine wpOp_mono ?_ (qp hI hcb h' Q hob)
  rintro a1 w1 ⟨F1,fQ,ρ,hI1,_,hk⟩
  exact⟨F1,fQ,ρ,hI1,hk⟩
theorem Vf{b:Nat×Ins}(hb:okM b){d:Nat}(hd:b.2.dst=some d)(hnd:d∉b.2.looks){post:List (Nat×Ins)}{K:St->Prop}(x:AV):∀(pre:List (Nat×Ins)),(∀a∈pre,okM a/\Apart a b)->∀(σ:St),iD P Gl N U K (pre++b::post) σ->iD P Gl N U K (pre++b::post) (σ.put (some d) x):=by
 have look:∀(σ:St) (s:Nat),s≠d->(σ.put (some d) x).t.getD s .any=σ.t.getD s .any:=λσ s hs=>by
  simp only[St.put,List.getD,aB (Ne.symm hs)]
 intro pre
 induction pre with
 |nil =>
  intro _ σ h
  refine wK (τ:=σ.put (some d) x) hb (λs hs=>look σ s λq=>hnd (q▸hs)) (.inl rfl) (λv h1 k1 k2 k3=>?_) h
  have e:St.put ⟨(σ.put (some d) x).t,if gI b=2 then h1 else(σ.put (some d) x).h⟩ b.2.dst v=St.put ⟨σ.t,h1⟩ b.2.dst v:=by
   rw[hd]
   simp only[St.put,List.set_set]
   split
   .rfl
   .rename_i q;rw[k2 q]
  rw[e];exact k1
 |cons a pre ih =>
  intro hp σ h
  obtain⟨hma,hab⟩:=hp a (by simp)
  refine wK (τ:=σ.put (some d) x) (K1:=iD P Gl N U K (pre++b::post)) hma (λs hs=>look σ s λq=>hab.2 d hd (q▸hs)) (.inl rfl) (λv h1 k1 k2 k3=>?_) h
  have:=ih (λz hz=>hp z (by simp[hz])) _ k1
  have e:(St.put ⟨σ.t,h1⟩ a.2.dst v).put (some d) x=St.put ⟨(σ.put (some d) x).t,if gI a=2 then h1 else(σ.put (some d) x).h⟩ a.2.dst v:=by
   have hh:(if gI a=2 then h1 else σ.h)=h1:=by
    split
    .rfl
    .rename_i q;rw[k2 q]
   show _=St.put ⟨(σ.t.set d x),if gI a=2 then h1 else σ.h⟩ a.2.dst v
   rw[hh]
   cases hda:a.2.dst with
   |none=>rfl
   |some i =>
    have:i≠d:=λq=>(hab.1 i hda).2 (by rw[hd,q])
    simp only[St.put]
    rw[List.set_comm _ _ this]
  rw[<- e];exact this
theorem X4{lm:Bool}{ops:Array Oper}{b:Nat×Ins}(hb:xB b=true){post:List (Nat×Ins)}{K:St->Prop}:∀(pre:List (Nat×Ins)),(∀a∈pre,okM a/\Apart a b/\∃(k:Nat) (o:Oper),ops[k]?=some o/\qL P lm ops o=some a.2)->∀(σ:St) (F:Addr->Option Value) (own:List Ent) (act:Act) (w:World),Inv Gl F own B w0 σ act w->iD P Gl N U K (pre++b::post) σ->∃pr v ob,mkO Gl σ b.2.i=some (pr,v,ob)/\pr:=by
 obtain⟨b1,b2,b3,b4,d,b5,b6⟩:=Cg hb
 intro pre
 induction pre with
 |nil =>
  intro _ σ F own act w hI h
  have h:tJ P Gl N U b σ (iD P Gl N U K post):=h
  rw[vw b4]at h
  obtain⟨v,h2,⟨⟨q,e,hq⟩,_⟩,_⟩:=h
  unfold vP at e
  rw[b2]at e
  obtain⟨v',ob,hmk⟩:=Va b1 e
  exact⟨q,v',ob,hmk,hq⟩
 |cons a pre ih =>
  intro hp σ F own act w hI h
  obtain⟨hma,hab,k,o,ho,hc⟩:=hp a (by simp)
  obtain⟨F1,fQ,FI,w1,v,h1,hI1,hK,_,_⟩:=FQ hma ho hc hI h
  obtain⟨pr,v',ob,hmk,hpr⟩:=ih (λz hz=>hp z (by simp[hz])) _ F1 fQ FI w1 hI1 hK
  refine⟨pr,v',ob,?_,hpr⟩
  rw[<- hmk]
  refine(Dp λs hs=>?_).symm
  exact JA λq=>(hab.1 s q).1 (by simp[Ins.looks,hs])
theorem R9 {b:Nat × Ins} (hb:xB b=true) {post:List (Nat × Ins)} {K:St->Prop} (pre:List (Nat × Ins)) (hp:∀ a ∈ pre,okM a/\ko a b=false) (hN:N<=σ.h.length) {pr:Prop} {v:MV} {ob:aL} (hm:mkO Gl σ b.2.i=some (pr,v,ob)) (hpr:pr) (h:iD P Gl N U K (pre ++ b :: post) σ) :
  iD P Gl N U K (pre++post) (St.put ⟨σ.t,σ.h++[ob]⟩ b.2.dst (v.at σ.h.length)):=by
 obtain⟨b1,b2,b3,b4,d,b5,b6⟩:=Cg hb
 have hok:okM b:=by rcases b3 with q|q;exact .inl q;exact .inr (.inl q)
 refine Cy hok b4 pre hp σ _ _ ⟨⟨pr,?_,hpr⟩,λq=>by omega,λ_ id hid _=>?_⟩ h
 .unfold vP
  rw[b2]
  exact Lx hm
 .rw[aH (by omega)]
theorem MC {ops:Array Oper} {l:List (Nat × Ins)} (h:Ev ops l=true) :
  (∀i d,i<ops.size->d∈direct ops i->d<i)/\(∀i j,j<i->i<ops.size->tb (Region.before ops) i j=true->j∈direct ops i\/∃d∈direct ops i,j<d/\tb (Region.before ops) d j=true)/\
  (∀i j,j<i->i<ops.size->ko (l.getD j default) (l.getD i default)=true->AO (l.getD j default) (l.getD i default)=true\/(tb (Region.before ops) i j=true/\(xB (l.getD j default)=true->∀a,a<j->gI (l.getD a default)=2->tb (Region.before ops) i a=true)))/\∀p∈l,okM p:=by
 unfold Ev at h
 rw[au]at h
 obtain⟨hm,h⟩:=h
 have h1:∀i,i<ops.size->_:=λi hi=>aU.1 h i (bO.2 hi)
 refine⟨λi d hi hd=>?_,λi j hj hi ht=>?_,λi j hj hi hc=>?_,λp hp=>?_⟩
 .have:=h1 i hi
  rw[au]at this
  exact of_decide_eq_true (aU.1 this.1 d hd)
 .have:=h1 i hi
  rw[au]at this
  have:=aU.1 this.2 j (bO.2 hj)
  rw[au]at this
  have:=this.1
  simp only[ht,qo,yE,jD]at this
  rcases this with q|q
  .exact .inl (iV.1 q)
  .obtain⟨d,hd,hq⟩:=gP.1 q
   rw[au]at hq
   exact .inr ⟨d,hd,of_decide_eq_true hq.1,hq.2⟩
 .have:=h1 i hi
  rw[au]at this
  have:=aU.1 this.2 j (bO.2 hj)
  rw[au]at this
  have:=this.2
  rw[hc]at this
  simp only[qo,yE,jD,au]at this
  rcases this with q|⟨q,r⟩
  .exact .inl q
  .refine .inr ⟨q,λhg a ha hcl=>?_⟩
   rw[hg]at r
   simp only[qo,aT,false_or]at r
   have:=aU.1 r a (bO.2 ha)
   rw[hcl]at this
   simpa using this
 .have:=aU.1 hm p hp
  simp only[jD,au,nU]at this
  rcases this with(q|q)|⟨q,r⟩
  .exact .inl q
  .exact .inr (.inl q)
  .exact .inr (.inr ⟨q,fP r⟩)
def Ir(Gl:Nat->Option (List AV))(L:List (Nat×Ins))(τ:St)(i:Nat)(q:PdE):Prop :=
 xB (L.getD i default)=true/\∃d v pr x,(L.getD i default).2.dst=some d/\mkO Gl τ (L.getD i default).2.i=some (pr,v,q.ob)/\pr/\(∀a,τ.t[d]?=some a->a=.v x)/\(d<τ.t.length->∀(F':Addr->Option Value) (own':List Ent) (n':Nat),own'[n']?=some q.e->R F' own' x (v.at n'))
theorem Ir.put{L:List (Nat×Ins)}{i:Nat}{q:PdE}(h:Ir Gl L τ i q){dst:Option Nat}{v':AV}{h1:List aL}(hd:∀s,dst=some s->s∉(L.getD i default).2.looks/\(L.getD i default).2.dst≠some s):Ir Gl L (St.put ⟨τ.t,h1⟩ dst v') i q:=by
 obtain⟨h0,d,v,pr,x,k1,k2,k3,k4,k5⟩:=h
 have hne:∀s,dst=some s->s≠d:=λs hs e=>(hd s hs).2 (by rw[k1,e])
 refine⟨h0,d,v,pr,x,k1,?_,k3,λa ha=>?_,λhl=>?_⟩
 .rw[<- k2]
  exact Dp λs hs=>JA λe=>(hd s e).1 (aV.2 (.inl hs))
 .refine k4 a ?_
  cases dst with
  |none=>exact ha
  |some s =>
   have ha':(τ.t.set s v')[d]?=some a:=ha
   rw[aB (hne s rfl)]at ha'
   exact ha'
 .exact k5 (by cases dst<;>simpa[St.put]using hl)
def lefts(listed:Array Bool)(zs:List (Nat×PdE))(i:Nat):Bool:=!listed.getD i false||zs.any λz=>z.1==i
theorem oZ{listed:Array Bool}{zs:List (Nat×PdE)}{i:Nat}:lefts listed zs i=true↔listed.getD i false=false\/∃z∈zs,z.1=i:=by
 unfold lefts
 simp[jD,gP]
theorem greedy {ops:Array Oper} {L:List (Nat × Ins)} {n:Nat} (hd:∀ i j,j < i->i < n->ko (L.getD j default) (L.getD i default)=true->AO (L.getD j default) (L.getD i default)=true\/(tb (Region.before ops) i j=true/\(xB (L.getD j default)=true->∀ a,a < j->gI (L.getD a default)=2->tb (Region.before ops) i a=true)))
  (hok:∀i,i<n->okM (L.getD i default)) {listed:Array Bool} (hah:∀i j,i<n->listed.getD i false=true->tb (Region.before ops) i j=true->j<i->listed.getD j false=true) (hN:N<=w0.N) {K:St->Prop} :
  ∀(m:Nat) (zs:List (Nat×PdE)) (τ:St) (own:List Ent) (hl:(zs.map (·.2)++w0.pd).Pairwise λa b=>∀g,a.e.g=some g->b.e.g≠some g),zs.length=m->(zs.map (·.1)).Nodup->(∀z∈zs,∀y∈zs,z.1<y.1->Apart (L.getD z.1 default) (L.getD y.1 default))->(∀z∈zs,z.1<n/\listed.getD z.1 false=true/\Ir Gl L τ z.1 z.2)->
   iD P Gl N U K (((List.range n).filter (lefts listed zs)).map λi=>L.getD i default) τ->Inv Gl F own B (w0.nH (zs.map (·.2)++w0.pd) hl) τ act w->
   ∃(zs':List (Nat×PdE)) (τ':St) (own':List Ent) (hl':(zs'.map (·.2)++w0.pd).Pairwise λa b=>∀g,a.e.g=some g->b.e.g≠some g),(zs'.map (·.1)).Nodup/\(∀z∈zs',∀y∈zs',z.1<y.1->Apart (L.getD z.1 default) (L.getD y.1 default))/\(∀z∈zs',z.1<n/\listed.getD z.1 false=true/\Ir Gl L τ' z.1 z.2)/\
    iD P Gl N U K (((List.range n).filter (lefts listed zs')).map λi=>L.getD i default) τ'/\Inv Gl F own' B (w0.nH (zs'.map (·.2)++w0.pd) hl') τ' act w/\∀z∈zs',∃a,a<z.1/\gI (L.getD a default)=2/\listed.getD a false=false:=by
 intro m
 induction m with
 |zero =>
  intro zs τ own hl h0 hnd hap hz hop hI
  have:zs=[]:=jS.1 h0
  subst this
  exact⟨[],τ,own,hl,hnd,hap,hz,hop,hI,λz q=>by cases q⟩
 |succ m ih =>
  intro zs τ own hl hlen hnd hap hz hop hI
  by_cases hall:∀z∈zs,∃a,a<z.1/\gI (L.getD a default)=2/\listed.getD a false=false
  .exact⟨zs,τ,own,hl,hnd,hap,hz,hop,hI,hall⟩
  ·have hex:∃ i,∃ z ∈ zs,z.1=i/\¬ ∃ a,a < i/\gI (L.getD a default)=2/\listed.getD a false=false:=by
    apply kL
    intro hno
    apply hall
    intro z hzm
    apply kL
    intro hna
    exact hno ⟨z.1,z,hzm,rfl,hna⟩
   have a4h:∃i,(∃z∈zs,z.1=i/\¬∃a,a<i/\gI (L.getD a default)=2/\listed.getD a false=false)/\∀z∈zs,i<=z.1:=by
    have key:∀(k i:Nat),i<=k->(∃z∈zs,z.1=i/\¬∃a,a<i/\gI (L.getD a default)=2/\listed.getD a false=false)->∃i,(∃z∈zs,z.1=i/\¬∃a,a<i/\gI (L.getD a default)=2/\listed.getD a false=false)/\∀z∈zs,i<=z.1:=by
     intro k
     induction k with
     |zero=>intro i hi h;exact⟨i,h,λz _=>by omega⟩
     |succ k ihk =>
      intro i hi h
      by_cases hm:∀z∈zs,i<=z.1
      .exact⟨i,h,hm⟩
      .simp only[Classical.not_forall,Nat.not_le]at hm
       obtain⟨z,hzm,hlt⟩:=hm
       obtain⟨_,_,rfl,hna⟩:=h
       exact ihk z.1 (by omega) ⟨z,hzm,rfl,fun⟨a,h1,h2,h3⟩=>hna ⟨a,by omega,h2,h3⟩⟩
    obtain⟨i,h⟩:=hex
    exact key i i (bF _) h
   obtain⟨i,⟨z,hzm,hzi,hna⟩,hmin⟩:=a4h
   subst hzi
   obtain⟨z1,z2,rfl⟩:=List.append_of_mem hzm
   obtain⟨hin,hil,hgo,d,v,pr,x,k1,k2,k3,k4,k5⟩:=hz z hzm
   have a4d:∀y∈z1++z2,y.1≠z.1:=λy hy e=>by
    simp only[dP,dn]at hnd
    rw[ni]at hnd
    obtain⟨_,n2,n3⟩:=hnd
    rw[wu]at n2
    rcases aV.1 hy with q|q
    .exact n3 y.1 (dW.2 ⟨y,q,rfl⟩) z.1 (by simp) e
    .exact n2.1 (dW.2 ⟨y,q,e⟩)
   obtain⟨pre,post,e1,e2,e3⟩:=zF (p:=lefts listed (z1++z::z2)) (q:=lefts listed (z1++z2)) (i:=z.1) (List.range n) uF (bO.2 hin) (oZ.2 (.inr ⟨z,hzm,rfl⟩)) (λj=>by
    by_cases hj:j=z.1
    .rw[if_pos hj]
     cases hq:lefts listed (z1++z2) j with
     |false=>rfl
     |true =>
      exfalso
      rcases oZ.1 hq with r|⟨y,hy,r⟩
      .rw[hj,hil]at r;cases r
      .exact a4d y hy (r.trans hj)
    .rw[if_neg hj]
     cases hq:lefts listed (z1++z2) j with
     |true =>
      refine(oZ.2 ?_).symm
      rcases oZ.1 hq with r|⟨y,hy,r⟩
      .exact .inl r
      .refine .inr ⟨y,?_,r⟩
       rcases aV.1 hy with s|s
       .exact aV.2 (.inl s)
       .exact aV.2 (.inr (j6 _ s))
     |false =>
      cases hq':lefts listed (z1++z::z2) j with
      |false=>rfl
      |true =>
       exfalso
       have:lefts listed (z1++z2) j=true:=oZ.2 (by
        rcases oZ.1 hq' with r|⟨y,hy,r⟩
        .exact .inl r
        .refine .inr ⟨y,?_,r⟩
         rcases aV.1 hy with s|s
         .exact aV.2 (.inl s)
         .rcases bT.1 s with s|s
          .subst s;exact absurd r.symm hj
          .exact aV.2 (.inr s))
       rw[this]at hq;cases hq)
   rw[e1,dP,dn]at hop
   have hpre:∀j∈pre,j<n/\j<z.1/\listed.getD j false=false:=λj hj=>by
    have hm:j∈(List.range n).filter (lefts listed (z1++z::z2)):=by rw[e1];simp[hj]
    rw[iU,bO]at hm
    refine⟨hm.1,e3 j hj,?_⟩
    rcases oZ.1 hm.2 with r|⟨y,hy,r⟩
    .exact r
    .have:=hmin y hy;have:=e3 j hj;omega
   have hNτ:N<=τ.h.length:=cZ hN hI.nl
   have hstep:=R9 hgo (pre.map λi=>L.getD i default) (λa ha=>by
    obtain⟨j,hj,rfl⟩:=dW.1 ha
    obtain⟨hjn,hjz,hjl⟩:=hpre j hj
    refine⟨hok j hjn,?_⟩
    cases hq:ko (L.getD j default) (L.getD z.1 default) with
    |false=>rfl
    |true =>
     exfalso
     rcases hd z.1 j hjz hin hq with r|⟨r,_⟩
     .unfold AO at r
      simp only[au,nU]at r
      exact hna ⟨j,hjz,r.2,hjl⟩
     .have:=hah z.1 j hin hil r hjz
      rw[hjl]at this;cases this) hNτ k2 k3 hop
   rw[<- dP,<- e2,k1]at hstep
   have hl2:(z1.map (·.2)++z.2::(z2.map (·.2)++w0.pd)).Pairwise λa b=>∀g,a.e.g=some g->b.e.g≠some g:=by
    have:=hl
    simp only[dP,dn,aX,lW]at this
    exact this
   have hI':Inv Gl F own B (w0.nH (z1.map (·.2)++z.2::(z2.map (·.2)++w0.pd)) hl2) τ act w:=by
    have e:(z1++z::z2).map (·.2)++w0.pd=z1.map (·.2)++z.2::(z2.map (·.2)++w0.pd):=by simp
    have e':w0.nH ((z1++z::z2).map (·.2)++w0.pd) hl=w0.nH (z1.map (·.2)++z.2::(z2.map (·.2)++w0.pd)) hl2:=by
     unfold W0.nH
     congr 1
    rw[<- e'];exact hI
   have hl3:(z1.map (·.2)++(z2.map (·.2)++w0.pd)).Pairwise λa b=>∀g,a.e.g=some g->b.e.g≠some g :=
    hl2.sublist ((List.Sublist.refl _).append (List.sublist_cons_self _ _))
   have hcl:=claim (hl':=hl3) hI' k4 k5
   have hl4:((z1++z2).map (·.2)++w0.pd).Pairwise λa b=>∀g,a.e.g=some g->b.e.g≠some g:=by
    simpa only[dP,aX]using hl3
   have hcl':Inv Gl F (own++[z.2.e]) B (w0.nH ((z1++z2).map (·.2)++w0.pd) hl4) (St.put ⟨τ.t,τ.h++[z.2.ob]⟩ (some d) (v.at τ.h.length)) act w:=by
    have e':w0.nH ((z1++z2).map (·.2)++w0.pd) hl4=w0.nH (z1.map (·.2)++(z2.map (·.2)++w0.pd)) hl3:=by
     unfold W0.nH
     congr 1
     simp
    rw[e'];exact hcl
   have hin2:∀y∈z1++z2,y∈z1++z::z2:=λy hy=>by
    rcases aV.1 hy with s|s
    .exact aV.2 (.inl s)
    .exact aV.2 (.inr (j6 _ s))
   refine ih (z1++z2) _ _ hl4 (by simp at hlen ⊢;omega) ?_ (λa ha b hb=>hap a (hin2 a ha) b (hin2 b hb)) (λy hy=>?_) hstep hcl'
   .refine List.Nodup.sublist ?_ hnd
    simp only[dP,dn]
    exact(List.Sublist.refl _).append (List.sublist_cons_self _ _)
   .obtain⟨y1,y2,y3⟩:=hz y (hin2 y hy)
    refine⟨y1,y2,y3.put λs hs=>?_⟩
    cases hs
    have hne:=a4d y hy
    have hlt:z.1<y.1:=by have:=hmin y (hin2 y hy);omega
    exact(hap z hzm y (hin2 y hy) hlt).1 d k1
theorem Mx {lm:Bool} {ops:Array Oper} {L:List (Nat × Ins)} (hl:L.length=ops.size) (hc:∀ (j:Nat) (o:Oper),ops[j]?=some o->∃ p,L[j]?=some p/\qL P lm ops o=some p.2) (hd:Ev ops L=true) (hN:N<=w0.N) {Q:Exit->Act->World->Prop} {K:St->Prop} (hQ:∀ a w,nG Gl B w0 K a w->Q .normal a w)
  (ha:iD P Gl N U K L σ) (hI:Inv Gl F own B w0 σ act w):wpAny P .any ops Q ops.size (Array.replicate ops.size false) act w:=by
 obtain⟨d1,d2,d3,dm⟩:=MC hd
 generalize hn:ops.size=n at *
 have oP:∀i,i<n->∃o p,ops[i]?=some o/\L[i]?=some p/\qL P lm ops o=some p.2/\L.getD i default=p/\okM p:=λi hi=>by
  have ho:ops[i]?=some (ops[i]'(by omega)):=aD (by omega)
  obtain⟨ins,e1,e2⟩:=hc i _ ho
  exact⟨_,ins,ho,e1,e2,by simp[List.getD,e1],dm ins (bM e1)⟩
 have hok:∀i,i<n->okM (L.getD i default):=λi hi=>by
  obtain⟨_,p,_,_,_,e,h⟩:=oP i hi
  rw[e];exact h
 have ahead:∀(S:Nat->Bool),(∀i,i<n->S i=true->∀d∈direct ops i,S d=true)->∀i j,i<n->(∀d∈direct ops i,S d=true)->tb (Region.before ops) i j=true->j<i->S j=true:=by
  intro S hcl i
  induction i using Nat.strongRecOn with
  |_ i ih =>
   intro j hi pX ht hji
   rcases d2 i j hji hi ht with q|⟨d,hdm,r,q⟩
   .exact pX j q
   .have hdi:=d1 i d hi hdm
    exact ih d hdi j (by omega) (hcl d (by omega) (pX d hdm)) q r
 have mem_ready:∀(listed:Array Bool) (i:Nat),listed.size=n->i∈Region.ready .any ops listed->i<n/\listed.getD i false=false/\∀d∈direct ops i,listed.getD d false=true:=by
  intro listed i hsz hi
  unfold Region.ready at hi
  rw[iU,bO,hn]at hi
  obtain⟨h1,h2⟩:=hi
  rw[au]at h2
  have e0:listed.getD i false=listed.getD i true:=by
   have:i<listed.size:=by omega
   simp[Array.getD,this]
  refine⟨h1,by rw[e0];simpa using h2.1,λd hd=>?_⟩
  obtain⟨o,ins,ho,_⟩:=oP i h1
  have h3:=h2.2
  rw[ho]at h3
  simp only[bE,fT]at h3
  unfold direct at hd
  rw[ho]at hd
  simp only at hd
  obtain⟨e,he,hq⟩:=o9.1 hd
  have:=fM.1 h3 e (by simpa using he)
  split at hq
  .rename_i hb
   cases hq
   simpa[hb]using this
  .cases hq
 have xH:∀(listed:Array Bool) (i:Nat),listed.size=n->i<n->listed.getD i false=false->(∀j,j<i->listed.getD j false=true)->i∈Region.ready .any ops listed:=by
  intro listed i hsz hi h1 h2
  unfold Region.ready
  rw[iU,bO,hn]
  refine⟨hi,?_⟩
  have e0:listed.getD i false=listed.getD i true:=by
   have:i<listed.size:=by omega
   simp[Array.getD,this]
  rw[au]
  refine⟨by rw[<- e0,h1];rfl,?_⟩
  obtain⟨o,ins,ho,_⟩:=oP i hi
  rw[ho]
  simp only[bE,fT]
  refine fM.2 λe he=>?_
  cases hb:Region.binds .any e with
  |false=>rfl
  |true =>
   have hd:e.on∈direct ops i:=by
    unfold direct
    rw[ho]
    exact o9.2 ⟨e,by simpa using he,by simp[hb]⟩
   have:=h2 e.on (d1 i e.on hi hd)
   simpa using this
 have main:∀ (fuel:Nat) (listed:Array Bool) (zs:List (Nat × PdE)) (τ:St) (F:Addr->Option Value) (own:List Ent) (act:Act) (w:World) (hpl:(zs.map (·.2) ++ w0.pd).Pairwise fun a b=>∀ g,a.e.g=some g->b.e.g ≠ some g),listed.size=n->(∀ i,i < n->listed.getD i false=true->∀ d ∈ direct ops i,listed.getD d false=true) ->
   ((List.range n).countP λi=>!listed.getD i false)=fuel->(zs.map (·.1)).Nodup->(∀z∈zs,∀y∈zs,z.1<y.1->Apart (L.getD z.1 default) (L.getD y.1 default))->(∀z∈zs,z.1<n/\listed.getD z.1 false=true/\Ir Gl L τ z.1 z.2)->
   iD P Gl N U K (((List.range n).filter (lefts listed zs)).map λi=>L.getD i default) τ->
   Inv Gl F own B (w0.nH (zs.map (·.2)++w0.pd) hpl) τ act w->wpAny P .any ops Q fuel listed act w:=by
  intro fuel
  induction fuel with
  |zero =>
   intro listed zs τ F own act w hpl hsz hcl hcnt hnd hap hz hop hI
   have hall:∀i,i<n->listed.getD i false=true:=λi hi=>by
    have:=wF.1 hcnt i (bO.2 hi)
    simpa using this
   have hah:∀i j,i<n->listed.getD i false=true->tb (Region.before ops) i j=true->j<i->listed.getD j false=true:=λi j hi _ _ hj=>hall j (by omega)
   obtain⟨zs',τ',own',hl',g1,g2,g3,g4,g5,g6⟩:=greedy d3 hok hah hN zs.length zs τ own hpl rfl hnd hap hz hop hI
   have hnil:zs'=[]:=by
    cases zs' with
    |nil=>rfl
    |cons z zs' =>
     obtain⟨a,h1,_,h3⟩:=g6 z (by simp)
     have:=hall a (by have:=(g3 z (by simp)).1;omega)
     rw[h3]at this;cases this
   subst hnil
   refine⟨?_,hQ act w ⟨F,own',τ',g5,?_⟩⟩
   .apply qB.2
    intro i hi
    obtain⟨q1,q2,_⟩:=mem_ready listed i hsz hi
    rw[hall i q1]at q2
    cases q2
   .have:(List.range n).filter (lefts listed [])=[]:=List.filter_eq_nil_iff.2 λi hi=>by simp[lefts,hall i (bO.1 hi)]
    rw[this]at g4;exact g4
  |succ fuel ih =>
   intro listed zs τ F own act w hpl hsz hcl hcnt hnd hap hz hop hI
   refine⟨λhnil=>?_,λi hi=>?_⟩
   .obtain⟨i,h1,h2,h3⟩:=DI (n:=n) (S:=λi=>listed.getD i false) (by omega)
    have:=xH listed i hsz h1 h2 h3
    rw[hnil]at this
    simp at this
   .obtain⟨hin,hiS,pX⟩:=mem_ready listed i hsz hi
    have hah:∀i j,i<n->listed.getD i false=true->tb (Region.before ops) i j=true->j<i->listed.getD j false=true:=λi j hi hli ht hj=>ahead (λk=>listed.getD k false) hcl i j hi (hcl i hi hli) ht hj
    have a4q:∀j,tb (Region.before ops) i j=true->j<i->listed.getD j false=true:=λj ht hj=>ahead (λk=>listed.getD k false) hcl i j hin pX ht hj
    obtain⟨zs',τ',own',hl',g1,g2,g3,g4,g5,g6⟩:=greedy d3 hok hah hN zs.length zs τ own hpl rfl hnd hap hz hop hI
    clear hop hI hz hap hnd
    obtain⟨o,p,ho,hli,hci,hgd,hmp⟩:=oP i hin
    have hset:∀j,(listed.setIfInBounds i true).getD j false=if j=i then true else listed.getD j false:=λj=>by
     by_cases hji:j=i
     .subst hji
      have:j<listed.size:=by omega
      simp[Array.getD,this]
     .rw[if_neg hji]
      simp only[jR]
      rw[pJ (λe=>hji e.symm)]
    have WE:∀z∈zs',z.1≠i:=λz hz e=>by
     have:=(g3 z hz).2.1
     rw[e,hiS]at this;cases this
    have Yo:((List.range n).countP λj=>!(listed.setIfInBounds i true).getD j false)=fuel:=by
     have:=count_set (n:=n) (S:=λj=>listed.getD j false) (S':=λj=>(listed.setIfInBounds i true).getD j false) hin hiS (by simp only[hset];simp) (λj hj=>by simp only[hset,if_neg hj])
     omega
    have hcl':∀j,j<n->(listed.setIfInBounds i true).getD j false=true->∀d∈direct ops j,(listed.setIfInBounds i true).getD d false=true:=λj hj hS d hdj=>by
     rw[hset]at hS ⊢
     split
     .rfl
     .split at hS
      .rename_i hji;subst hji;exact pX d hdj
      .exact hcl j hj hS d hdj
    obtain⟨pre,post,e1,e2,e3⟩:=zF (p:=lefts listed zs') (q:=lefts (listed.setIfInBounds i true) zs') (i:=i) (List.range n) uF (bO.2 hin) (oZ.2 (.inl hiS)) (λj=>by
     unfold lefts
     rw[hset]
     split
     .rename_i hji
      subst hji
      have:(zs'.any λz=>z.1==j)=false:=by
       rw[List.any_eq_false]
       intro z hz
       simpa using WE z hz
      simp[this]
     .rfl)
    have hpre:∀j∈pre,j<n/\j<i/\(listed.getD j false=false\/∃z∈zs',z.1=j):=λj hj=>by
     have:j∈(List.range n).filter (lefts listed zs'):=by rw[e1];simp[hj]
     rw[iU,bO]at this
     exact⟨this.1,e3 j hj,oZ.1 this.2⟩
    have hcomp:∀j,j<n->∃(k:Nat) (o:Oper),ops[k]?=some o/\qL P lm ops o=some (L.getD j default).2:=λj hj=>by
     obtain⟨oj,pj,hoj,hlj,hcj,hgj,hmj⟩:=oP j hj
     exact⟨j,oj,hoj,by rw[hgj];exact hcj⟩
    have hcase:∀j∈pre,ko (L.getD j default) (L.getD i default)=false\/AO (L.getD j default) (L.getD i default)=true:=λj hj=>by
     obtain⟨hjn,hji,hjl⟩:=hpre j hj
     cases hq:ko (L.getD j default) (L.getD i default) with
     |false=>exact .inl rfl
     |true =>
      rcases d3 i j hji hin hq with r|⟨r,r2⟩
      .exact .inr r
      .exfalso
       rcases hjl with s|⟨z,hz,s⟩
       .have:=a4q j r hji
        rw[s]at this;cases this
       .subst s
        obtain⟨a,h1,h2,h3⟩:=g6 z hz
        have:=a4q a (r2 (g3 z hz).2.2.1 a h1 h2) (by omega)
        rw[h3]at this;cases this
    have QE:∀z∈zs',Apart (L.getD i default) (L.getD z.1 default)/\Apart (L.getD z.1 default) (L.getD i default):=λz hz=>by
     have sym:∀a b:Nat×Ins,Apart a b->(∀d,a.2.dst=some d->d∉a.2.looks)->Apart b a\/True:=λ_ _ _ _=>.inr trivial
     obtain⟨hzn,hzl,hzp⟩:=g3 z hz
     rcases oJ z.1 i with hlt|heq|hgt
     ·have hm:z.1 ∈ pre:=by
       have:z.1∈(List.range n).filter (lefts listed zs'):=iU.2 ⟨bO.2 hzn,oZ.2 (.inr ⟨z,hz,rfl⟩)⟩
       rw[e1]at this
       rcases aV.1 this with s|s
       .exact s
       .exfalso
        have hs:=List.pairwise_lt_range.sublist (List.filter_sublist (p:=lefts listed zs') (l:=List.range n))
        rw[e1,wo]at hs
        rcases bT.1 s with s|s
        .omega
        .have:=(iN.1 hs.2.1).1 z.1 s;omega
      have Cr:Apart (L.getD z.1 default) (L.getD i default):=by
       rcases hcase z.1 hm with s|s
       .exact yg s
       .unfold AO at s;simp only[au]at s;exact apart_spec s.1.2
      refine⟨⟨λd hd=>⟨λq=>?_,λq=>?_⟩,λd hd=>(Cr.1 d hd).1⟩,Cr⟩
      .exact Cr.2 d hd q
      .exact(Cr.1 d q).2 hd
     .exact absurd heq (WE z hz)
     ·have Cr:Apart (L.getD i default) (L.getD z.1 default):=by
       cases hq:ko (L.getD i default) (L.getD z.1 default) with
       |false=>exact yg hq
       |true =>
        rcases d3 z.1 i hgt hzn hq with s|⟨s,_⟩
        .unfold AO at s;simp only[au]at s;exact apart_spec s.1.2
        .have:=hah z.1 i hzn hzl s hgt
         rw[hiS]at this;cases this
      exact⟨Cr,⟨λd hd=>⟨λq=>Cr.2 d hd q,λq=>(Cr.1 d q).2 hd⟩,λd hd=>(Cr.1 d hd).1⟩⟩
    by_cases hgo:∀j∈pre,ko (L.getD j default) (L.getD i default)=false
    .rw[e1,dP,dn,hgd]at g4
     refine wpOp_mono ?_ (WR (lm:=lm) hmp ho hci (pre.map λi=>L.getD i default) (λa ha=>?_) g5 g4)
     .rintro a1 w1 ⟨F1,fQ,ρ,hI1,hk,v1,h1,rfl⟩
      refine ih (listed.setIfInBounds i true) zs' _ F1 fQ a1 w1 hl' (by simp[hsz]) hcl' Yo g1 g2 (λz hz=>?_) (by rw[e2,dP];exact hk) hI1
      obtain⟨q1,q2,q3⟩:=g3 z hz
      refine⟨q1,by rw[hset];split<;>first|rfl|exact q2,q3.put λs hs=>?_⟩
      have:=(QE z hz).1
      rw[hgd]at this
      exact this.1 s hs
     .obtain⟨j,hj,rfl⟩:=dW.1 ha
      obtain⟨hjn,hji,_⟩:=hpre j hj
      refine⟨hok j hjn,?_,hcomp j hjn⟩
      rw[<- hgd];exact hgo j hj
    ·obtain ⟨j0,hj0,hc0⟩:∃ j ∈ pre,ko (L.getD j default) (L.getD i default) ≠ false:=by
      apply kL
      intro hno
      exact hgo λj hj=>kL λq=>hno ⟨j,hj,q⟩
     have WB:AO (L.getD j0 default) (L.getD i default)=true:=(hcase j0 hj0).resolve_left hc0
     have hmay:xB p=true:=by
      unfold AO at WB
      simp only[au]at WB
      rw[<- hgd];exact WB.1.1
     obtain⟨b1,b2,b3,b4,d,b5,b6⟩:=Cg hmay
     have QG:∀a∈pre.map λi=>L.getD i default,okM a/\Apart a p/\∃(k:Nat) (o:Oper),ops[k]?=some o/\qL P lm ops o=some a.2:=λa ha=>by
      obtain⟨j,hj,rfl⟩:=dW.1 ha
      obtain⟨hjn,hji,_⟩:=hpre j hj
      refine⟨hok j hjn,?_,hcomp j hjn⟩
      rw[<- hgd]
      rcases hcase j hj with s|s
      .exact yg s
      .unfold AO at s;simp only[au]at s;exact apart_spec s.1.2
     have g4':=g4
     rw[e1,dP,dn,hgd]at g4'
     obtain⟨pr,v,ob,hmk,hpr⟩:=X4 hmay _ QG τ' F own' act w g5 g4'
     have hst:gV P Gl true τ' p.2 λρ=>ρ=St.put ⟨τ'.t,τ'.h++[ob]⟩ (some d) (v.at τ'.h.length):=by
      rw[CO b4]
      have e:vP Gl τ' p.2=some (pr,v.at τ'.h.length,τ'.h++[ob]):=by
       unfold vP
       rw[b2]
       exact Lx hmk
      exact⟨pr,v.at τ'.h.length,τ'.h++[ob],e,hpr,by rw[b5]⟩
     refine wpOp_mono ?_ (qp g5 hci hst Q ho)
     rintro a1 w1 ⟨F1,fQ,ρ,hI1,rfl⟩
     obtain⟨a9Q,a9P⟩:=SY hmk
     obtain⟨x,q,hpl',hqo,hI2,hR2⟩:=demote g5 a9Q a9P hI1
     have hop2:=Vf hmp b5 b6 (.v x) _ (λa ha=>⟨(QG a ha).1,(QG a ha).2.1⟩) τ' g4'
     have hl3:(((i,q)::zs').map (·.2)++w0.pd).Pairwise λa b=>∀g,a.e.g=some g->b.e.g≠some g:=hpl'
     refine ih (listed.setIfInBounds i true) ((i,q)::zs') (τ'.put (some d) (.v x)) F1 (fQ.take τ'.h.length) a1 w1 hl3 (by simp[hsz]) hcl' Yo ?_ ?_ ?_ ?_ hI2
     .simp only[dn,wu]
      refine⟨λq=>?_,g1⟩
      obtain⟨z,hz,e⟩:=dW.1 q
      exact WE z hz e
     .intro a ha b hb hab
      rcases bT.1 ha with rfl|ha<;>rcases bT.1 hb with rfl|hb
      .omega
      .exact(QE b hb).1
      .exact(QE a ha).2
      .exact g2 a ha b hb hab
     .intro z hz
      rcases bT.1 hz with rfl|hz
      .refine⟨hin,by rw[hset,if_pos rfl],by rw[hgd];exact hmay,d,v,pr,x,by rw[hgd];exact b5,?_,hpr,λa ha=>?_,λhd=>hR2 (by simpa[St.put]using hd)⟩
       .rw[hgd,hqo,<- hmk]
        refine Dp λs hs=>?_
        have:d≠s:=λq=>b6 (by rw[q];exact aV.2 (.inl hs))
        simp only[St.put,List.getD,aB this]
       .have ha':(τ'.t.set d (.v x))[d]?=some a:=ha
        rw[dY]at ha'
        simp only[if_true]at ha'
        split at ha'
        .cases ha';rfl
        .cases ha'
      .obtain⟨q1,q2,q3⟩:=g3 z hz
       refine⟨q1,by rw[hset];split<;>first|rfl|exact q2,?_⟩
       have:=q3.put (dst:=some d) (v':=.v x) (h1:=τ'.h) λs hs=>by
        cases hs
        have:=(QE z hz).1
        rw[hgd]at this
        exact this.1 d b5
       exact this
     ·have e4:(List.range n).filter (lefts (listed.setIfInBounds i true) ((i,q) :: zs'))=(List.range n).filter (lefts listed zs'):=by
       apply List.filter_congr
       intro j _
       unfold lefts
       rw[hset]
       split
       .rename_i hji;subst hji;simp[hiS]
       .rename_i hji
        have:(i==j)=false:=by simpa using λq=>hji q.symm
        simp[this]
      rw[e4,e1,dP,dn,hgd]
      exact hop2
 have hrep:∀i,(Array.replicate n false).getD i false=false:=λi=>by
  simp only[jR,tF]
  split<;>rfl
 refine main n (Array.replicate n false) [] σ F own act w w0.pdn (by simp) (λi _ h=>by rw[hrep]at h;cases h) ?_ kC (λz hz=>by cases hz) (λz hz=>by cases hz) ?_ hI
 .have:((List.range n).countP λi=>!(Array.replicate n false).getD i false)=(List.range n).length:=vH.2 λi _=>by rw[hrep];rfl
  rw[this];simp
 .have e1:(List.range n).filter (lefts (Array.replicate n false) [])=List.range n:=List.filter_eq_self.2 λi _=>by simp[lefts,hrep]
  have e2:(List.range n).map (λi=>L.getD i default)=L:=by
   apply gG
   intro j
   rw[aS]
   rcases aM j n with q|q
   .obtain⟨_,p,_,e,_,e',_⟩:=oP j q
    rw[wE q,e];simp only[bE,e']
   .rw[bg (by simpa using q),bg (by omega)];rfl
  rw[e1,e2];exact ha
theorem Inv.reN (h:Inv Gl F own B w0 σ act w) {n:Nat} (hn:n<=σ.h.length) (hf:∀ q ∈ w0.fr,q.1<=n):Inv Gl F own B ⟨w0.w,w0.F,n,w0.fr,hf,w0.pd,w0.pdn⟩ σ act w :=
  { tl:=h.tl,tr:=h.tr,defers:=h.defers,sub:=h.sub,hl:=h.hl,objs:=h.objs,inj:=h.inj,below:=h.below,base:=h.base,gl:=h.gl,gw:=h.gw,room:=h.room,ext:=h.ext,nC:=h.nC,nl:=hn,fr:=h.fr,pd:=h.pd }
theorem Inv.ofN {n:Nat} {hf:∀ q ∈ w0.fr,q.1<=n} (h:Inv Gl F own B ⟨w0.w,w0.F,n,w0.fr,hf,w0.pd,w0.pdn⟩ σ act w) (hn:w0.N<=n):Inv Gl F own B w0 σ act w :=
  { tl:=h.tl,tr:=h.tr,defers:=h.defers,sub:=h.sub,hl:=h.hl,objs:=h.objs,inj:=h.inj,below:=h.below,base:=h.base,gl:=h.gl,gw:=h.gw,room:=h.room,ext:=h.ext,nC:=h.nC,nl:=cZ hn h.nl,fr:=h.fr,pd:=h.pd }
end
end
end
end Abs
end Go.Proofs.YtgfnhpadmifiiaaDoor
