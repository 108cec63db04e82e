/- Merged and trimmed by a program: AbsM AbsN AbsO Abs7 Abs8 Abs9 AbsA AbsD AbsP AbsQ. -/
import Derived.Test.YtnhgeocdffhkjaaGreatDoorZVA
import Derived.MapKept
import Derived.ChangeKeysEq
set_option linter.unusedVariables false
set_option linter.unusedSimpArgs false
set_option linter.defProp false
namespace Go.Proofs.YtnhgeocdffhkjaaGreatDoor
namespace Abs
noncomputable section
section
open Go.RowKit
section
variable{Gl:Nat->Option (List AV)}{F:Addr->Option Value}{own:List Ent}{B:Nat}{w0:W0}{σ:St}{act:Act}{w:World}
theorem Inv.a1s(h:Inv Gl F own B w0 σ act w)(ty:Nat):Inv Gl F (own++[⟨some w.heap.size,0,0,0⟩]) B w0 ⟨σ.t,σ.h++[⟨ty,0,0,true,[]⟩]⟩ act (w.alloc (.map #[] 0)):=by
 have hnew:=heap_alloc_new w (.map #[] 0)
 refine h.turn (λ_ _ q=>q) (Le.snoc _ _) (λa x q=>?_) (by simp[h.hl]) (λid e o' p q=>?_) (λi j e e' g p q r s=>?_) (h.below.alloc (Nat.le_trans h.room h.below.size) _) (λid e g p q=>?_) (hpw:=λg hg _=>Below.heap_alloc _ _ _ hg) (hpo:=Ah λg q=>by cases q;exact Nat.le_refl _)
 .rw[World.cell?_alloc_lt _ _ _ (h.qK q)];exact h.sub a x q
 .rcases Nat.lt_or_ge id own.length with hid|hid
  .rw[List.getElem?_append_left hid]at p
   rw[List.getElem?_append_left (by rw[<- h.hl];exact hid)]at q
   have k:=h.objs id e o' p q
   exact k.mono (λ_ _ r=>r) (Le.snoc _ _) (λg hg=>Below.heap_alloc _ _ _ (k.lt hg)) (λg j hg hj=>k.fz hg hj)
  .rw[List.getElem?_append_right hid]at p
   rw[List.getElem?_append_right (by rw[<- h.hl];exact hid),<- h.hl]at q
   have h0:id-own.length=0:=by
    rcases Nat.eq_zero_or_pos (id-own.length) with h0|h0
    .exact h0
    .rw[List.getElem?_eq_none (by simp;omega)]at p;cases p
   rw[h0]at p q
   simp at p q
   subst p q
   refine .inr ⟨rfl,rfl,rfl,w.heap.size,rfl,#[],0,hnew,rfl,λi en x p q=>by simp at p,λj=>?_⟩
   rcases hF:F ⟨w.heap.size,j,none⟩with _|y
   .rfl
   .have:=h.qK hF;simp at this
 ·have key:∀ (i:Nat) (e:Ent),(own ++ [(⟨some w.heap.size,0,0,0⟩:Ent)])[i]?=some e->e.g=some g->(i < own.length/\own[i]?=some e/\g < w.heap.size)\/(i=own.length/\g=w.heap.size):=by
   intro i e p r
   rcases Nat.lt_or_ge i own.length with hid|hid
   .rw[List.getElem?_append_left hid]at p
    exact .inl ⟨hid,p,h.tN p r⟩
   .rw[List.getElem?_append_right hid]at p
    have h0:i-own.length=0:=by
     rcases Nat.eq_zero_or_pos (i-own.length) with h0|h0
     .exact h0
     .rw[List.getElem?_eq_none (by simp;omega)]at p;cases p
    rw[h0]at p
    simp at p
    subst p
    simp at r
    exact .inr ⟨by omega,r.symm⟩
  rcases key i e p r with⟨a1,a2,a3⟩|⟨a1,a2⟩<;>rcases key j e' q s with⟨b1,b2,b3⟩|⟨b1,b2⟩
  .exact h.inj i j e e' g a2 b2 r s
  .omega
  .omega
  .omega
 .rcases Nat.lt_or_ge id own.length with hid|hid
  .rw[List.getElem?_append_left hid]at p
   exact h.base id e g p q
  .rw[List.getElem?_append_right hid]at p
   have h0:id-own.length=0:=by
    rcases Nat.eq_zero_or_pos (id-own.length) with h0|h0
    .exact h0
    .rw[List.getElem?_eq_none (by simp;omega)]at p;cases p
   rw[h0]at p
   simp at p
   subst p
   simp at q
   subst q
   exact Nat.le_trans h.room h.below.size
theorem Inv.a0k (h:Inv Gl F own B w0 σ act w) {w':World} {id:Nat} {e:Ent} {ob ob':ah} {g:Nat} (he:own[id]?=some e) (hob:σ.h[id]?=some ob) (hg:e.g=some g) (h0:ob.sz=0) (hsz:ob'.sz=0) (hpr:ob'.pr=true)
  (hoth:∀k,k≠g->w'.heap[k]?=w.heap[k]?) (hblk:∃(es:Array MapEntry) (clock:Nat),w'.heap[g]?=some (.map es clock)/\es.size=ob'.es.length/\∀(i:Nat) (en:MapEntry) (x:AV),es[i]?=some en->ob'.es[i]?=some x->uo F en x)
  (h1:w'.os=w.os) (h2:w'.tape=w.tape) (h3:w'.output=w.output) (h4:w'.heap.size=w.heap.size):Inv Gl F own B w0 ⟨σ.t,σ.h.set id ob'⟩ act w':=by
 have lY:id<σ.h.length:=(List.getElem?_eq_some_iff.1 hob).1
 rcases h.objs id e ob he hob with⟨q,_⟩|⟨_,m1,m2,g',m3,es0,a9e,m4,m5,m6,m7⟩
 .omega
 rw[hg]at m3
 cases m3
 have hB:=h.base id e g he hg
 refine h.turn (λ_ _ q=>q) (Le.refl _) (λa x q=>?_) (by simp[h.hl]) (λk f o' p q=>?_) h.inj ?_ h.base (hpw:=λk _ hk=>hoth k λq=>hk id e he (by rw[hg,q]))
 .have hc:=h.sub a x q
  by_cases hab:a.block=g
  .exfalso
   unfold World.cell? at hc
   rw[hab,m4]at hc
   simp at hc
  .rw[World.cell?_of_block (w:=w) (hoth _ hab)];exact hc
 .have q':(σ.h.set id ob')[k]?=some o':=q
  by_cases hk:k=id
  .subst hk
   rw[he]at p
   cases p
   rw[List.getElem?_set_self lY]at q'
   cases q'
   obtain⟨es,clock,b1,b2,b3⟩:=hblk
   exact .inr ⟨hsz,m1,hpr,g,hg,es,clock,b1,b2,b3,m7⟩
  .rw[List.getElem?_set_ne (λe=>hk e.symm)]at q'
   have hO:=h.objs k f o' p q'
   refine hO.mono (λ_ _ r=>r) (Le.refl _) (λg' hg'=>hoth g' (λe'=>?_)) (λg' j hg' hj=>hO.fz hg' hj)
   subst e'
   exact hk (h.inj k id f e _ p he hg' hg)
 .exact⟨h1.trans h.below.os,h2.trans h.below.tape,h3.trans h.below.output,by rw[h4];exact h.below.size,λk hk=>by rw[hoth k (by omega)];exact h.below.block k hk⟩
end
def oN(k:IntKind)(n:Int):List MapEntry->Nat->Option (Nat×Value)
 |[],_=>none
 |e::es,i=>match e.key with
  |.int _ m=>if n=m then some (i,e.val) else oN k n es (i+1)
  |_=>none
theorem uX(k:IntKind)(n:Int):∀(es:List MapEntry) (i:Nat),(∀e∈es,∃m,e.key=.int k m)->Instr.findNow (.int k) (.int k n) es i=some (oN k n es i)
 |[],i,_=>rfl
 |e::es,i,h=>by
  obtain⟨m,hm⟩:=h e (by simp)
  have ih:=uX k n es (i+1) λe he=>h e (by simp[he])
  unfold Instr.findNow oN
  rw[hm]
  simp only[Instr.sameNow,if_true]
  by_cases hnm:n=m
  .subst hnm;simp
  .rw[if_neg hnm]
   have:(n==m)=false:=by simpa using hnm
   rw[this]
   exact ih
theorem nZ{P:Program}{kt:TypeId}{k:IntKind}(hk:P.underlying kt=some (.int k))(w:World)(b:Bool)(m:Nat)(n:Int):(Instr.checkKey b (m+1) kt (.int k n)).run P w=.ok () w:=by
 unfold Instr.checkKey
 simp[run_underlying hk]
theorem DI {P:Program} {t kt et:TypeId} {k:IntKind} (ht:P.underlying t=some (.map kt et)) (hk:P.underlying kt=some (.int k)) {w:World} {g:Nat} {es:Array MapEntry} {clock:Nat} (hb:w.heap[g]?=some (.map es clock)) (hkeys:∀ e ∈ es.toList,∃ m,e.key=.int k m) (n:Int) {ti:TypeInfo} {z:Value} (hi:P.info? et=some ti) (hz:ti.zero=some z) (ok:Bool) :
  (Instr.lookup t (.map (some g)) (.int k n) ok).run P w=.ok (match oN k n es.toList 0 with
   |some (_,v)=>(if ok then .tuple #[v,.bool true] else v)
   |none=>(if ok then .tuple #[z,.bool false] else z)) w:=by
 have hf:=uX k n es.toList 0 hkeys
 have hc:=nZ hk w es.isEmpty 9999 n
 have hc:(Instr.checkKey es.isEmpty 10000 kt (.int k n)).run P w=.ok () w:=hc
 have hg:(Sem.getObj g Sem.pure).run P w=.ok (.map es clock) w:=by
  show Sem.run P (.getObj g .pure) w=_
  simp only[Sem.run,hb]
 unfold Instr.lookup Instr.findKey
 simp only[getObj,run_underlying ht,Sem.run_bind,Result.andThen_ok,hg,Sem.run_pure,hc,run_underlying hk,hf]
 cases oN k n es.toList 0 with
 |none=>cases ok<;>simp[zeroValue,typeInfo,hi,hz]
 |some p=>cases ok<;>simp
theorem Kz(k:IntKind)(n:Int):∀(es:List MapEntry) (i j:Nat) (v:Value),(∀e∈es,∃m,e.key=.int k m)->oN k n es i=some (j,v)->i<=j/\∃e,es[j-i]?=some e/\e.key=.int k n/\e.val=v
 |[],i,j,v,_,h=>by cases h
 |e::es,i,j,v,hk,h=>by
  obtain⟨m,hm⟩:=hk e (by simp)
  unfold oN at h
  rw[hm]at h
  dsimp only at h
  split at h
  .rename_i hnm
   cases h
   exact⟨Nat.le_refl _,e,by simp,by rw[hm,hnm],rfl⟩
  .obtain⟨h1,e',h2,h3,h4⟩:=Kz k n es (i+1) j v (λe he=>hk e (by simp[he])) h
   refine⟨by omega,e',?_,h3,h4⟩
   rw[show j-i=(j-(i+1))+1 by omega,List.getElem?_cons_succ]
   exact h2
def a0l(k:IntKind)(n:Int)(v:Value)(es:Array MapEntry)(clock:Nat):Obj:=match oN k n es.toList 0 with
 |some (i,_)=>.map (es.modify i λe=>{ e with key:=.int k n,val:=v }) clock
 |none=>.map (es.push { key:=.int k n,val:=v,born:=clock }) (clock+1)
theorem K7 {P:Program} {t kt et:TypeId} {k:IntKind} (ht:P.underlying t=some (.map kt et)) (hk:P.underlying kt=some (.int k)) {w:World} {g:Nat} {es:Array MapEntry} {clock:Nat} (hb:w.heap[g]?=some (.map es clock)) (hkeys:∀ e ∈ es.toList,∃ m,e.key=.int k m) (n:Int) (v:Value) :
  (Instr.mapUpdate t (.map (some g)) (.int k n) v).run P w=.ok () { w with heap:=w.heap.setIfInBounds g (a0l k n v es clock) }:=by
 have hf:=uX k n es.toList 0 hkeys
 have hc:=nZ hk w false 9999 n
 have hc:(Instr.checkKey false 10000 kt (.int k n)).run P w=.ok () w:=hc
 have hg:(Sem.getObj g Sem.pure).run P w=.ok (.map es clock) w:=by
  show Sem.run P (.getObj g .pure) w=_
  simp only[Sem.run,hb]
 have hs:∀o:Obj,(setObj g o).run P w=.ok () { w with heap:=w.heap.setIfInBounds g o }:=λo=>by simp[setObj,Sem.run,hb]
 have hp:=Kz k n es.toList 0
 unfold Instr.mapUpdate Instr.findKey a0l
 simp only[getObj,run_underlying ht,Sem.run_bind,Result.andThen_ok,hg,Sem.run_pure,hc,run_underlying hk,hf]
 cases hq:oN k n es.toList 0 with
 |none=>simp only[Sem.run_pure,Result.andThen_ok,hs]
 |some p =>
  obtain⟨i,x⟩:=p
  obtain⟨_,e,h2,h3,_⟩:=hp i x hkeys hq
  rw[Nat.sub_zero]at h2
  have h2:es[i]?=some e:=by simpa using h2
  have hst:(Instr.keyThatStays (((es[i]?).map (·.key)).getD (.int k n)) (.int k n)).run P w=.ok (.int k n) w:=by
   rw[h2,Option.map_some,Option.getD_some,h3]
   unfold Instr.keyThatStays
   have:Instr.sameBits 10000 (.int k n) (.int k n)=true:=by unfold Instr.sameBits;simp
   rw[if_pos this];rfl
  simp only[Sem.run_pure,Result.andThen_ok,hst,hs,Sem.run_bind]
def oL(n:ByteArray):List MapEntry->Nat->Option (Nat×Value)
 |[],_=>none
 |e::es,i=>match e.key with
  |.string m=>if n=m then some (i,e.val) else oL n es (i+1)
  |_=>none
theorem uW(n:ByteArray):∀(es:List MapEntry) (i:Nat),(∀e∈es,∃m,e.key=.string m)->Instr.findNow .string (.string n) es i=some (oL n es i)
 |[],i,_=>rfl
 |e::es,i,h=>by
  obtain⟨m,hm⟩:=h e (by simp)
  have ih:=uW n es (i+1) λe he=>h e (by simp[he])
  unfold Instr.findNow oL
  rw[hm]
  simp only[Instr.sameNow,if_true]
  by_cases hnm:n=m
  .subst hnm;rw[(MapKept.bytes_beq n n).2 rfl,if_pos rfl]
  .rw[if_neg hnm]
   have:(n==m)=false:=Bool.eq_false_iff.2 λq=>hnm ((MapKept.bytes_beq n m).1 q)
   rw[this]
   exact ih
theorem tH{P:Program}{kt:TypeId}(hk:P.underlying kt=some .string)(w:World)(b:Bool)(m:Nat)(n:ByteArray):(Instr.checkKey b (m+1) kt (.string n)).run P w=.ok () w:=by
 unfold Instr.checkKey
 simp[run_underlying hk]
theorem DF {P:Program} {t kt et:TypeId} (ht:P.underlying t=some (.map kt et)) (hk:P.underlying kt=some .string) {w:World} {g:Nat} {es:Array MapEntry} {clock:Nat} (hb:w.heap[g]?=some (.map es clock)) (hkeys:∀ e ∈ es.toList,∃ m,e.key=.string m) (n:ByteArray) {ti:TypeInfo} {z:Value} (hi:P.info? et=some ti) (hz:ti.zero=some z) (ok:Bool) :
  (Instr.lookup t (.map (some g)) (.string n) ok).run P w=.ok (match oL n es.toList 0 with
   |some (_,v)=>(if ok then .tuple #[v,.bool true] else v)
   |none=>(if ok then .tuple #[z,.bool false] else z)) w:=by
 have hf:=uW n es.toList 0 hkeys
 have hc:=tH hk w es.isEmpty 9999 n
 have hc:(Instr.checkKey es.isEmpty 10000 kt (.string n)).run P w=.ok () w:=hc
 have hg:(Sem.getObj g Sem.pure).run P w=.ok (.map es clock) w:=by
  show Sem.run P (.getObj g .pure) w=_
  simp only[Sem.run,hb]
 unfold Instr.lookup Instr.findKey
 simp only[getObj,run_underlying ht,Sem.run_bind,Result.andThen_ok,hg,Sem.run_pure,hc,run_underlying hk,hf]
 cases oL n es.toList 0 with
 |none=>cases ok<;>simp[zeroValue,typeInfo,hi,hz]
 |some p=>cases ok<;>simp
theorem Ky(n:ByteArray):∀(es:List MapEntry) (i j:Nat) (v:Value),(∀e∈es,∃m,e.key=.string m)->oL n es i=some (j,v)->i<=j/\∃e,es[j-i]?=some e/\e.key=.string n/\e.val=v
 |[],i,j,v,_,h=>by cases h
 |e::es,i,j,v,hk,h=>by
  obtain⟨m,hm⟩:=hk e (by simp)
  unfold oL at h
  rw[hm]at h
  dsimp only at h
  split at h
  .rename_i hnm
   cases h
   exact⟨Nat.le_refl _,e,by simp,by rw[hm,hnm],rfl⟩
  .obtain⟨h1,e',h2,h3,h4⟩:=Ky n es (i+1) j v (λe he=>hk e (by simp[he])) h
   refine⟨by omega,e',?_,h3,h4⟩
   rw[show j-i=(j-(i+1))+1 by omega,List.getElem?_cons_succ]
   exact h2
def a0j(n:ByteArray)(v:Value)(es:Array MapEntry)(clock:Nat):Obj:=match oL n es.toList 0 with
 |some (i,_)=>.map (es.modify i λe=>{ e with key:=.string n,val:=v }) clock
 |none=>.map (es.push { key:=.string n,val:=v,born:=clock }) (clock+1)
theorem K6 {P:Program} {t kt et:TypeId} (ht:P.underlying t=some (.map kt et)) (hk:P.underlying kt=some .string) {w:World} {g:Nat} {es:Array MapEntry} {clock:Nat} (hb:w.heap[g]?=some (.map es clock)) (hkeys:∀ e ∈ es.toList,∃ m,e.key=.string m) (n:ByteArray) (v:Value) :
  (Instr.mapUpdate t (.map (some g)) (.string n) v).run P w=.ok () { w with heap:=w.heap.setIfInBounds g (a0j n v es clock) }:=by
 have hf:=uW n es.toList 0 hkeys
 have hc:=tH hk w false 9999 n
 have hc:(Instr.checkKey false 10000 kt (.string n)).run P w=.ok () w:=hc
 have hg:(Sem.getObj g Sem.pure).run P w=.ok (.map es clock) w:=by
  show Sem.run P (.getObj g .pure) w=_
  simp only[Sem.run,hb]
 have hs:∀o:Obj,(setObj g o).run P w=.ok () { w with heap:=w.heap.setIfInBounds g o }:=λo=>by simp[setObj,Sem.run,hb]
 have hp:=Ky n es.toList 0
 unfold Instr.mapUpdate Instr.findKey a0j
 simp only[getObj,run_underlying ht,Sem.run_bind,Result.andThen_ok,hg,Sem.run_pure,hc,run_underlying hk,hf]
 cases hq:oL n es.toList 0 with
 |none=>simp only[Sem.run_pure,Result.andThen_ok,hs]
 |some p =>
  obtain⟨i,x⟩:=p
  obtain⟨_,e,h2,h3,_⟩:=hp i x hkeys hq
  rw[Nat.sub_zero]at h2
  have h2:es[i]?=some e:=by simpa using h2
  have hst:(Instr.keyThatStays (((es[i]?).map (·.key)).getD (.string n)) (.string n)).run P w=.ok (.string n) w:=by
   rw[h2,Option.map_some,Option.getD_some,h3]
   unfold Instr.keyThatStays
   have:Instr.sameBits 10000 (.string n) (.string n)=true:=by unfold Instr.sameBits;exact(MapKept.bytes_beq n n).2 rfl
   rw[if_pos this];rfl
  simp only[Sem.run_pure,Result.andThen_ok,hst,hs,Sem.run_bind]
theorem run_makeMap{P:Program}{t kt et:TypeId}(ht:P.underlying t=some (.map kt et))(w:World):(Instr.makeMap t none).run P w=.ok (.map (some w.heap.size)) (w.alloc (.map #[] 0)):=by
 unfold Instr.makeMap
 simp[newObj,Sem.run]
theorem Ak{P:Program}{t kt et:TypeId}(ht:P.underlying t=some (.map kt et))(w:World)(k:IntKind)(n:Int):(Instr.makeMap t (some (.int k n))).run P w=.ok (.map (some w.heap.size)) (w.alloc (.map #[] 0)):=by
 unfold Instr.makeMap
 simp[newObj,Sem.run,run_underlying ht,asInt,asIntOf]
def cKT(P:Program)(t:TypeId):Option KT:=match P.underlying t with
 |some (.int k)=>some (.int k)
 |some .string=>some .str
 |some (.array n e)=>match P.underlying e,P.info? e with
  |some (.int k),some i=>if i.size=1/\n≠1/\n≠0 then some (.arr n k) else none
  |_,_=>none
 |_=>none
def o7(k:List AV):List MapEntry->Nat->Option (Nat×Value)
 |[],_=>none
 |e::es,i=>if kZ k (aW e.key).cells=true then some (i,e.val) else o7 k es (i+1)
def KT.is:KT->Value->Prop
 |.int k,x=>∃m,x=.int k m
 |.str,x=>∃m,x=.string m
 |.arr n k,x=>∃cs:Array Value,x=.agg cs/\cs.size=n/\∀y∈cs.toList,∃m,y=.int k m
theorem MR{k:IntKind}{y:Value}(h:okI k (.v y)=true):∃m,y=.int k m:=by
 unfold okI at h
 split at h
 .rename_i k' m hy;cases hy;exact⟨m,by rw[of_decide_eq_true h]⟩
 .cases h
theorem KT.ok_int{k:IntKind}{l:List AV}(h:(KT.int k).ok l=true):∃m,l=[.v (.int k m)]:=by
 cases l with
 |nil=>cases h
 |cons a l=>cases l with
  |nil =>
   have h:okI k a=true:=h
   cases a<;>first|(cases h;done)|skip
   rename_i x
   obtain⟨m,rfl⟩:=MR h
   exact⟨m,rfl⟩
  |cons b l=>cases h
theorem KT.IE{l:List AV}(h:KT.str.ok l=true):∃s,l=[.v (.string s)]:=by
 cases l with
 |nil=>cases h
 |cons a l=>cases l with
  |nil =>
   cases a<;>first|(cases h;done)|skip
   rename_i x
   cases x<;>first|(cases h;done)|exact⟨_,rfl⟩
  |cons b l =>
   exfalso
   cases a<;>first|(cases h;done)|skip
   rename_i x
   cases x<;>cases h
theorem KT.a4v{kt:KT}{x:Value}(h:kt.ok (aW x).cells=true)(h1:∀cs,x=.agg cs->cs.size≠1)(hn:∀n k,kt=.arr n k->n≠1):kt.is x:=by
 have agg:∀cs,x=.agg cs->(aW x).cells=cs.toList.map .v:=λcs q=>by rw[q,dM];rfl
 have one:(∀cs,x≠.agg cs)->(aW x).cells=[.v x]:=λq=>by cases x<;>first|rfl|exact absurd rfl (q _)
 by_cases ha:∃cs,x=.agg cs
 .obtain⟨cs,hcs⟩:=ha
  have hs:=h1 cs hcs
  rw[agg cs hcs]at h
  cases kt with
  |int k =>
   obtain⟨m,q⟩:=KT.ok_int h
   have:=congrArg List.length q
   simp at this;omega
  |str =>
   obtain⟨m,q⟩:=KT.IE h
   have:=congrArg List.length q
   simp at this;omega
  |arr n k =>
   simp only[KT.ok,Bool.and_eq_true,List.all_eq_true]at h
   refine⟨cs,hcs,by simpa using Nat.eq_of_beq_eq_true h.1,λy hy=>MR (h.2 (.v y) (List.mem_map.2 ⟨y,hy,rfl⟩))⟩
 .rw[one λcs q=>ha ⟨cs,q⟩]at h
  cases kt with
  |int k =>
   obtain⟨m,q⟩:=KT.ok_int h
   simp at q
   exact⟨m,q⟩
  |str =>
   obtain⟨s,q⟩:=KT.IE h
   simp at q
   exact⟨s,q⟩
  |arr n k =>
   exfalso
   simp only[KT.ok,Bool.and_eq_true]at h
   exact hn n k rfl (by have:=Nat.eq_of_beq_eq_true h.1;simpa using this.symm)
theorem Qy{F:Addr->Option Value}{own:List Ent}{x:Value}{a:AV}{kt:KT}(hn:∀n k,kt=.arr n k->n≠1)(h:R F own x a)(hk:kt.ok a.cells=true)(hf:∀cs,a=.agg cs->cs.length≠1):a=aW x/\kt.is x/\∀cs,x=.agg cs->cs.size≠1:=by
 have ZP:∀y,a.cells=[.v y]->a=.v y:=λy q=>by
  cases a with
  |agg cs=>have:=hf cs rfl;rw[show cs=[.v y] from q]at this;simp at this
  |v x=>simpa[AV.cells]using q
  |_=>simp[AV.cells]at q
 cases kt with
 |int k =>
  obtain⟨m,q⟩:=KT.ok_int hk
  have:=ZP _ q
  subst this
  have hx:=h.aH
  subst hx
  exact⟨rfl,⟨m,rfl⟩,λcs q=>by cases q⟩
 |str =>
  obtain⟨s,q⟩:=KT.IE hk
  have:=ZP _ q
  subst this
  have hx:=h.aH
  subst hx
  exact⟨rfl,⟨s,rfl⟩,λcs q=>by cases q⟩
 |arr n k =>
  simp only[KT.ok,Bool.and_eq_true,List.all_eq_true]at hk
  have hlen:=Nat.eq_of_beq_eq_true hk.1
  cases a with
  |agg cs =>
   obtain⟨xs,rfl,hl,h1,hR⟩:=h.bB
   have hn1:=hf cs rfl
   have hl':cs.length=n:=hlen
   have hall:∀(j:Nat) (x:Value) (c:AV),xs[j]?=some x->cs[j]?=some c->c=.v x/\∃m,x=.int k m:=by
    intro j x c p q
    have hc:=hk.2 c (List.mem_of_getElem? q)
    cases c<;>first|(cases hc;done)|skip
    rename_i y
    have:=(hR j x _ p q).aH
    subst this
    exact⟨rfl,MR hc⟩
   refine⟨?_,⟨xs,rfl,by omega,λy hy=>?_⟩,λcs' q=>by cases q;omega⟩
   .show AV.agg cs=AV.agg (xs.toList.map .v)
    congr 1
    apply List.ext_getElem?
    intro j
    rw[List.getElem?_map]
    rcases Nat.lt_or_ge j cs.length with hj|hj
    .have e1:cs[j]?=some cs[j]:=List.getElem?_eq_getElem hj
     have e2:xs[j]?=some (xs[j]'(by omega)):=Array.getElem?_eq_getElem (by omega)
     have:=(hall j _ _ e2 e1).1
     rw[e1,Array.getElem?_toList,e2,this];rfl
    .rw[List.getElem?_eq_none hj,List.getElem?_eq_none (by simp;omega)];rfl
   .obtain⟨j,hj⟩:=List.getElem?_of_mem hy
    have hj':xs[j]?=some y:=by simpa using hj
    have hjl:j<cs.length:=by rw[<- hl];exact(Array.getElem?_eq_some_iff.1 hj').1
    exact(hall j y cs[j] hj' (List.getElem?_eq_getElem hjl)).2
  |v x=>exfalso;exact hn n k rfl (by simpa[AV.cells]using hlen.symm)
  |_=>exfalso;exact hn n k rfl (by simpa[AV.cells]using hlen.symm)
theorem uo.key{F:Addr->Option Value}{en:MapEntry}{x:AV}{kt:KT}(hn:∀n k,kt=.arr n k->n≠1)(h:uo F en x)(hk:kt.uK x=true):kt.is en.key/\∃a,x=.agg ((aW en.key).cells++[a])/\(aW en.key).cells.length=kt.n/\en.val.oneCell'=true/\RP F en.val a:=by
 obtain⟨a,rfl,h1,h2,h3⟩:=h
 simp only[KT.uK,Bool.and_eq_true]at hk
 have hl:=Nat.eq_of_beq_eq_true hk.1
 have hl:(aW en.key).cells.length=kt.n:=by simpa using hl
 have ht:((aW en.key).cells++[a]).take kt.n=(aW en.key).cells:=by rw[<- hl,List.take_left'];rfl
 rw[ht]at hk
 exact⟨KT.a4v hk.2 h1 hn,a,rfl,hl,h2,h3⟩
def OD(F:Addr->Option Value):Option (Nat×Value)->Option (Nat×AV)->Prop
 |none,none=>True
 |some (i,v),some (j,a)=>i=j/\v.oneCell'=true/\RP F v a
 |_,_=>False
def xQ:KT->Value->List MapEntry->Nat->Option (Nat×Value)
 |.int k,.int _ n,es,i=>oN k n es i
 |.str,.string s,es,i=>oL s es i
 |.arr _ _,x,es,i=>o7 (aW x).cells es i
 |_,_,_,_=>none
theorem Va(k:IntKind)(n m:Int):kZ [.v (.int k n)] [.v (.int k m)]=decide (n=m):=by
 simp only[kZ,eqC,Bool.and_true]
 by_cases h:n=m<;>simp[h]
theorem toList_inj{a b:ByteArray}(h:a.toList=b.toList):a=b:=by
 rw[ByteArray.toList_eq,ByteArray.toList_eq]at h
 cases a;cases b;simp at h;rw[h]
theorem V8(n m:ByteArray):kZ [.v (.string n)] [.v (.string m)]=decide (n=m):=by
 simp only[kZ,eqC,Bool.and_true]
 by_cases h:n=m
 .simp[h]
 .rw[decide_eq_false h]
  exact Bool.eq_false_iff.2 λq=>h (toList_inj (by simpa using q))
theorem xP {F:Addr->Option Value} {kt:KT} (hn:∀ n k,kt=.arr n k->n ≠ 1) {x:Value} (hx:kt.is x):∀ (es:List MapEntry) (xs:List AV) (i:Nat),es.length=xs.length->(∀ (j:Nat) (en:MapEntry) (x:AV),es[j]?=some en->xs[j]?=some x->uo F en x)->xs.all kt.uK=true ->
  (∀e∈es,kt.is e.key)/\OD F (xQ kt x es i) (jE kt.n (aW x).cells xs i)
 |[],[],i,_,_,_=>⟨by simp,by cases kt<;>(first|(obtain⟨m,rfl⟩:=hx)|(obtain⟨m,rfl,_⟩:=hx))<;>trivial⟩
 |[],_::_,_,h,_,_=>by simp at h
 |_::_,[],_,h,_,_=>by simp at h
 |e::es,y::ys,i,hl,hR,ha=>by
  simp only[List.all_cons,Bool.and_eq_true]at ha
  have h0:=hR 0 e y rfl rfl
  obtain⟨k1,a,rfl,k2,k3,k4⟩:=h0.key hn ha.1
  obtain⟨m1,m2⟩:=xP hn hx es ys (i+1) (by simpa using hl) (λj en x p q=>hR (j+1) en x (by simpa using p) (by simpa using q)) ha.2
  refine⟨by simp only[List.mem_cons,forall_eq_or_imp];exact⟨k1,m1⟩,?_⟩
  have ht:((aW e.key).cells++[a]).take kt.n=(aW e.key).cells:=by rw[<- k2,List.take_left'];rfl
  have hg:((aW e.key).cells++[a]).getD kt.n .any=a:=by rw[<- k2];simp[List.getD]
  have fe:jE kt.n (aW x).cells (.agg ((aW e.key).cells++[a])::ys) i=if kZ (aW x).cells (aW e.key).cells=true then some (i,a) else jE kt.n (aW x).cells ys (i+1):=by
   conv=>lhs;unfold jE
   rw[ht,hg]
  rw[fe]
  cases kt with
  |int k =>
   obtain⟨n,rfl⟩:=hx
   obtain⟨m,hm⟩:=k1
   rw[show(aW e.key).cells=[.v (.int k m)]by rw[hm];rfl,show(aW (.int k n)).cells=[.v (.int k n)] from rfl,Va]
   show OD F (oN k n (e::es) i) _
   unfold oN
   rw[hm]
   dsimp only
   by_cases hnm:n=m
   .rw[if_pos hnm,decide_eq_true hnm,if_pos rfl];exact⟨rfl,k3,k4⟩
   .rw[if_neg hnm,decide_eq_false hnm,if_neg (by simp)];exact m2
  |str =>
   obtain⟨n,rfl⟩:=hx
   obtain⟨m,hm⟩:=k1
   rw[show(aW e.key).cells=[.v (.string m)]by rw[hm];rfl,show(aW (.string n)).cells=[.v (.string n)] from rfl,V8]
   show OD F (oL n (e::es) i) _
   unfold oL
   rw[hm]
   dsimp only
   by_cases hnm:n=m
   .rw[if_pos hnm,decide_eq_true hnm,if_pos rfl];exact⟨rfl,k3,k4⟩
   .rw[if_neg hnm,decide_eq_false hnm,if_neg (by simp)];exact m2
  |arr n k =>
   show OD F (o7 (aW x).cells (e::es) i) _
   unfold o7
   by_cases hq:kZ (aW x).cells (aW e.key).cells=true
   .rw[if_pos hq,if_pos hq];exact⟨rfl,k3,k4⟩
   .rw[if_neg hq,if_neg hq];exact m2
section
variable{P:Program}{w:World}
theorem QF{n:Nat}{k:IntKind}{x y:Value}(hx:(KT.arr n k).is x)(hy:(KT.arr n k).is y):kZ (aW x).cells (aW y).cells=true↔x=y:=by
 obtain⟨xs,rfl,hxl,hxi⟩:=hx
 obtain⟨ys,rfl,hyl,hyi⟩:=hy
 rw[dM,dM]
 have key:∀(l m:List Value),l.length=m.length->(∀y∈l,∃m,y=.int k m)->(∀y∈m,∃m,y=.int k m)->(kZ (l.map .v) (m.map .v)=true↔l=m):=by
  intro l
  induction l with
  |nil=>intro m h _ _;cases m with
   |nil=>simp[kZ]
   |cons=>simp at h
  |cons a l ih =>
   intro m h h1 h2
   cases m with
   |nil=>simp at h
   |cons b m =>
    obtain⟨a',rfl⟩:=h1 a (by simp)
    obtain⟨b',rfl⟩:=h2 b (by simp)
    have:=ih m (by simpa using h) (λy hy=>h1 y (by simp[hy])) (λy hy=>h2 y (by simp[hy]))
    simp only[List.map_cons,kZ,Bool.and_eq_true,this,eqC,List.cons.injEq,Value.int.injEq,true_and,beq_iff_eq]
 simp only[Value.cells]
 rw[key xs.toList ys.toList (by simp[hxl,hyl]) hxi hyi]
 constructor
 .intro h;rw[Array.toList_inj.1 h]
 .intro h;injection h with h;rw[h]
theorem tF{e:TypeId}{k:IntKind}(he:P.underlying e=some (.int k))(xs:Array Value){j:Nat}{v:Value}(hv:xs[j]?=some v):(part e xs j).run P w=.ok v w:=by
 unfold part isAgg
 simp only[Sem.run_bind,run_underlying he,Result.andThen_ok]
 simp[hv]
theorem MB {kt e:TypeId} {k:IntKind} {n:Nat} {i:TypeInfo} (ht:P.underlying kt=some (.array n e)) (he:P.underlying e=some (.int k)) (hi:P.info? e=some i) (h1:i.size=1) {x y:Value} (hx:(KT.arr n k).is x) (hy:(KT.arr n k).is y) :
  (Op.equal kt x y).run P w=.ok (kZ (aW x).cells (aW y).cells) w:=by
 obtain⟨xs,rfl,hxl,hxi⟩:=hx
 obtain⟨ys,rfl,hyl,hyi⟩:=hy
 have hc:P.cellsOf e=1:=by simp[Program.cellsOf,hi,h1]
 show(Op.equalIn (9999+1) kt (.agg xs) (.agg ys)).run P w=_
 rw[run_equalIn_array w 9999 xs ys ht hi,hc,List.range_eq_range',dM,dM]
 have key:∀m s,s+m=n->(Op.eqItems 9999 e 1 xs ys (List.range' s m)).run P w=.ok (kZ ((xs.toList.drop s).map .v) ((ys.toList.drop s).map .v)) w:=by
  intro m
  induction m with
  |zero =>
   intro s hs
   have e1:xs.toList.drop s=[]:=List.drop_eq_nil_of_le (by simp;omega)
   have e2:ys.toList.drop s=[]:=List.drop_eq_nil_of_le (by simp;omega)
   rw[e1,e2]
   rfl
  |succ m ih =>
   intro s hs
   have hx:xs.toList.drop s=xs[s]'(by omega)::xs.toList.drop (s+1):=by rw[List.drop_eq_getElem_cons (by simp;omega)];simp
   have hy:ys.toList.drop s=ys[s]'(by omega)::ys.toList.drop (s+1):=by rw[List.drop_eq_getElem_cons (by simp;omega)];simp
   have px:xs[s]?=some (xs[s]'(by omega)):=Array.getElem?_eq_getElem (by omega)
   have py:ys[s]?=some (ys[s]'(by omega)):=Array.getElem?_eq_getElem (by omega)
   obtain⟨a,ha⟩:=hxi (xs[s]'(by omega)) (by simp)
   obtain⟨b,hb⟩:=hyi (ys[s]'(by omega)) (by simp)
   rw[hx,hy,ha,hb]
   rw[ha]at px
   rw[hb]at py
   rw[List.range'_succ]
   unfold Op.eqItems
   rw[Nat.mul_one]
   simp only[Sem.run_bind,tF he xs px,tF he ys py,Result.andThen_ok]
   rw[show(9999:Nat)=9998+1 from rfl,Lg 9998 e k k a b he]
   simp only[Result.andThen_ok,List.map_cons,kZ,eqC]
   have ih:=ih (s+1) (by omega)
   cases hab:(a==b)
   .simp
   .simp only[Bool.not_true,Bool.false_eq_true,if_false,Bool.true_and];exact ih
 have:=key n 0 (by omega)
 simpa[Value.cells]using this
theorem tJ {kt e:TypeId} {k:IntKind} {n:Nat} {i:TypeInfo} (ht:P.underlying kt=some (.array n e)) (he:P.underlying e=some (.int k)) (hi:P.info? e=some i) (h1:i.size=1) {x:Value} (hx:(KT.arr n k).is x) (b:Bool) (m:Nat) :
  (Instr.checkKey b (m+2) kt x).run P w=.ok () w:=by
 obtain⟨xs,rfl,hxl,hxi⟩:=hx
 have hs:(sizeOf e).run P w=.ok 1 w:=by simp[sizeOf,typeInfo,hi,h1]
 unfold Instr.checkKey
 simp only[Sem.run_bind,run_underlying ht,Result.andThen_ok]
 simp only[Std.Legacy.Range.forIn_eq_forIn_range',Std.Legacy.Range.size,Nat.sub_zero,Nat.add_one_sub_one,Nat.div_one]
 have key:∀ m' s,s + m'=n->(forIn (List.range' s m') PUnit.unit fun j (_:PUnit)=>do
   let q <- sizeOf e
   let p <- part e xs (j*q)
   Instr.checkKey b (m+1) e p
   (Pure.pure (ForInStep.yield PUnit.unit):Sem _):Sem PUnit).run P w=.ok PUnit.unit w:=by
  intro m'
  induction m' with
  |zero=>intro s _;simp
  |succ m' ih =>
   intro s hs'
   have px:xs[s]?=some (xs[s]'(by omega)):=Array.getElem?_eq_getElem (by omega)
   obtain⟨a,ha⟩:=hxi (xs[s]'(by omega)) (by simp)
   rw[ha]at px
   rw[List.range'_succ]
   simp only[List.forIn_cons,Sem.run_bind,hs,Result.andThen_ok,Nat.mul_one,tF he xs px,nZ he w b m a,Sem.run_pure]
   exact ih (s+1) (by omega)
 have:=key n 0 (by omega)
 simp at this ⊢
 rw[this];rfl
def KTy(P:Program)(kt:TypeId):KT->Prop
 |.int k=>P.underlying kt=some (.int k)
 |.str=>P.underlying kt=some .string
 |.arr n k=>n≠1/\∃e i,P.underlying kt=some (.array n e)/\P.underlying e=some (.int k)/\P.info? e=some i/\i.size=1
theorem JI{kt:TypeId}{q:KT}(h:cKT P kt=some q):KTy P kt q:=by
 unfold cKT at h
 split at h
 .rename_i k hk;cases h;exact hk
 .rename_i hk;cases h;exact hk
 .rename_i n e hk
  split at h
  .rename_i k i h1 h2
   split at h
   .rename_i hc;cases h;exact⟨hc.2.1,e,i,hk,h1,h2,hc.1⟩
   .cases h
  .cases h
 .cases h
theorem KTy.n1{kt:TypeId}{q:KT}(h:KTy P kt q):∀n k,q=.arr n k->n≠1:=λn k e=>by subst e;exact h.1
theorem uz {kt e:TypeId} {k:IntKind} {n:Nat} {i:TypeInfo} (ht:P.underlying kt=some (.array n e)) (he:P.underlying e=some (.int k)) (hi:P.info? e=some i) (h1:i.size=1) {x:Value} (hx:(KT.arr n k).is x) (es:List MapEntry) (hes:∀ e ∈ es,(KT.arr n k).is e.key) :
  (Instr.findKey kt x es).run P w=.ok (o7 (aW x).cells es 0) w:=by
 have ask:∀(es:List MapEntry) (j:Nat),(∀e∈es,(KT.arr n k).is e.key)->(Instr.findAsking kt x es j).run P w=.ok (o7 (aW x).cells es j) w:=by
  intro es
  induction es with
  |nil=>intro j _;rfl
  |cons en es ih =>
   intro j h
   unfold Instr.findAsking o7
   simp only[Sem.run_bind,MB ht he hi h1 hx (h en (by simp)),Result.andThen_ok]
   split
   .rfl
   .exact ih (j+1) λe he=>h e (by simp[he])
 unfold Instr.findKey
 simp only[Sem.run_bind,run_underlying ht,Result.andThen_ok]
 cases es with
 |nil=>rfl
 |cons en es =>
  have:Instr.findNow (.array n e) x (en::es) 0=none:=by
   unfold Instr.findNow Instr.sameNow
   rfl
  rw[this]
  exact ask (en::es) 0 hes
theorem Mx {t kt et:TypeId} {q:KT} (ht:P.underlying t=some (.map kt et)) (hq:KTy P kt q) {g:Nat} {es:Array MapEntry} {clock:Nat} (hb:w.heap[g]?=some (.map es clock)) (hes:∀ e ∈ es.toList,q.is e.key) {x:Value} (hx:q.is x) {ti:TypeInfo} {z:Value} (hi:P.info? et=some ti) (hz:ti.zero=some z) (ok:Bool) :
  (Instr.lookup t (.map (some g)) x ok).run P w=.ok (match xQ q x es.toList 0 with
   |some (_,v)=>(if ok then .tuple #[v,.bool true] else v)
   |none=>(if ok then .tuple #[z,.bool false] else z)) w:=by
 cases q with
 |int k=>obtain⟨n,rfl⟩:=hx;exact DI ht hq hb hes n hi hz ok
 |str=>obtain⟨n,rfl⟩:=hx;exact DF ht hq hb hes n hi hz ok
 |arr n k =>
  obtain⟨hn,e,i,h1,h2,h3,h4⟩:=hq
  have hg:(Sem.getObj g Sem.pure).run P w=.ok (.map es clock) w:=by
   show Sem.run P (.getObj g .pure) w=_
   simp only[Sem.run,hb]
  have hc:(Instr.checkKey es.isEmpty 10000 kt x).run P w=.ok () w:=tJ h1 h2 h3 h4 hx es.isEmpty 9998
  have hf:=uz (w:=w) h1 h2 h3 h4 hx es.toList hes
  show _=Result.ok (match o7 (aW x).cells es.toList 0 with
   |some (_,v)=>(if ok then Value.tuple #[v,.bool true] else v)
   |none=>(if ok then Value.tuple #[z,.bool false] else z)) w
  unfold Instr.lookup
  simp only[getObj,run_underlying ht,Sem.run_bind,Result.andThen_ok,hg,Sem.run_pure,hc,hf]
  cases o7 (aW x).cells es.toList 0 with
  |none=>cases ok<;>simp[zeroValue,typeInfo,hi,hz]
  |some p=>cases ok<;>simp
def Ig(q:KT)(x v:Value)(es:Array MapEntry)(clock:Nat):Obj:=match xQ q x es.toList 0 with
 |some (i,_)=>.map (es.modify i λe=>{ e with key:=x,val:=v }) clock
 |none=>.map (es.push { key:=x,val:=v,born:=clock }) (clock+1)
theorem KA{n:Nat}{k:IntKind}{x:Value}(hx:(KT.arr n k).is x):∀(es:List MapEntry) (i j:Nat) (v:Value),(∀e∈es,(KT.arr n k).is e.key)->o7 (aW x).cells es i=some (j,v)->i<=j/\∃e,es[j-i]?=some e/\e.key=x/\e.val=v
 |[],i,j,v,_,h=>by cases h
 |e::es,i,j,v,hk,h=>by
  unfold o7 at h
  split at h
  .rename_i hq
   cases h
   exact⟨Nat.le_refl _,e,by simp,((QF hx (hk e (by simp))).1 hq).symm,rfl⟩
  .obtain⟨h1,e',h2,h3,h4⟩:=KA hx es (i+1) j v (λe he=>hk e (by simp[he])) h
   refine⟨by omega,e',?_,h3,h4⟩
   rw[show j-i=(j-(i+1))+1 by omega,List.getElem?_cons_succ]
   exact h2
theorem I5{n:Nat}{k:IntKind}{x:Value}(hx:(KT.arr n k).is x):Instr.sameBits 10000 x x=true:=by
 obtain⟨xs,rfl,_,hi⟩:=hx
 show Instr.sameBits (9999+1) (.agg xs) (.agg xs)=true
 unfold Instr.sameBits
 simp only[beq_self_eq_true,Bool.true_and,List.all_eq_true]
 intro p hp
 obtain⟨a,b⟩:=p
 have hab:a=b:=by
  have key:∀(l:List Value),(a,b)∈l.zip l->a=b:=by
   intro l
   induction l with
   |nil=>intro h;cases h
   |cons c l ih =>
    intro h
    simp only[List.zip_cons_cons,List.mem_cons,Prod.mk.injEq]at h
    rcases h with⟨rfl,rfl⟩|h
    .rfl
    .exact ih h
  exact key _ hp
 subst hab
 obtain⟨m,rfl⟩:=hi a (List.of_mem_zip hp).1
 unfold Instr.sameBits
 simp
theorem XK {t kt et:TypeId} {q:KT} (ht:P.underlying t=some (.map kt et)) (hq:KTy P kt q) {g:Nat} {es:Array MapEntry} {clock:Nat} (hb:w.heap[g]?=some (.map es clock)) (hes:∀ e ∈ es.toList,q.is e.key) {x:Value} (hx:q.is x) (v:Value) :
  (Instr.mapUpdate t (.map (some g)) x v).run P w=.ok () { w with heap:=w.heap.setIfInBounds g (Ig q x v es clock) }:=by
 cases q with
 |int k=>obtain⟨n,rfl⟩:=hx;exact K7 ht hq hb hes n v
 |str=>obtain⟨n,rfl⟩:=hx;exact K6 ht hq hb hes n v
 |arr n k =>
  obtain⟨hn,e,i,h1,h2,h3,h4⟩:=hq
  have hg:(Sem.getObj g Sem.pure).run P w=.ok (.map es clock) w:=by
   show Sem.run P (.getObj g .pure) w=_
   simp only[Sem.run,hb]
  have hs:∀o:Obj,(setObj g o).run P w=.ok () { w with heap:=w.heap.setIfInBounds g o }:=λo=>by simp[setObj,Sem.run,hb]
  have hc:(Instr.checkKey false 10000 kt x).run P w=.ok () w:=tJ h1 h2 h3 h4 hx false 9998
  have hf:=uz (w:=w) h1 h2 h3 h4 hx es.toList hes
  have hp:=KA hx es.toList 0
  show _=Result.ok () { w with heap:=w.heap.setIfInBounds g (match o7 (aW x).cells es.toList 0 with
   |some (i,_)=>.map (es.modify i λe=>{ e with key:=x,val:=v }) clock
   |none=>.map (es.push { key:=x,val:=v,born:=clock }) (clock+1)) }
  unfold Instr.mapUpdate
  simp only[getObj,run_underlying ht,Sem.run_bind,Result.andThen_ok,hg,Sem.run_pure,hc,hf]
  cases hq:o7 (aW x).cells es.toList 0 with
  |none=>simp only[Sem.run_pure,Result.andThen_ok,hs]
  |some p =>
   obtain⟨j,y⟩:=p
   obtain⟨_,e,k2,k3,_⟩:=hp j y hes hq
   rw[Nat.sub_zero]at k2
   have k2:es[j]?=some e:=by simpa using k2
   have hst:(Instr.keyThatStays (((es[j]?).map (·.key)).getD x) x).run P w=.ok x w:=by
    rw[k2,Option.map_some,Option.getD_some,k3]
    unfold Instr.keyThatStays
    rw[if_pos (I5 hx)];rfl
   simp only[Sem.run_pure,Result.andThen_ok,hst,hs,Sem.run_bind]
end
section
variable{P:Program}{Gl:Nat->Option (List AV)}{F:Addr->Option Value}{own:List Ent}{B:Nat}{w0:W0}{σ:St}{act:Act}{w:World}
theorem L6{a:AV}(h:O7 a=true):∀cs,a=.agg cs->cs.length≠1:=λcs e=>by
 subst e
 intro q
 have h:(!(Nat.beq cs.length 1))=true:=h
 rw[q]at h
 cases h
theorem Inv.Qu(h:Inv Gl F own B w0 σ act w){x:Value}{id:Nat}{ob:ah}(hR:R F own x (.mp id))(hob:σ.h[id]?=some ob):∃e g es clock,own[id]?=some e/\e.g=some g/\x=.map (some g)/\ob.sz=0/\ob.pr=true/\w.heap[g]?=some (.map es clock)/\es.size=ob.es.length/\∀(i:Nat) (en:MapEntry) (x:AV),es[i]?=some en->ob.es[i]?=some x->uo F en x:=by
 obtain⟨e,he,h0,g,hg,rfl⟩:=hR.vG
 rcases h.objs id e ob he hob with⟨h1,h2⟩|⟨h1,h2,h3,g',hg',es,clock,k1,k2,k3,k4⟩
 .have:=h2.2.1;omega
 .rw[hg]at hg';cases hg'
  exact⟨e,g,es,clock,he,hg,rfl,h1,h3,k1,k2,k3⟩
theorem a04 (h:Inv Gl F own B w0 σ act w) {o:Oper} {t kt et:TypeId} {hint:Option Operand} (ho:o.op=.makeMap t hint) (ht:P.underlying t=some (.map kt et))
  {p:Prop} {r:AV} {h':List ah} (hs:step Gl σ (.mmk t (hint.map ak))=some (p,r,h')) (hp:p):Ok1 P Gl B w0 σ act w o r h':=by
 have fin:∀v:Option Value,v=hint.map act.eval->(Instr.makeMap t v).run P w=.ok (.map (some w.heap.size)) (w.alloc (.map #[] 0))->Ok1 P Gl B w0 σ act w o (.mp σ.h.length) (σ.h++[⟨t,0,0,true,[]⟩]):=by
  intro v hv hrun
  refine⟨.value (.map (some w.heap.size)),.map (some w.heap.size),w.alloc (.map #[] 0),F,own++[⟨some w.heap.size,0,0,0⟩],?_,.inl rfl,h.a1s t,?_⟩
  .unfold execOp
   simp only[ho,<- hv,hrun,Sem.run_bind,Result.andThen_ok,Sem.run_pure]
  .rw[<- h.hl]
   exact .mp _ _ _ (List.getElem?_concat_length) rfl ⟨_,rfl,rfl⟩
 simp only[step]at hs
 cases hint with
 |none =>
  simp only[Option.map_none]at hs
  cases hs
  exact fin none rfl (run_makeMap ht w)
 |some x =>
  have hx:=h.ev x
  simp only[Option.map_some]at hs
  split at hs
  .rename_i q;cases q
  .rename_i k n hv
   cases hs
   injection hv with hv
   rw[hv]at hx
   exact fin (some (.int k n)) (by rw[Option.map_some,hx.aH]) (Ak ht w k n)
  .cases hs
theorem Y3 (h:Inv Gl F own B w0 σ act w) {o:Oper} {t kt et:TypeId} {x k:Operand} {ok:Bool} (ho:o.op=.lookup t x k ok) (ht:P.underlying t=some (.map kt et)) {q:KT} (hq:KTy P kt q) {ti:TypeInfo} {z:Value} (hi:P.info? et=some ti) (hz:ti.zero=some z)
  {p:Prop} {r:AV} {h':List ah} (hs:step Gl σ (.og q ok z (ak x) (ak k))=some (p,r,h')) (hp:p):Ok1 P Gl B w0 σ act w o r h':=by
 have hx:=h.ev x
 have hk:=h.ev k
 simp only[step]at hs
 split at hs
 .rename_i id hv
  rw[hv]at hx
  split at hs
  .rename_i ob hob
   split at hs
   .rename_i hc
    obtain⟨e,g,es,clock,he,hg,hxv,h0,hpr,hb,hsz,hE⟩:=h.Qu hx hob
    obtain⟨ka,kis,kag⟩:=Qy hq.n1 hk hc.2.1 (L6 hc.2.2.2)
    have hpos:=xP hq.n1 kis es.toList ob.es 0 (by simpa using hsz) (λj en x a b=>hE j en x (by simpa using a) b) hc.2.2.1
    have run:=Mx (w:=w) ht hq hb hpos.1 kis hi hz ok
    have hP:=hpos.2
    rw[<- ka]at hP
    have exe:∀v,(Instr.lookup t (.map (some g)) (act.eval k) ok).run P w=.ok v w->(execOp act.eval o).run P w=.ok (.value v) w:=λv hv=>by
     unfold execOp
     simp only[ho,hxv,hv,Sem.run_bind,Result.andThen_ok,Sem.run_pure]
    cases hf:jE q.n (σ.val Gl (ak k)).cells ob.es 0 with
    |none =>
     rw[hf]at hs hP
     cases hs
     cases hpk:xQ q (act.eval k) es.toList 0 with
     |some _=>rw[hpk]at hP;exact hP.elim
     |none =>
      rw[hpk]at run
      refine Ok1.mk h (exe _ run) ?_
      cases ok with
      |false=>exact .pure (.v z)
      | true=>exact .pure (.tup _ _ rfl fun j x a p q=>by
        match j with
        |0=>simp at p q;subst p q;exact .v _
        |1=>simp at p q;subst p q;exact .v _
        |j+2=>simp at p)
    |some f =>
     obtain⟨i,v⟩:=f
     rw[hf]at hs hP
     cases hs
     cases hpk:xQ q (act.eval k) es.toList 0 with
     |none=>rw[hpk]at hP;exact hP.elim
     |some pv =>
      obtain⟨j,y⟩:=pv
      rw[hpk]at run hP
      obtain⟨_,_,hRv⟩:=hP
      refine Ok1.mk h (exe _ run) ?_
      cases ok with
      |false=>exact .pure hRv
      | true=>exact .pure (.tup _ _ rfl fun j x a p q=>by
        match j with
        |0=>simp at p q;subst p q;exact hRv
        |1=>simp at p q;subst p q;exact .v _
        |j+2=>simp at p)
   .cases hs
  .cases hs
 .cases hs
theorem XP{q:KT}{x:Value}(hx:q.is x):∀(es:List MapEntry) (i:Nat) (j:Nat) (v:Value),xQ q x es i=some (j,v)->i<=j/\j<i+es.length:=by
 cases q with
 |int k =>
  obtain⟨n,rfl⟩:=hx
  intro es
  induction es with
  |nil=>intro i j v h;cases h
  |cons e es ih =>
   intro i j v h
   replace h:oN k n (e::es) i=some (j,v):=h
   unfold oN at h
   split at h
   .split at h
    .cases h;simp
    .have:=ih (i+1) j v h;simp;omega
   .cases h
 |str =>
  obtain⟨n,rfl⟩:=hx
  intro es
  induction es with
  |nil=>intro i j v h;cases h
  |cons e es ih =>
   intro i j v h
   replace h:oL n (e::es) i=some (j,v):=h
   unfold oL at h
   split at h
   .split at h
    .cases h;simp
    .have:=ih (i+1) j v h;simp;omega
   .cases h
 |arr m k =>
  intro es
  induction es with
  |nil=>intro i j v h;cases h
  |cons e es ih =>
   intro i j v h
   replace h:o7 (aW x).cells (e::es) i=some (j,v):=h
   unfold o7 at h
   split at h
   .cases h;simp
   .have:=ih (i+1) j v h;simp;omega
theorem KF (h:Inv Gl F own B w0 σ act w) {o:Oper} {t kt et:TypeId} {x k y:Operand} (ho:o.op=.mapUpdate t x k y\/o.op=.insert t x k y) (ht:P.underlying t=some (.map kt et)) {q:KT} (hq:KTy P kt q)
  {p:Prop} {r:AV} {h':List ah} (hs:step Gl σ (.mJ q (ak x) (ak k) (ak y))=some (p,r,h')) (hp:p):Ok1 P Gl B w0 σ act w o r h':=by
 have hx:=h.ev x
 have hk:=h.ev k
 have hy:=h.ev y
 simp only[step]at hs
 split at hs
 .rename_i id hv
  rw[hv]at hx
  split at hs
  .rename_i ob hob
   split at hs
   .rename_i hc
    obtain⟨e,g,es,clock,he,hg,hxv,h0,hpr,hb,hsz,hE⟩:=h.Qu hx hob
    obtain⟨ka,kis,kag⟩:=Qy hq.n1 hk hc.2.1 (L6 hc.2.2.2.2)
    have hpos:=xP hq.n1 kis es.toList ob.es 0 (by simpa using hsz) (λj en x a b=>hE j en x (by simpa using a) b) hc.2.2.1
    have run:=XK (w:=w) ht hq hb hpos.1 kis (act.eval y)
    obtain⟨y1,y2,y3⟩:=uq hy hc.2.2.2.1
    have y2:RP F (act.eval y) (σ.val Gl (ak y)):=by unfold RC at y2;rw[if_pos rfl]at y2;exact y2
    have hP:=hpos.2
    rw[<- ka]at hP
    have glt:g<w.heap.size:=h.tN he hg
    have exe:(execOp act.eval o).run P w=.ok .skip { w with heap:=w.heap.setIfInBounds g (Ig q (act.eval k) (act.eval y) es clock) }:=by
     unfold execOp
     rcases ho with ho|ho<;>simp only[ho,hxv,run,Sem.run_bind,Result.andThen_ok,Sem.run_pure]
    have newE:∀b:Nat,uo F { key:=act.eval k,val:=act.eval y,born:=b } (.agg ((σ.val Gl (ak k)).cells++[σ.val Gl (ak y)])):=λb=>⟨_,by rw[ka],kag,y1,y2⟩
    have fin:∀ob':ah,ob'.sz=0->ob'.pr=true->(∃(es':Array MapEntry) (clock':Nat),Ig q (act.eval k) (act.eval y) es clock=.map es' clock'/\es'.size=ob'.es.length/\∀(i:Nat) (en:MapEntry) (x:AV),es'[i]?=some en->ob'.es[i]?=some x->uo F en x)->Ok1 P Gl B w0 σ act w o .any (σ.h.set id ob'):=by
     intro ob' a1 a2 ⟨es',clock',a3,a4,a5⟩
     refine⟨_,undef,_,F,own,exe,.inr ⟨rfl,rfl⟩,h.a0k he hob hg h0 a1 a2 (λj hj=>?_) ⟨es',clock',?_,a4,a5⟩ rfl rfl rfl (by simp),.pure (.any _)⟩
     .rw[Array.getElem?_setIfInBounds,if_neg (Ne.symm hj)]
     .simp[Array.getElem?_setIfInBounds,glt,a3]
    cases hf:jE q.n (σ.val Gl (ak k)).cells ob.es 0 with
    |none =>
     rw[hf]at hs hP
     cases hs
     cases hpk:xQ q (act.eval k) es.toList 0 with
     |some _=>rw[hpk]at hP;exact hP.elim
     |none =>
      refine fin _ h0 rfl ⟨es.push { key:=act.eval k,val:=act.eval y,born:=clock },clock+1,?_,by simp[hsz],λi en x a b=>?_⟩
      .unfold Ig;rw[hpk]
      .rcases Nat.lt_trichotomy i es.size with hi|hi|hi
       .rw[Array.getElem?_push_lt hi]at a
        have b':ob.es[i]?=some x:=by rw[List.getElem?_append_left (by omega)]at b;exact b
        exact hE i en x (by rw[Array.getElem?_eq_getElem hi];exact a) b'
       .subst hi
        simp at a
        rw[hsz]at b
        simp at b
        subst a b
        exact newE clock
       .rw[Array.getElem?_eq_none (by simp;omega)]at a;cases a
    |some f =>
     obtain⟨i,v⟩:=f
     rw[hf]at hs hP
     cases hs
     cases hpk:xQ q (act.eval k) es.toList 0 with
     |none=>rw[hpk]at hP;exact hP.elim
     |some pv =>
      obtain⟨j,y'⟩:=pv
      rw[hpk]at hP
      obtain⟨hji,_,_⟩:=hP
      subst hji
      have hj:=XP kis es.toList 0 j y' hpk
      refine fin _ h0 rfl ⟨es.modify j λe=>{ e with key:=act.eval k,val:=act.eval y },clock,?_,by simp[hsz],λi en x a b=>?_⟩
      .unfold Ig;rw[hpk]
      .rw[Array.getElem?_modify]at a
       have b:(ob.es.set j (.agg ((σ.val Gl (ak k)).cells++[σ.val Gl (ak y)])))[i]?=some x:=b
       by_cases hji:j=i
       .subst hji
        rw[if_pos rfl]at a
        rw[List.getElem?_set_self (by simp at hj;omega)]at b
        cases b
        cases hen:es[j]? with
        |none=>rw[hen]at a;cases a
        |some en0=>rw[hen]at a;cases a;exact newE _
       .rw[if_neg hji]at a
        rw[List.getElem?_set_ne hji]at b
        exact hE i en x a b
   .cases hs
  .cases hs
 .cases hs
theorem a05 (h:Inv Gl F own B w0 σ act w) {o:Oper} {t et:TypeId} {x y:Operand} (ho:o.op=.makeSlice t x y) {i:TypeInfo} {z:Value} (ht:P.underlying t=some (.slice et)) (hi:P.info? et=some i) (hz:i.zero=some z) (hsz:z.cells.size=i.size) (h0:0 < i.size) (h1:z.cells.all (·.oneCell')=true)
  {p:Prop} {r:AV} {h':List ah} (hs:step Gl σ (.mk2 et i.size i.bytes z (ak x) (ak y))=some (p,r,h')) (hp:p):Ok1 P Gl B w0 σ act w o r h':=by
 have hex:=h.ev x
 have hey:=h.ev y
 simp only[step]at hs
 split at hs
 .rename_i l c hv hv2
  rw[hv]at hex
  rw[hv2]at hey
  obtain⟨rfl,h2⟩:=Prod.mk.inj (Option.some.inj hs)
  obtain⟨rfl,rfl⟩:=Prod.mk.inj h2
  obtain⟨p0,p1,p2,p3⟩:=hp
  have hb:(i.bytes:Int)*c<=281474976710656:=by
   rw[Int.mul_comm];unfold fu at p2;omega
  have run:=run_make (P:=P) w t et i z ht hi hz .i64 .i64 l c p0 p1 hb (by omega)
  have hel:∀(k:Nat) (y:AV),(List.replicate l.toNat (aW z))[k]?=some y->k<l.toNat/\y=aW z:=λk y hy=>by
   have hk:k<l.toNat:=by have:=(List.getElem?_eq_some_iff.1 hy).1;simpa using this
   simp[hk]at hy
   exact⟨hk,hy.symm⟩
  refine Ok1.new h (ob:=⟨et,i.size,0,true,List.replicate l.toNat (aW z)⟩) (cap:=c.toNat) (cs:=madeCells z.cells (c.toNat*i.size)) (x:=.slice (some ⟨w.heap.size,0,none⟩) l.toNat c.toNat) h0 rfl (by simp;omega) (by simp[maxLen];omega) ?_ (by simp[size_madeCells]) ?_ ?_ ?_
  .intro k y hy
   obtain⟨_,rfl⟩:=hel k y hy
   rw[dM];simpa using hsz
  .intro k j y a hy hb'
   obtain⟨hk,rfl⟩:=hel k y hy
   rw[dM]at hb'
   simp at hb'
   obtain⟨v,hv',rfl⟩:=hb'
   have hj:j<z.cells.size:=(Array.getElem?_eq_some_iff.1 hv').1
   have hlt:k*i.size+j<c.toNat*i.size:=by
    have:(k+1)*i.size<=c.toNat*i.size:=Nat.mul_le_mul_right _ (by omega)
    rw[Nat.add_mul]at this;omega
   have hmod:(k*i.size+j)%z.cells.size=j:=by
    rw[hsz,Nat.mul_comm,Nat.mul_add_mod]
    exact Nat.mod_eq_of_lt (by omega)
   refine⟨v,?_,Array.all_eq_true_iff_forall_mem.1 h1 v (Array.mem_of_getElem? hv'),RP.v v⟩
   simp only
   unfold madeCells
   rw[Array.getElem?_map,Array.getElem?_range,if_pos hlt]
   simp only[Option.map_some,hmod]
   rw[getElem!_pos z.cells j hj]
   rw[Array.getElem?_eq_getElem hj]at hv'
   exact hv'
  .unfold execOp
   simp only[ho,hex.aH,hey.aH]
   simp[run]
  .rw[<- h.hl]
   refine .row _ _ _ _ _ _ _ eZ (by simp) ⟨_,_,rfl,by omega,λ_=>rfl⟩ (λ_=>⟨rfl,by simp,λ_=>⟨c.toNat,by simp,?_⟩⟩) (by first|omega|assumption|(simp;done)|(simp;omega)|(dsimp only;omega))
   simp
 .cases hs
end
def Md:Value->Value->Bool
 |.int k a,.int k' b=>decide (k=k')&&decide (a=b)
 |.bool a,.bool b=>a==b
 |.string a,.string b=>decide (a.data.toList=b.data.toList)
 |.slice none 0 0,.slice none 0 0=>true
 |_,_=>false
theorem Tn{a b:Value}(h:Md a b=true):a=b:=by
 unfold Md at h
 split at h
 .simp at h;obtain⟨rfl,rfl⟩:=h;rfl
 .simp at h;rw[h]
 .rename_i x y
  have h:=of_decide_eq_true h
  obtain⟨⟨x⟩⟩:=x
  obtain⟨⟨y⟩⟩:=y
  simp only at h
  rw[h]
 .rfl
 .cases h
def BO:List Value->List Value->Bool
 |[],[]=>true
 |a::l,b::m=>Md a b&&BO l m
 |_,_=>false
theorem EN:∀{l m:List Value},BO l m=true->l=m
 |[],[],_=>rfl
 |[],_::_,h=>by cases h
 |_::_,[],h=>by cases h
 |a::l,b::m,h=>by
  rw[BO,Bool.and_eq_true]at h
  rw[Tn h.1,EN h.2]
def GH(P:Program):Nat->TypeId->TypeId
 |0,t=>t
 |k+1,t=>match P.underlying t with
  |some (.array _ e)=>GH P k e
  |_=>t
def a4x(P:Program)(t:TypeId):Bool:=match P.underlying t with
 |some (.array _ _)=>true
 |_=>false
def a1Q(P:Program)(t:TypeId):Bool:=match P.underlying (GH P 4 t) with
 |some (.pointer _)=>true
 |_=>false
def JJ(P:Program)(t:TypeId)(z:Value):Option I :=
 if(a4x P t&&!a1Q P t)=true then match(P.info? (GH P 4 t)).bind (·.zero) with
  |some b=>if BO z.cells.toList (sF b (z.cells.size/b.cells.size))=true/\z.cells.size/b.cells.size<=maxLen/\0<b.cells.size/\b.cells.all (·.oneCell')=true then some (.alloca t b.cells.size (z.cells.size/b.cells.size) b) else none
  |none=>none
 else if 0<z.cells.size/\z.cells.all (·.oneCell')=true then some (.alloc t z) else none
def Pq:Operand->Operand->Bool
 |.tmp a,.tmp b=>a==b
 |.const (.int .i64 a),.const (.int .i64 b)=>a==b
 |_,_=>false
def places(P:Program)(t:TypeId):Option (List (Nat×Nat)) :=
 match P.underlying t with
 |some (.struct fs)=>fs.toList.mapM λf=>(agT P f.type).map λa=>(f.offset,a.2)
 |some (.array n e)=>(agT P e).map λa=>(List.range n).map λi=>(i*a.2,a.2)
 |_=>none
def yK(pl:List (Nat×Nat)):List (Nat×Operand)->Option (List (Nat×Nat×Opd))
 |[]=>some []
 |(i,x)::r=>match pl[i]?,yK pl r with
  |some (o,s),some l=>some ((o,s,ak x)::l)
  |_,_=>none
def Jc:Operand->Bool
 |.const (.slice none 0 0)=>true
 |_=>false
theorem QG{y:Operand}(h:Jc y=true):y=.const (.slice none 0 0):=by
 unfold Jc at h
 split at h
 .rfl
 .cases h
def rY:BinOp->Option Bool
 |.eql=>some false
 |.neq=>some true
 |_=>none
theorem Av{op:BinOp}{neg:Bool}(h:rY op=some neg):op=(if neg then .neq else .eql):=by
 cases op<;>simp[rY]at h<;>subst h<;>rfl
def Vq(P:Program)(op:BinOp)(xt:TypeId)(x y:Operand):Option I :=
 match P.underlying xt with
 |some (.int _)=>some (.bin op (ak x) (ak y))
 |some .string=>some (.bin op (ak x) (ak y))
 |some .bool=>(rY op).map λneg=>.beq neg (ak x) (ak y)
 |some (.slice _)=>if Jc y then(rY op).map λneg=>.qy neg (ak x) else none
 |some (.struct fs)=>match qI P fs.toList with
  |some l=>if P.eqGuardType P.depth xt=false/\P.stoodInHeld xt=false then(rY op).map λneg=>.aeq neg l (ak x) (ak y) else none
  |none=>none
 |_=>none
def cLen(P:Program):List Operand->List TypeId->Option I
 |[x],[t]=>match P.underlying t with
  |some (.slice _)=>some (.len (ak x))
  |some .string=>some (.qd (ak x))
  |_=>none
 |_,_=>none
def Vr(P:Program):List Operand->List TypeId->Option I
 | [s,x],[t,t']=>if t=t' then match P.underlying t with
   |some (.slice et)=>match P.info? et with
    |some i=>match i.zero with
     |some z=>if z.cells.size=i.size/\0<i.size then some (.app et i.size i.bytes (ak s) (ak x)) else none
     |none=>none
    |none=>none
   |_=>none
  else match P.underlying t,P.underlying t' with
   |some (.slice et),some .string=>match P.info? et with
    |some i=>match i.zero with
     |some z=>if z.cells.size=i.size/\i.size=1 then some (.apps et i.bytes (ak s) (ak x)) else none
     |none=>none
    |none=>none
   |_,_=>none
 |_,_=>none
def Om(P:Program):List Operand->List TypeId->Option I
 |[d,s],[t,_]=>match P.underlying t with
  |some (.slice et)=>match P.info? et with
   |some i=>if 0<i.size then some (.copy i.size (ak d) (ak s)) else none
   |none=>none
  |_=>none
 |_,_=>none
def Eu(mx:Bool):List Operand->Option I
 |[x,y]=>some (if mx then .max2 (ak x) (ak y) else .min2 (ak x) (ak y))
 |_=>none
def Bc(P:Program)(b:Builtin)(as:List Operand)(ts:List TypeId):Option I :=
 match b with
 |.len=>cLen P as ts
 |.append=>Vr P as ts
 |.copy=>Om P as ts
 |.min=>Eu false as
 |.max=>Eu true as
 |_=>none
def a1P(P:Program)(t:TypeId):Bool:=match P.underlying t with
 |some (.pointer _)=>true
 |_=>false
def a4w(P:Program)(t:TypeId):Bool:=match P.underlying t with
 |some (.int _)=>true
 |some .bool=>true
 |some .string=>true
 |_=>false
def callable(P:Program)(f:FuncId):Bool:=match P.funcs[f]? with
 |some fn=>fn.body.isSome&&!(fn.name== "runtime.NumGoroutine")
 |none=>false
theorem rU{P:Program}{f:FuncId}(h:callable P f=true):∃fn,P.funcs[f]?=some fn/\fn.body.isSome=true/\(fn.name== "runtime.NumGoroutine")=false:=by
 unfold callable at h
 split at h
 .rename_i fn hfn
  rw[Bool.and_eq_true]at h
  exact⟨fn,hfn,h.1,by simpa using h.2⟩
 .cases h
def known(P:Program):Operand->Bool
 |.func f=>callable P f
 |_=>true
def Oo(P:Program)(c:Call):Option I :=
 match c.callee with
 |.builtin b=>Bc P b c.args.toList c.argTypes.toList
 |.value x=>if known P x=true then some (.call (ak x) (c.args.toList.map ak)) else none
 |_=>none
def a1T(P:Program)(t:TypeId):Option IntKind:=match P.underlying t with
 |some (.array n e)=>if Nat.ble 2 n=true then(match P.underlying e with|some (.int k)=>some k|_=>none) else none
 |_=>none
def cI(P:Program)(lm:Bool):Op->Option I
 |.move x=>some (.mov (ak x))
 |.assign x=>some (.mov (ak x))
 |.pick c a b=>some (.pick (ak c) (ak a) (ak b))
 |.binOp op xt x y _=>Vq P op xt x y
 |.unOp op _ x=>some (.un op (ak x))
 |.convert s d x=>match P.underlying s,P.underlying d with
  |some (.int _),some (.int k)=>some (.conv k (ak x))
  |some (.slice e),some .string=>match P.underlying e with
   |some (.int .u8)=>some (.b2s (ak x))
   |_=>none
  |some .string,some (.slice e)=>match P.underlying e with
   |some (.int .u8)=>some (.s2b e (ak x))
   |_=>none
  |_,_=>none
 |.field t x f=>match P.underlying t with
  |some (.struct fs)=>match fs[f]? with
   |some fd=>match agT P fd.type with
    |some (ag,sz)=>some (.fld fd.offset sz ag (ak x))
    |none=>none
   |none=>none
  |_=>none
 |.extract x i=>some (.ext i (ak x))
 |.nilCheck x=>some (.nck (ak x))
 |.fieldAddr t x f=>match P.underlying t with
  |some (.struct fs)=>match fs[f]? with
   |some fd=>match agT P fd.type with
    |some (_,sz)=>if sz≠0 then some (.nu fd.offset (ak x)) else none
    |none=>none
   |none=>none
  |_=>none
 |.indexAddr t x i=>match P.underlying t with
  |some (.slice et)=>match agT P et with
   |some (_,sz)=>some (.jD sz (ak x) (ak i))
   |none=>none
  |some (.array n et)=>match P.info? et,P.info? (GH P 4 et) with
   |some e,some b=>if e.size=e.size/b.size*b.size then some (.jf b.size (e.size/b.size) n (ak x) (ak i)) else none
   |_,_=>none
  |_=>none
 |.load t x=>match agT P t with
  |some (ag,sz)=>some (.load sz ag (ak x))
  |none=>none
 |.store t x y=>match agT P t with
  |some (_,sz)=>if 0<sz then some (.store sz (ak x) (ak y)) else none
  |none=>none
 |.slice t x lo hi none=>match P.underlying t with
  |some (.slice et)=>match agT P et with
   |some (_,sz)=>some (.slice sz (ak x) (lo.map ak) (hi.map ak))
   |none=>none
  |some .string=>some (.jw (ak x) (lo.map ak) (hi.map ak))
  |some (.array n et)=>match P.info? et with
   |some e=>if lm=true then(if e.size=1 then some (.om n (ak x) (lo.map ak) (hi.map ak)) else none) else some (.aslice e.size n (ak x) (lo.map ak) (hi.map ak))
   |none=>none
  |_=>none
 |.slice t x none (some hi) (some mx)=>match P.underlying t with
  |some (.slice et)=>match agT P et with
   |some (_,sz)=>some (.slice3 sz (ak x) (ak hi) (ak mx))
   |none=>none
  |_=>none
 |.index t x i=>match P.underlying t with
  |some .string=>some (.idx (ak x) (ak i))
  |some (.array n et)=>match agT P et with
   |some (ag,sz)=>some (.rV sz ag n (ak x) (ak i))
   |none=>none
  |_=>none
 |.makeFunc (.func f) first cs=>if first=#[] then some (.clo f (cs.toList.map ak)) else none
 |.box t x=>match agT P t with
  |some (_,sz)=>if 0<sz then(match a1T P t with|some k=>some (.vg t sz k (ak x))|none=>some (.box t sz (ak x))) else none
  |none=>none
 |.alloc t=>match P.info? t with
  |some i=>match i.zero with
   |some z=>JJ P t z
   |none=>none
  |none=>none
 | .makeSlice t l c=>if Pq l c then match P.underlying t with
   |some (.slice et)=>match P.info? et with
    |some i=>match i.zero with
     |some z=>if z.cells.size=i.size/\0<i.size/\z.cells.all (·.oneCell')=true then some (.mk et i.size i.bytes z (ak l)) else none
     |none=>none
    |none=>none
   |_=>none
  else match P.underlying t with
   |some (.slice et)=>match P.info? et with
    |some i=>match i.zero with
     |some z=>if z.cells.size=i.size/\0<i.size/\z.cells.all (·.oneCell')=true then some (.mk2 et i.size i.bytes z (ak l) (ak c)) else none
     |none=>none
    |none=>none
   |_=>none
 |.makeMap t hint=>match P.underlying t with
  |some (.map _ _)=>some (.mmk t (hint.map ak))
  |_=>none
 |.lookup t x k ok=>match P.underlying t with
  |some (.map kt et)=>match cKT P kt,P.info? et with
   |some q,some i=>match i.zero with
    |some z=>if z.oneCell'=true then some (.og q ok z (ak x) (ak k)) else none
    |none=>none
   |_,_=>none
  |_=>none
 |.mapUpdate t x k y=>match P.underlying t with
  |some (.map kt _)=>match cKT P kt with
   |some q=>some (.mJ q (ak x) (ak k) (ak y))
   |none=>none
  |_=>none
 |.insert t x k y=>match P.underlying t with
  |some (.map kt _)=>match cKT P kt with
   |some q=>some (.mJ q (ak x) (ak k) (ak y))
   |none=>none
  |_=>none
 |.buildSlice t n parts=>match P.underlying t with
  |some (.slice et)=>match P.info? et with
   |some i=>match i.zero with
    | some z=>if z.cells.size=i.size/\0 < i.size/\parts.toList.map (·.1)=List.range parts.size/\n=parts.size/\parts.size * i.size<=2 ^ 24 then
      (if lm then some (.sJ et i.size (parts.toList.map λp=>ak p.2)) else if a1P P et then(if i.size=1 then some (.uZ et (parts.toList.map λp=>ak p.2)) else none) else if a4w P et&&Nat.beq i.size 1 then some (.bsc et (parts.toList.map λp=>ak p.2)) else some (.gI et i.size (parts.toList.map λp=>ak p.2)))
     else none
    |none=>none
   |none=>none
  |_=>none
 |.build t parts=>match P.info? t with
  |some i=>match i.zero,places P t with
   |some (.agg z),some pl=>if z.toList.all (·.oneCell')=true then(yK pl parts.toList).map λqs=>.build z.toList qs else none
   |_,_=>none
  |none=>none
 |.call c=>Oo P c
 |_=>none
section
variable{P:Program}{Gl:Nat->Option (List AV)}{F:Addr->Option Value}{own:List Ent}{B:Nat}{w0:W0}{σ:St}{act:Act}{w:World}
theorem JH{pl:List (Nat×Nat)}:∀(ps:List (Nat×Operand)) (qs:List (Nat×Nat×Opd)),yK pl ps=some qs->ps.length=qs.length/\∀(k:Nat) (p:Nat×Operand) (q:Nat×Nat×Opd),ps[k]?=some p->qs[k]?=some q->pl[p.1]?=some (q.1,q.2.1)/\q.2.2=ak p.2:=by
 intro ps
 induction ps with
 |nil=>intro qs h;cases h;exact⟨rfl,λk p q a=>by simp at a⟩
 |cons p ps ih =>
  intro qs h
  obtain⟨i,x⟩:=p
  simp only[yK]at h
  split at h
  .rename_i o s l h1 h2
   cases h
   obtain⟨l1,l2⟩:=ih l h2
   refine⟨by simp[l1],λk p q a b=>?_⟩
   cases k with
   |zero=>simp at a b;subst a b;exact⟨h1,rfl⟩
   |succ k=>simp at a b;exact l2 k p q a b
  .cases h
theorem QO{p q:Nat->Option (Nat×Nat)}(h:∀i x,p i=some x->q i=some x):∀(l:List (Nat×Value)) (z ds:Array Value),Instr.fill p z l=some ds->Instr.fill q z l=some ds:=by
 intro l
 induction l with
 |nil=>intro z ds hf;exact hf
 |cons a l ih =>
  intro z ds hf
  obtain⟨i,v⟩:=a
  unfold Instr.fill at hf ⊢
  cases hp:p i with
  |none=>rw[hp]at hf;cases hf
  |some x =>
   rw[hp]at hf
   rw[h i x hp]
   obtain⟨off,size⟩:=x
   simp only at hf ⊢
   split at hf
   .cases hf
   .rename_i hc;rw[if_neg hc];exact ih _ _ hf
theorem run_places {t:TypeId} {ti:TypeInfo} {z:Array Value} (hti:P.info? t=some ti) (hz:ti.zero=some (.agg z)) {pl:List (Nat × Nat)} (hpl:places P t=some pl) (ps:Array (Nat × Value)) (ds:Array Value)
  (hf:Instr.fill (λi=>pl[i]?) z ps.toList=some ds):(Instr.build t ps).run P w=.ok (.agg ds) w:=by
 unfold places at hpl
 split at hpl
 .rename_i fs ht
  have key:∀(l:List Field) (pl:List (Nat×Nat)),(l.mapM λf=>(agT P f.type).map λa=>(f.offset,a.2))=some pl->(l.mapM (m:=Sem) λf=>do pure (f.offset,<- sizeOf f.type)).run P w=.ok pl w:=by
   intro l
   induction l with
   |nil=>intro pl h;cases h;rfl
   |cons f l ih =>
    intro pl h
    rw[List.mapM_cons]at h ⊢
    cases ha:agT P f.type with
    |none=>rw[ha]at h;cases h
    |some a =>
     rw[ha]at h
     simp only[Option.map_some,Option.pure_def,Option.bind_eq_bind,Option.bind_some]at h
     cases hl:(l.mapM λf=>(agT P f.type).map λa=>(f.offset,a.2)) with
     |none=>rw[hl]at h;cases h
     |some pl' =>
      rw[hl]at h
      cases h
      have:=ih pl' hl
      obtain⟨ag,sz⟩:=a
      simp only[Sem.run_bind,Result.andThen_ok,Sem.run_pure,(kC ha w).2,this]
  have hk:=key fs.toList pl hpl
  unfold Instr.build
  have e1:(fs.mapM (m:=Sem) λf=>do pure (f.offset,<- sizeOf f.type)).run P w=.ok pl.toArray w:=by
   rw[Array.mapM_eq_mapM_toList]
   simp only[Sem.run_map,hk,Result.andThen_ok]
  simp only[Sem.run_bind,zeroValue,typeInfo,run_program,Result.andThen_ok,hti,Sem.run_pure,hz,run_underlying ht,e1]
  have e2:(fun(i:Nat)=>(pl.toArray)[i]?)=λi=>pl[i]?:=by funext i;simp
  simp only[Value.cells,e2,hf]
  rfl
 .rename_i n e ht
  cases ha:agT P e with
  |none=>rw[ha]at hpl;cases hpl
  |some a =>
   obtain⟨ag,sz⟩:=a
   rw[ha]at hpl
   simp only[Option.map_some,Option.some.injEq]at hpl
   subst hpl
   have hf':Instr.fill (λi=>some (i*sz,sz)) z ps.toList=some ds:=QO (λi q hq=>by
    rw[List.getElem?_map]at hq
    cases hr:(List.range n)[i]? with
    |none=>rw[hr]at hq;cases hq
    |some k =>
     rw[hr]at hq
     have hk:k=i:=by
      have:=(List.getElem?_eq_some_iff.1 hr).2
      simpa using this.symm
     subst hk
     exact hq) _ _ _ hf
   unfold Instr.build
   simp only[Sem.run_bind,zeroValue,typeInfo,run_program,Result.andThen_ok,hti,Sem.run_pure,hz,run_underlying ht,(kC ha w).2]
   simp only[Value.cells,hf']
   rfl
 .cases hpl
theorem OG{α:Type}:∀(l:List (Nat×α)) (k:Nat),l.map (·.1)=List.range' k l.length->l=((l.map (·.2)).zipIdx k).map λp=>(p.2,p.1):=by
 intro l
 induction l with
 |nil=>intro k _;rfl
 |cons p l ih =>
  intro k h
  obtain⟨i,x⟩:=p
  simp only[List.map_cons,List.length_cons,List.range'_succ,List.cons.injEq]at h
  obtain⟨rfl,h2⟩:=h
  simp only[List.map_cons,List.zipIdx_cons,List.cons.injEq,true_and]
  exact ih (i+1) h2
theorem step_ok(h:Inv Gl F own B w0 σ act w){lm:Bool}{o:Oper}{i:I}(hc:cI P lm o.op=some i){p:Prop}{r:AV}{h':List ah}(hs:step Gl σ i=some (p,r,h'))(hp:p):Ok1 P Gl B w0 σ act w o r h':=by
 cases ho:o.op with
 |move x =>
  rw[ho]at hc;cases hc
  obtain⟨_,h2⟩:=Prod.mk.inj (Option.some.inj hs);obtain⟨rfl,rfl⟩:=Prod.mk.inj h2
  exact Qj h (.inl ho)
 |assign x =>
  rw[ho]at hc;cases hc
  obtain⟨_,h2⟩:=Prod.mk.inj (Option.some.inj hs);obtain⟨rfl,rfl⟩:=Prod.mk.inj h2
  exact Qj h (.inr ho)
 |pick c a b=>rw[ho]at hc;cases hc;exact Y1 h ho hs hp
 |binOp op xt x y yt =>
  rw[ho]at hc
  simp only[cI,Vq]at hc
  have bin:some (I.bin op (ak x) (ak y))=some i->Ok1 P Gl B w0 σ act w o r h':=by
   intro hc
   cases hc
   simp only[step]at hs
   split at hs
   .rename_i a b hx hy
    cases hb:lT op a b with
    |none=>rw[hb]at hs;cases hs
    |some q =>
     obtain⟨p',v⟩:=q
     rw[hb]at hs
     obtain⟨rfl,h2⟩:=Prod.mk.inj (Option.some.inj hs);obtain⟨rfl,rfl⟩:=Prod.mk.inj h2
     exact a1c h ho hx hy hb hp
   .cases hs
  split at hc
  .exact bin hc
  .exact bin hc
  .rename_i ht
   have key:∀neg,op=(if neg then .neq else .eql)->some (I.beq neg (ak x) (ak y))=some i->Ok1 P Gl B w0 σ act w o r h':=by
    intro neg hop hc
    cases hc
    simp only[step]at hs
    split at hs
    .rename_i a b hx hy
     obtain⟨_,h2⟩:=Prod.mk.inj (Option.some.inj hs);obtain⟨rfl,rfl⟩:=Prod.mk.inj h2
     exact a1d h (by rw[ho,hop]) ht hx hy
    .cases hs
   cases hn:rY op with
   |none=>rw[hn]at hc;cases hc
   |some neg=>rw[hn]at hc;exact key neg (Av hn) hc
  .rename_i et ht
   split at hc
   .rename_i hnil
    have hnil:=QG hnil
    cases hn:rY op with
    |none=>rw[hn]at hc;cases hc
    |some neg =>
     rw[hn]at hc
     cases hc
     exact Y2 (neg:=neg) h (by rw[ho,hnil,Av hn]) ht hs hp
   .cases hc
  .rename_i fs ht
   cases hl:qI P fs.toList with
   |none=>rw[hl]at hc;cases hc
   |some l =>
    rw[hl]at hc
    simp only at hc
    split at hc
    .rename_i hcond
     have key:∀neg,op=(if neg then .neq else .eql)->some (I.aeq neg l (ak x) (ak y))=some i->Ok1 P Gl B w0 σ act w o r h':=by
      intro neg hop hc
      cases hc
      simp only[step]at hs
      split at hs
      .rename_i a b hx hy
       cases hq:eqA a b l with
       |none=>rw[hq]at hs;cases hs
       |some q =>
        rw[hq]at hs
        obtain⟨_,h2⟩:=Prod.mk.inj (Option.some.inj hs);obtain⟨rfl,rfl⟩:=Prod.mk.inj h2
        exact a1g h (by rw[ho,hop]) ht hl hcond.1 hcond.2 hx hy hq
      .cases hs
     cases hn:rY op with
     |none=>rw[hn]at hc;cases hc
     |some neg=>rw[hn]at hc;exact key neg (Av hn) hc
    .cases hc
  .cases hc
 |unOp op xt x =>
  rw[ho]at hc;cases hc
  simp only[step]at hs
  split at hs
  .rename_i a hx
   cases hu:unV op a with
   |none=>rw[hu]at hs;cases hs
   |some v =>
    rw[hu]at hs
    obtain⟨_,h2⟩:=Prod.mk.inj (Option.some.inj hs);obtain⟨rfl,rfl⟩:=Prod.mk.inj h2
    exact a3X h ho hx hu
  .cases hs
 |convert s d x =>
  rw[ho]at hc
  simp only[cI]at hc
  split at hc
  .rename_i k1 k hs1 hd1
   cases hc
   simp only[step]at hs
   split at hs
   .rename_i k2 n hx
    obtain⟨_,h2⟩:=Prod.mk.inj (Option.some.inj hs);obtain⟨rfl,rfl⟩:=Prod.mk.inj h2
    exact Y7 h ho hs1 hd1 hx
   .cases hs
  .rename_i e hs1 hd1
   split at hc
   .rename_i he;cases hc;exact a1e h ho hs1 he hd1 hs hp
   .cases hc
  .rename_i e hs1 hd1
   split at hc
   .rename_i he;cases hc;exact a02 h ho hs1 hd1 he hs hp
   .cases hc
  .cases hc
 |field t x f =>
  rw[ho]at hc
  simp only[cI]at hc
  split at hc
  .rename_i fs ht
   split at hc
   .rename_i fd hf
    split at hc
    .rename_i ag sz ha;cases hc;exact a09 h ho ht hf ha hs hp
    .cases hc
   .cases hc
  .cases hc
 |extract x k=>rw[ho]at hc;cases hc;exact a1a h ho hs hp
 |nilCheck x=>rw[ho]at hc;cases hc;exact a03 h ho hs hp
 |fieldAddr t x f =>
  rw[ho]at hc
  simp only[cI]at hc
  split at hc
  .rename_i fs ht
   split at hc
   .rename_i fd hf
    split at hc
    .rename_i ag sz ha
     split at hc
     .rename_i h0;cases hc;exact Ud h ho ht hf ha h0 hs hp
     .cases hc
    .cases hc
   .cases hc
  .cases hc
 |indexAddr t x k =>
  rw[ho]at hc
  simp only[cI]at hc
  split at hc
  .rename_i et ht
   split at hc
   .rename_i ag sz ha;cases hc;exact Uc h ho ht ha hs hp
   .cases hc
  .rename_i n et ht
   split at hc
   .rename_i e b he hb
    split at hc
    .rename_i hsz;cases hc;exact Uh h ho ht he hsz hs hp
    .cases hc
   .cases hc
  .cases hc
 |load t x =>
  rw[ho]at hc
  simp only[cI]at hc
  split at hc
  .rename_i ag sz ha;cases hc;exact Y4 h ho ha hs hp
  .cases hc
 |store t x y =>
  rw[ho]at hc
  simp only[cI]at hc
  split at hc
  .rename_i ag sz ha
   split at hc
   .rename_i h0;cases hc;exact Ub h ho ha h0 hs hp
   .cases hc
  .cases hc
 |slice t x lo hi mx =>
  rw[ho]at hc
  cases mx with
  |some m =>
   cases lo with
   |some l=>cases hi<;>cases hc
   |none =>
    cases hi with
    |none=>cases hc
    |some y =>
     simp only[cI]at hc
     split at hc
     .rename_i et ht
      split at hc
      .rename_i ag sz ha;cases hc;exact Qi h ho ht ha hs hp
      .cases hc
     .cases hc
  |none =>
   simp only[cI]at hc
   split at hc
   .rename_i et ht
    split at hc
    .rename_i ag sz ha;cases hc;exact ok_slice h ho ht ha hs hp
    .cases hc
   .rename_i ht;cases hc;exact Qh h ho ht hs hp
   .rename_i n et ht
    split at hc
    .rename_i e he
     split at hc
     .split at hc
      .rename_i h1;cases hc;exact KH h ho ht he h1 hs hp
      .cases hc
     .cases hc;exact Ql h ho ht he rfl hs hp
    .cases hc
   .cases hc
 |index t x k =>
  rw[ho]at hc
  simp only[cI]at hc
  split at hc
  .rename_i ht;cases hc;exact a08 h ho ht hs hp
  .rename_i n et ht
   split at hc
   .rename_i ag sz ha;cases hc;exact Yb h ho ht ha hs hp
   .cases hc
  .cases hc
 |makeFunc fn first cs =>
  rw[ho]at hc
  cases fn with
  |func f =>
   simp only[cI]at hc
   split at hc
   .rename_i q;subst q;cases hc;exact a1b h ho hs hp
   .cases hc
  |_=>cases hc
 |box t x =>
  rw[ho]at hc
  simp only[cI]at hc
  split at hc
  .rename_i ag sz ha
   split at hc
   .rename_i h0
    split at hc
    .cases hc;exact Y9 h ho h0 hs hp
    .cases hc;exact Qk h ho h0 hs hp
   .cases hc
  .cases hc
 |alloc t =>
  rw[ho]at hc
  simp only[cI]at hc
  split at hc
  .rename_i ti hi
   split at hc
   .rename_i z hz
    unfold JJ at hc
    split at hc
    .split at hc
     .rename_i b hb
      split at hc
      .rename_i hcond
       cases hc
       obtain⟨_,h2⟩:=Prod.mk.inj (Option.some.inj hs);obtain⟨rfl,rfl⟩:=Prod.mk.inj h2
       exact Qm h ho hi hz (EN hcond.1) hcond.2.1 hcond.2.2.1 hcond.2.2.2
      .cases hc
     .cases hc
    .split at hc
     .rename_i hcond
      cases hc
      obtain⟨_,h2⟩:=Prod.mk.inj (Option.some.inj hs);obtain⟨rfl,rfl⟩:=Prod.mk.inj h2
      exact Ug h ho hi hz hcond.1 hcond.2
     .cases hc
   .cases hc
  .cases hc
 |makeSlice t l c =>
  rw[ho]at hc
  simp only[cI]at hc
  split at hc
  .rename_i hsame
   split at hc
   .rename_i et ht
    split at hc
    .rename_i ti hi
     split at hc
     .rename_i z hz
      split at hc
      .rename_i hcond
       cases hc
       have hlc:l=c:=by
        unfold Pq at hsame
        split at hsame
        .simp at hsame;rw[hsame]
        .simp at hsame;rw[hsame]
        .cases hsame
       subst hlc
       exact a3Y h ho ht hi hz hcond.1 hcond.2.1 hcond.2.2 hs hp
      .cases hc
     .cases hc
    .cases hc
   .cases hc
  .split at hc
   .rename_i et ht
    split at hc
    .rename_i ti hi
     split at hc
     .rename_i z hz
      split at hc
      .rename_i hcond
       cases hc
       exact a05 h ho ht hi hz hcond.1 hcond.2.1 hcond.2.2 hs hp
      .cases hc
     .cases hc
    .cases hc
   .cases hc
 |makeMap t hint =>
  rw[ho]at hc
  simp only[cI]at hc
  split at hc
  .rename_i ht;cases hc;exact a04 h ho ht hs hp
  .cases hc
 |lookup t x k ok =>
  rw[ho]at hc
  simp only[cI]at hc
  split at hc
  .rename_i kt et ht
   split at hc
   .rename_i q i hq hi
    split at hc
    .rename_i z hz
     split at hc
     .cases hc;exact Y3 h ho ht (JI hq) hi hz hs hp
     .cases hc
    .cases hc
   .cases hc
  .cases hc
 |mapUpdate t x k y =>
  rw[ho]at hc
  simp only[cI]at hc
  split at hc
  .rename_i kt et ht
   split at hc
   .rename_i q hq;cases hc;exact KF h (.inl ho) ht (JI hq) hs hp
   .cases hc
  .cases hc
 |insert t x k y =>
  rw[ho]at hc
  simp only[cI]at hc
  split at hc
  .rename_i kt et ht
   split at hc
   .rename_i q hq;cases hc;exact KF h (.inr ho) ht (JI hq) hs hp
   .cases hc
  .cases hc
 |buildSlice t n parts =>
  rw[ho]at hc
  simp only[cI]at hc
  split at hc
  .rename_i et ht
   split at hc
   .rename_i ti hi
    split at hc
    .rename_i z hz
     split at hc
     .rename_i hcond
      obtain⟨c1,c2,c3,c4,c5⟩:=hcond
      have hps:parts.toList=(parts.toList.map (·.2)).zipIdx.map λp=>(p.2,p.1):=OG parts.toList 0 (by rw[c3,List.range_eq_range'];simp)
      have hm:(parts.toList.map λp=>ak p.2)=(parts.toList.map (·.2)).map ak:=by simp
      cases lm with
      |true =>
       simp only[if_true]at hc
       cases hc
       rw[hm]at hs
       exact Uf h ho ht hi hz c1 c2 hps (by simp[c4]) (by simpa using c5) hs hp
      |false =>
       simp only[Bool.false_eq_true,if_false]at hc
       split at hc
       .split at hc
        .rename_i h1
         cases hc
         rw[hm]at hs
         exact Y8 h ho ht hi hz c1 h1 hps (by simp[c4]) (by simpa using c5) hs hp
        .cases hc
       split at hc
       .rename_i hsc
        cases hc
        rw[hm]at hs
        simp only[Bool.and_eq_true]at hsc
        have h1:ti.size=1:=Nat.eq_of_beq_eq_true hsc.2
        have hs':=Sy hs
        rw[<- h1]at hs'
        exact EU h ho ht hi hz c1 c2 hps (by simp[c4]) (by simpa using c5) hs' hp
       cases hc
       rw[hm]at hs
       exact EU h ho ht hi hz c1 c2 hps (by simp[c4]) (by simpa using c5) hs hp
     .cases hc
    .cases hc
   .cases hc
  .cases hc
 |build t parts =>
  rw[ho]at hc
  simp only[cI]at hc
  split at hc
  .rename_i ti hi
   split at hc
   .rename_i z pl hz hpl
    split at hc
    .rename_i h1
     cases hq:yK pl parts.toList with
     |none=>rw[hq]at hc;cases hc
     |some qs =>
      rw[hq]at hc
      cases hc
      obtain⟨l1,l2⟩:=JH parts.toList qs hq
      exact Ue h ho hi hz h1 (place:=λi=>pl[i]?) (λps ds hf=>run_places hi hz hpl ps ds hf) l1 l2 hs hp
    .cases hc
   .cases hc
  .cases hc
 |call c =>
  rw[ho]at hc
  obtain⟨callee,⟨args⟩,⟨tys⟩⟩:=c
  simp only[cI,Oo]at hc
  split at hc
  .rename_i b
   simp only[Bc]at hc
   split at hc
   .unfold cLen at hc
    split at hc
    .rename_i x t
     split at hc
     .rename_i et ht;cases hc;exact a07 h ho ht hs hp
     .rename_i ht;cases hc;exact Y0 h ho ht hs hp
     .cases hc
    .cases hc
   .unfold Vr at hc
    split at hc
    .rename_i s x t t'
     split at hc
     .rename_i htt
      subst htt
      split at hc
      .rename_i et ht
       split at hc
       .rename_i ti hi
        split at hc
        .rename_i z hz
         split at hc
         .rename_i hcond;cases hc;exact a1f h ho ht hi hz hcond.1 hcond.2 hs hp
         .cases hc
        .cases hc
       .cases hc
      .cases hc
     .split at hc
      .rename_i et ht hu
       split at hc
       .rename_i ti hi
        split at hc
        .rename_i z hz
         split at hc
         .rename_i hcond;cases hc;exact Ya h ho ht hu hi hz hcond.1 hcond.2 hs hp
         .cases hc
        .cases hc
       .cases hc
      .cases hc
    .cases hc
   .unfold Om at hc
    split at hc
    .split at hc
     .rename_i ht
      split at hc
      .rename_i hi
       split at hc
       .rename_i h0;cases hc;exact Y6 h ho ht hi h0 hs hp
       .cases hc
      .cases hc
     .cases hc
    .cases hc
   .unfold Eu at hc
    split at hc
    .rename_i x y;cases hc;exact ET (mx:=false) h ho hs hp
    .cases hc
   .unfold Eu at hc
    split at hc
    .rename_i x y;cases hc;exact ET (mx:=true) h ho hs hp
    .cases hc
   .cases hc
  .rename_i f
   split at hc
   .cases hc;cases hs
   .cases hc
  .cases hc
 |_=>rw[ho]at hc;cases hc
end
def snap(w:World):Addr->Option Value:=λa=>w.cell? a
def RPL(F:Addr->Option Value)(xs:Array Value)(as:List AV):Prop:=xs.size=as.length/\∀(i:Nat) (x:Value) (a:AV),xs[i]?=some x->as[i]?=some a->RP F x a
def Pure(P:Program)(Gl:Nat->Option (List AV))(f:FuncId)(as:List AV)(res:AV):Prop :=
 ∀(w:World) (F:Addr->Option Value) (xs:Array Value),(∀a x,F a=some x->w.cell? a=some x)->JY Gl F->GlW Gl w.heap.size w->RPL F xs as->
  Calls P f xs w λe w'=>∃v F',e=.returned v/\(∀ad y,F ad=some y->F' ad=some y)/\(∀ad y,F' ad=some y->w'.cell? ad=some y)/\(∀ad y,F' ad=some y->F ad=some y\/w.heap.size<=ad.block)/\RP F' v res/\Below w.heap.size w w'
def RL(F:Addr->Option Value)(own:List Ent)(xs:Array Value)(as:List AV):Prop:=xs.size=as.length/\∀(i:Nat) (x:Value) (a:AV),xs[i]?=some x->as[i]?=some a->R F own x a
def gW(P:Program)(Gl:Nat->Option (List AV))(f:FuncId)(h:List ah)(as:List AV)(Q:AV->List ah->Prop):Prop :=
 ∀(F:Addr->Option Value) (own:List Ent) (B:Nat) (w0:W0) (t:List AV) (act:Act) (w:World) (xs:Array Value),Inv Gl F own B w0 ⟨t,h⟩ act w->RL F own xs as->
  Calls P f xs w λe w'=>∃v res h' F' own',e=.returned v/\Inv Gl F' own' B w0 ⟨t,h'⟩ act w'/\R F' own' v res/\Q res h'
def gF(P:Program)(Gl:Nat->Option (List AV))(d:Bool)(σ:St)(dst:Option Nat)(K:St->Prop):I->Prop
 | .call fo args=>(d=false/\∃ f cs,σ.val Gl fo=.clo f cs/\callable P f=true/\gW P Gl f σ.h (args.map (σ.val Gl) ++ cs) fun res h'=>K (St.put ⟨σ.t,h'⟩ dst res))\/∃ f,σ.val Gl fo=.v (.func (.func f) #[] #[])/\callable P f=true/\((∃ as res,aX σ.h (args.map (σ.val Gl))=some as/\Pure P Gl f as res/\(d=true->(if scalar res then σ.h else freeze σ.h ((args.map (σ.val Gl)).flatMap aR))=σ.h)/\K (St.put ⟨σ.t,if scalar res then σ.h else freeze σ.h ((args.map (σ.val Gl)).flatMap aR)⟩ dst res)) \/
   (d=false/\gW P Gl f σ.h (args.map (σ.val Gl)) λres h'=>K (St.put ⟨σ.t,h'⟩ dst res)))
 |i=>match step Gl σ i with
  |some (p,a,h')=>p/\K (St.put ⟨σ.t,h'⟩ dst a)
  |none=>False
def und:AV:=.v (.tuple #[])
def bS(P:Program)(Gl:Nat->Option (List AV))(d:Bool)(σ:St)(ins:Ins)(K:St->Prop):Prop :=
 match ins.gd with
 |none=>gF P Gl d σ ins.dst K ins.i
 |some (s,want)=>match σ.t.getD s .any with
  |.v (.bool b)=>if b=want then gF P Gl d σ ins.dst K ins.i else K (σ.put ins.dst und)
  |.v (.tuple _)=>K (σ.put ins.dst und)
  |_=>False
def vk(P:Program)(Gl:Nat->Option (List AV))(d:Bool)(K:St->Prop):List Ins->St->Prop
 |[],σ=>K σ
 |i::r,σ=>bS P Gl d σ i (vk P Gl d K r)
def a1S(P:Program)(ops:Array Oper)(o:Oper):Bool:=ops.toList.any λq=>match cI P false q.op with
 |some (.app _ _ _ (.t d) _)=>o.dst==some d
 |_=>false
def a7Z(ops:Array Oper):Operand->Bool
 |.tmp d=>ops.toList.any λq=>q.dst==some d&&(match q.op with|.fieldAddr ..=>true|_=>false)
 |_=>false
def Uz(P:Program)(lm:Bool)(ops:Array Oper)(o:Oper):Bool:=match o.op with
 |.slice _ x _ _ _=>a7Z ops x
 |_=>lm&&!a1S P ops o
def dI(P:Program)(lm:Bool)(ops:Array Oper)(o:Oper):Option Ins :=
 match cI P (Uz P lm ops o) o.op with
 |none=>none
 |some i=>match o.guard with
  |none=>some ⟨o.dst,none,i⟩
  |some (j,want)=>match(ops[j]?).bind (·.dst) with
   |some s=>some ⟨o.dst,some (s,want),i⟩
   |none=>none
section
variable{P:Program}{Gl:Nat->Option (List AV)}{F:Addr->Option Value}{own:List Ent}{B:Nat}{w0:W0}{σ:St}{act:Act}{w:World}
def fO(Gl:Nat->Option (List AV))(B:Nat)(w0:W0)(K:St->Prop)(act:Act)(w:World):Prop:=∃F own σ,Inv Gl F own B w0 σ act w/\K σ
theorem EM{F F':Addr->Option Value}{x:Value}{a:AV}(h:RP F x a)(hs:scalar a=true):RP F' x a:=by
 have one:∀{x:Value} {a:AV},RP F x a->kJ a=true->RP F' x a:=by
  intro x a h hv
  cases a<;>first|(cases hv;done)|skip
  cases h
  exact .v _
 have two:∀{x:Value} {cs:List AV},RP F x (.agg cs)->cs.all kJ=true->RP F' x (.agg cs):=by
  intro x cs h hv
  cases h with
  |agg xs cs hl h1 hR=>exact .agg xs cs hl h1 λj x a p q=>one (hR j x a p q) (List.all_eq_true.1 hv a (List.mem_of_getElem? q))
 cases a with
 |v y=>cases h;exact .v _
 |agg cs=>exact two h hs
 |tup vs =>
  cases h with
  |tup xs cs hl hR =>
   refine .tup xs vs hl λj x a p q=>?_
   have:=List.all_eq_true.1 hs a (List.mem_of_getElem? q)
   cases a with
   |v y=>have:=hR j x _ p q;cases this;exact .v _
   |agg cs=>exact two (hR j x _ p q) this
   |_=>cases this
 |_=>cases hs
theorem Inv.call(h:Inv Gl F own B w0 σ act w){w':World}{F':Addr->Option Value}(hF:∀ad y,F ad=some y->F' ad=some y)(hs:∀ad y,F' ad=some y->w'.cell? ad=some y)(hn:∀ad y,F' ad=some y->F ad=some y\/w.heap.size<=ad.block)(hb:Below w.heap.size w w'):Inv Gl F' own B w0 σ act w':=by
 refine h.turn (h':=σ.h) hF (Le.refl _) hs h.hl (λid e o p q=>?_) h.inj ?_ h.base (λad y q=>?_) (hpw:=λg hg _=>hb.block g hg) (hpF:=λg j y q=>(hn _ _ q).imp id .inr)
 .have hO:=h.objs id e o p q
  refine hO.mono hF (Le.refl _) (λg hg=>hb.block g (hO.lt hg)) (λg j hg hj=>?_)
  cases hq:F' ⟨g,j,none⟩with
  |none=>rfl
  |some y =>
   rcases hn _ _ hq with q|q
   .rw[hO.fz hg hj]at q;cases q
   .have:=hO.lt hg;simp only at q;omega
 .exact h.below.trans (hb.mono (Nat.le_trans h.room h.below.size))
 .rcases hn ad y q with q'|q'
  .exact .inl q'
  .exact .inr (Nat.le_trans (Nat.le_trans h.room h.below.size) q')
theorem Lv {lm:Bool} {o:Oper} {f:Opd} {args:List Opd} (hc:cI P lm o.op=some (.call f args)):∃ c x,o.op=.call c/\c.callee=.value x/\f=ak x/\args=c.args.toList.map ak:=by
  cases hop:o.op with
  | call c =>
    rw[hop]at hc
    obtain⟨callee,as',tys⟩:=c
    simp only[cI,Oo]at hc
    split at hc
    · rename_i b
      simp only[Bc]at hc
      split at hc
      · unfold cLen at hc; split at hc
        .split at hc<;>cases hc
        .cases hc
      · unfold Vr at hc; repeat' split at hc
        all_goals cases hc
      · unfold Om at hc; repeat' split at hc
        all_goals cases hc
      .unfold Eu at hc;split at hc<;>cases hc
      .unfold Eu at hc;split at hc<;>cases hc
      .cases hc
    · rename_i x'
      split at hc
      · cases hc
        exact⟨_,x',rfl,rfl,rfl,rfl⟩
      .cases hc
    .cases hc
  | binOp op xt x y yt =>
    rw[hop]at hc
    simp only[cI,Vq]at hc
    repeat' split at hc
    all_goals first
      |(cases hc;done)
      |(cases hn:rY op<;>rw[hn]at hc<;>cases hc;done)
  | makeSlice t l c => rw [hop] at hc; simp only [cI] at hc; repeat' split at hc
                       all_goals cases hc
  | buildSlice t n ps => rw [hop] at hc; simp only [cI] at hc; repeat' split at hc
                         all_goals first|(cases hc;done)|(cases lm<;>cases hc;done)
  | build t ps =>
    rw[hop]at hc
    simp only[cI]at hc
    repeat' split at hc
    all_goals first
      |(cases hc;done)
      |(rw[Option.map_eq_some_iff]at hc;obtain⟨_,_,q⟩:=hc;cases q)
  | slice t x lo hi mx =>
    rw[hop]at hc
    cases mx with
    | some m =>
      cases lo<;>cases hi<;>simp only[cI]at hc
      all_goals(repeat' split at hc)
      all_goals cases hc
    | none =>
      simp only[cI]at hc
      repeat' split at hc
      all_goals cases hc
  | alloc t =>
    rw[hop]at hc
    simp only[cI,JJ]at hc
    repeat' split at hc
    all_goals cases hc
  | makeFunc fn first cs =>
    rw[hop]at hc
    cases fn with
    | func f =>
      simp only[cI]at hc
      split at hc<;>cases hc
    |_=>cases hc
  | _ =>
    rw[hop]at hc
    simp only[cI]at hc
    repeat' split at hc
    all_goals cases hc
theorem CU(h:Inv Gl F own B w0 σ act w){lm:Bool}{o:Oper}{i:I}(hc:cI P lm o.op=some i){d:Bool}{K:St->Prop}(he:gF P Gl d σ o.dst K i)(Q:Exit->Act->World->Prop):o.wp P act w (fO Gl B w0 K) Q:=by
 by_cases hcall:∃f args,i=.call f args
 .obtain⟨f,args,rfl⟩:=hcall
  obtain⟨c,x,hop,NT,hfo,hargs⟩:=Lv hc
  subst hargs hfo
  rcases he with⟨_,f,cs,hfv,hcb,hP⟩|he
  .obtain⟨fn,hfn,hbody,hname⟩:=rU hcb
   obtain⟨ys,hev,hyl,hyR⟩:∃ys,act.eval x=.func (.func f) #[] ys/\ys.size=cs.length/\∀(j:Nat) (x:Value) (a:AV),ys[j]?=some x->cs[j]?=some a->R F own x a:=by have:=h.ev x;rw[hfv]at this;exact this.sQ
   have hrun:(execOp act.eval o).run P w=.ok (.enter f (c.args.map act.eval++ys)) w:=by
    unfold execOp
    simp only[hop]
    have hb':¬fn.body=none:=by intro q;rw[q]at hbody;cases hbody
    have hn':¬fn.name= "runtime.NumGoroutine":=by simpa using hname
    simp[resolve,NT,hev,Deferred.ofValue,invoke,callFunc,hfn,hn',hb']
   unfold Oper.wp
   rw[hrun,Oper.upon_enter]
   have hrl:RL F own (c.args.map act.eval++ys) ((c.args.toList.map ak).map (σ.val Gl)++cs):=by
    refine⟨by simp[hyl],λj x a hx ha=>?_⟩
    rcases Nat.lt_or_ge j c.args.size with hj|hj
    .rw[Array.getElem?_append_left (by simpa using hj),Array.getElem?_map,Array.getElem?_eq_getElem hj]at hx
     cases hx
     rw[List.getElem?_append_left (by simpa using hj)]at ha
     simp[List.getElem?_eq_getElem,hj]at ha
     subst ha
     exact h.ev c.args[j]
    .rw[Array.getElem?_append_right (by simpa using hj)]at hx
     rw[List.getElem?_append_right (by simpa using hj)]at ha
     exact hyR _ x a hx (by simpa using ha)
   refine(hP F own B w0 σ.t act w (c.args.map act.eval++ys) h hrl).mono ?_
   rintro e w' ⟨v,res,h',F',own',rfl,hI,hR,hK⟩
   exact⟨F',own',_,hI.put hR o.dst,hK⟩
  obtain⟨f,hfv,hcb,he⟩:=he
  obtain⟨fn,hfn,hbody,hname⟩:=rU hcb
  have hev:act.eval x=.func (.func f) #[] #[]:=by have:=h.ev x;rw[hfv]at this;exact this.aH
  have hrun:(execOp act.eval o).run P w=.ok (.enter f (c.args.map act.eval)) w:=by
   unfold execOp
   simp only[hop]
   have hb':¬fn.body=none:=by intro q;rw[q]at hbody;cases hbody
   have hn':¬fn.name= "runtime.NumGoroutine":=by simpa using hname
   simp[resolve,NT,hev,Deferred.ofValue,invoke,callFunc,hfn,hn',hb']
  unfold Oper.wp
  rw[hrun,Oper.upon_enter]
  rcases he with⟨as,res,hk,hP,_,hK⟩|⟨_,hP⟩
  case inr =>
   have hrl:RL F own (c.args.map act.eval) ((c.args.toList.map ak).map (σ.val Gl)):=by
    refine⟨by simp,λj x a hx ha=>?_⟩
    have hj:j<c.args.size:=by have:=(Array.getElem?_eq_some_iff.1 hx).1;simpa using this
    rw[Array.getElem?_map,Array.getElem?_eq_getElem hj]at hx
    cases hx
    simp[List.getElem?_eq_getElem,hj]at ha
    subst ha
    exact h.ev c.args[j]
   refine(hP F own B w0 σ.t act w (c.args.map act.eval) h hrl).mono ?_
   rintro e w' ⟨v,res,h',F',own',rfl,hI,hR,hK⟩
   exact⟨F',own',_,hI.put hR o.dst,hK⟩
  obtain⟨F1,hF1,hI1,hkp⟩:=h.lF (((c.args.toList.map ak).map (σ.val Gl)).flatMap aR)
  obtain⟨l1,l2⟩:=mR h hF1 _ as hk hkp
  have UK:RPL F1 (c.args.map act.eval) as:=by
   refine⟨by simpa using l1,λj x a hx ha=>?_⟩
   have hj:j<c.args.size:=by have:=(Array.getElem?_eq_some_iff.1 hx).1;simpa using this
   rw[Array.getElem?_map,Array.getElem?_eq_getElem hj]at hx
   cases hx
   exact(l2 j (act.eval c.args[j]) (σ.val Gl (ak c.args[j])) a (by simp[List.getElem?_eq_getElem,hj]) ha (h.ev c.args[j])).1
  have hgw:GlW Gl w.heap.size w:=λg cs q=>by
   obtain⟨q1,vs,ty,fr,q2,q3⟩:=hI1.gw g cs q
   exact⟨Nat.lt_of_lt_of_le q1 (Nat.le_trans hI1.room hI1.below.size),vs,ty,fr,by rw[hI1.below.block _ q1];exact q2,q3⟩
  refine(hP w F1 (c.args.map act.eval) hI1.sub hI1.gl hgw UK).mono ?_
  rintro e w' ⟨v,F',rfl,g1,g2,g3,g4,g5⟩
  simp only
  cases hsc:scalar res with
  |true =>
   rw[hsc]at hK
   simp only[if_true]at hK
   have hI2:=h.call (F':=F) (w':=w') (λ_ _ q=>q) (λad y q=>by rw[World.cell?_of_block (w:=w) (g5.block _ (h.qK q))];exact h.sub _ _ q) (λ_ _ q=>.inl q) g5
   exact⟨F,own,_,hI2.put (.pure (EM g4 hsc)) o.dst,hK⟩
  |false =>
   rw[hsc]at hK
   simp only[Bool.false_eq_true,if_false]at hK
   have hI2:=hI1.call g1 g2 g3 g5
   exact⟨F',own,_,hI2.put (.pure g4) o.dst,hK⟩
 ·have he':(match step Gl σ i with | some (p,a,h')=>p/\K (St.put ⟨σ.t,h'⟩ o.dst a) | none=>False):=by
   cases i<;>first|exact he|exact absurd ⟨_,_,rfl⟩ hcall
  cases hs:step Gl σ i with
  |none=>rw[hs]at he';exact he'.elim
  |some q =>
   obtain⟨p,a,h'⟩:=q
   rw[hs]at he'
   obtain⟨hp,hK⟩:=he'
   obtain⟨nx,x,w',F',own',hrun,hnx,hI,hR⟩:=step_ok h hc hs hp
   unfold Oper.wp
   rw[hrun]
   rcases hnx with rfl|⟨rfl,rfl⟩
   .exact⟨F',own',_,hI.put hR o.dst,hK⟩
   .exact⟨F',own',_,hI.put hR o.dst,hK⟩
theorem gT(h:Inv Gl F own B w0 σ act w){lm:Bool}{ops:Array Oper}{o:Oper}{ins:Ins}(hc:dI P lm ops o=some ins){d:Bool}{K:St->Prop}(he:bS P Gl d σ ins K)(Q:Exit->Act->World->Prop){k:Nat}(hk:ops[k]?=some o):wpOp P ops Q k (fO Gl B w0 K) act w:=by
 unfold wpOp
 rw[hk]
 simp only
 unfold dI at hc
 cases hi:cI P (Uz P lm ops o) o.op with
 |none=>rw[hi]at hc;cases hc
 |some i =>
  rw[hi]at hc
  simp only at hc
  cases hg:o.guard with
  |none =>
   rw[hg]at hc
   cases hc
   rw[if_pos (by simp[Region.wanted,hg])]
   exact .inl (CU h hi he Q)
  |some q =>
   obtain⟨j,want⟩:=q
   rw[hg]at hc
   simp only at hc
   cases hs:(ops[j]?).bind (·.dst) with
   |none=>rw[hs]at hc;cases hc
   |some s =>
    rw[hs]at hc
    cases hc
    simp only[bS]at he
    split at he
    .rename_i b hb
     have hy:yielded ops act.tmps j=some b:=by
      unfold yielded
      rw[hs]
      have hlt:s<σ.t.length:=by
       rcases Nat.lt_or_ge s σ.t.length with q|q
       .exact q
       .simp[List.getD,List.getElem?_eq_none q]at hb
      have hlt':s<act.tmps.size:=by rw[h.tl];exact hlt
      have e1:σ.t[s]?=some (.v (.bool b)):=by rw[<- hb];simp[List.getD,List.getElem?_eq_getElem hlt]
      have:=(h.tr s _ _ (Array.getElem?_eq_getElem hlt') e1).aH
      simp only[Option.bind_some,Array.getElem?_eq_getElem hlt',this]
     by_cases hbw:b=want
     .rw[if_pos hbw]at he
      rw[if_pos (by simp[Region.wanted,hg,hy,hbw])]
      exact .inl (CU h hi he Q)
     .rw[if_neg hbw]at he
      rw[if_neg (by simp[Region.wanted,hg,hy,hbw])]
      exact⟨F,own,_,h.put (x:=undef) (a:=und) (.pure (.v undef)) o.dst,he⟩
    .rename_i ys hb
     have hy:yielded ops act.tmps j=none:=by
      unfold yielded
      rw[hs]
      have hlt:s<σ.t.length:=by
       rcases Nat.lt_or_ge s σ.t.length with q|q
       .exact q
       .simp[List.getD,List.getElem?_eq_none q]at hb
      have hlt':s<act.tmps.size:=by rw[h.tl];exact hlt
      have e1:σ.t[s]?=some (.v (.tuple ys)):=by rw[<- hb];simp[List.getD,List.getElem?_eq_getElem hlt]
      have:=(h.tr s _ _ (Array.getElem?_eq_getElem hlt') e1).aH
      simp only[Option.bind_some,Array.getElem?_eq_getElem hlt',this]
     rw[if_neg (by simp[Region.wanted,hg,hy])]
     exact⟨F,own,_,h.put (x:=undef) (a:=und) (.pure (.v undef)) o.dst,he⟩
    .exact he.elim
theorem ES {lm d:Bool} {ops:Array Oper} {Q:Exit->Act->World->Prop} {K:St->Prop} (hQ:∀ a w,fO Gl B w0 K a w->Q .normal a w):∀ (l:List Ins) (k:Nat),(∀ j,k + j < ops.size->∃ ins o,l[j]?=some ins/\ops[k + j]?=some o/\dI P lm ops o=some ins)->k + l.length=ops.size ->
  ∀(σ:St) (F:Addr->Option Value) (own:List Ent) (act:Act) (w:World),vk P Gl d K l σ->Inv Gl F own B w0 σ act w->wpOps P ops Q (List.range' k l.length) act w:=by
 intro l
 induction l with
 |nil=>intro k _ _ σ F own act w ha hI;exact hQ act w ⟨F,own,σ,hI,ha⟩
 |cons ins l ih =>
  intro k hl hk σ F own act w ha hI
  obtain⟨ins',o,e1,e2,e3⟩:=hl 0 (by simp at hk;omega)
  simp at e1
  subst e1
  simp only[Nat.add_zero]at e2
  rw[List.length_cons,List.range'_succ,wpOps_cons]
  refine wpOp_mono ?_ (gT hI e3 ha Q e2)
  rintro a w1 ⟨F1,aQ,σ1,hI1,hK⟩
  exact ih (k+1) (λj hj=>by
   obtain⟨i',o',f1,f2,f3⟩:=hl (j+1) (by omega)
   exact⟨i',o',by simpa using f1,by rw[<- f2];congr 1;omega,f3⟩) (by simp at hk;omega) σ1 F1 aQ a w1 hK hI1
end
def Opd.slots:Opd->List Nat
 |.t i=>[i]
 |_=>[]
def wC:Option Opd->List Nat
 |some x=>x.slots
 |none=>[]
def I.reads:I->List Nat
 |.mov x|.un _ x|.conv _ x|.fld _ _ _ x|.ext _ x|.nu _ x|.load _ _ x|.len x|.qd x|.nck x|.b2s x|.s2b _ x|.box _ _ x|.vg _ _ _ x|.mk _ _ _ _ x|.qy _ x=>x.slots
 |.pick c a b|.slice3 _ c a b|.mJ _ c a b=>c.slots++a.slots++b.slots
 |.bin _ x y|.beq _ x y|.aeq _ _ x y|.jD _ x y|.jf _ _ _ x y|.copy _ x y|.store _ x y|.idx x y|.rV _ _ _ x y|.app _ _ _ x y|.apps _ _ x y|.min2 x y|.max2 x y|.mk2 _ _ _ _ x y|.og _ _ _ x y=>x.slots++y.slots
 |.slice _ x lo hi|.jw x lo hi|.aslice _ _ x lo hi|.om _ x lo hi=>x.slots++wC lo++wC hi
 |.gI _ _ xs|.sJ _ _ xs|.uZ _ xs|.bsc _ xs|.clo _ xs=>xs.flatMap Opd.slots
 |.build _ ps=>ps.flatMap λp=>p.2.2.slots
 |.alloc _ _=>[]
 |.mmk _ x=>wC x
 |.alloca _ _ _ _=>[]
 |.call fo args=>fo.slots++args.flatMap Opd.slots
def Ins.looks(i:Ins):List Nat:=i.i.reads++(match i.gd with|some (s,_)=>[s]|none=>[])
def I.cls:I->Nat
 |.load ..|.call ..|.jf ..|.aslice ..|.b2s ..|.og ..=>1
 |.store ..|.app ..|.apps ..|.s2b ..|.gI ..|.uZ ..|.bsc ..|.box ..|.vg ..|.alloc ..|.alloca ..|.copy ..|.mk ..|.om ..|.mk2 ..|.mmk ..|.mJ ..=>2
 |_=>0
section
variable{P:Program}{Gl:Nat->Option (List AV)}
theorem val_congr{σ τ:St}{x:Opd}(h:∀s∈x.slots,τ.t.getD s .any=σ.t.getD s .any):τ.val Gl x=σ.val Gl x:=by
 cases x with
 |t i=>exact h i (by simp[Opd.slots])
 |k v=>rfl
 |g i=>rfl
theorem zX{σ τ:St}:∀(ps:List (Nat×Nat×Opd)) (cs:List AV),(∀s∈ps.flatMap (λp=>p.2.2.slots),τ.t.getD s .any=σ.t.getD s .any)->iJ Gl τ cs ps=iJ Gl σ cs ps:=by
 intro ps
 induction ps with
 |nil=>intro cs _;rfl
 |cons p ps ih =>
  intro cs h
  obtain⟨o,s,x⟩:=p
  have hx:τ.val Gl x=σ.val Gl x:=val_congr λs hs=>h s (by simp[hs])
  simp only[iJ,hx]
  split
  .split
   .exact ih _ λs hs=>h s (by simp only[List.flatMap_cons,List.mem_append];exact .inr hs)
   .rfl
  .rfl
theorem map_congr{σ τ:St}{xs:List Opd}(h:∀s∈xs.flatMap Opd.slots,τ.t.getD s .any=σ.t.getD s .any):xs.map (τ.val Gl)=xs.map (σ.val Gl):=by
 apply List.map_congr_left
 intro x hx
 exact val_congr λs hs=>h s (List.mem_flatMap.2 ⟨x,hx,hs⟩)
theorem uF{σ τ:St}{x:Option Opd}(h:∀s∈wC x,τ.t.getD s .any=σ.t.getD s .any):x.map (τ.val Gl)=x.map (σ.val Gl):=by
 cases x with
 |none=>rfl
 |some x=>simp only[Option.map_some];rw[val_congr h]
theorem rW{σ τ:St}{i:I}(h:∀s∈i.reads,τ.t.getD s .any=σ.t.getD s .any)(hh:τ.h=σ.h):step Gl τ i=step Gl σ i:=by
 cases i<;>simp only[I.reads,List.mem_append,or_imp,forall_and]at h<;>first
  |(simp only[step,val_congr h,hh];done)
  |(simp only[step,val_congr h.1,val_congr h.2,hh];done)
  |(simp only[step,val_congr h.1.1,val_congr h.1.2,val_congr h.2,hh];done)
  |(simp only[step,val_congr h.1.1,uF h.1.2,uF h.2,hh];done)
  |(simp only[step,map_congr h,hh];done)
  |(simp only[step,uF h,hh];done)
  |(simp only[step,zX _ _ h,hh];done)
  |(simp only[step,hh];done)
theorem NC{h g:List ah}{a:AV}(hr:jc a=[]):iM h a=iM g a:=by
 cases a<;>first|rfl|cases hr
theorem Nw{h g:List ah}:∀{cs:List AV},cs.flatMap jc=[]->gu h cs=gu g cs:=by
 intro cs
 induction cs with
 |nil=>intro _;rfl
 |cons c cs ih =>
  intro hr
  rw[List.flatMap_cons,List.append_eq_nil_iff]at hr
  simp only[gu]
  rw[NC (h:=h) (g:=g) hr.1,ih hr.2]
theorem Nz{h g:List ah}{a:AV}(hr:aR a=[]):dN h a=dN g a:=by
 cases a with
 |agg cs=>simp only[dN];rw[Nw (h:=h) (g:=g) hr]
 |_=>first|rfl|cases hr
theorem Kc{h g:List ah}:∀{cs:List AV},(∀a∈cs,aR a=[])->aX h cs=aX g cs:=by
 intro cs
 induction cs with
 |nil=>intro _;rfl
 |cons c cs ih =>
  intro hr
  simp only[aX]
  rw[Nz (h:=h) (g:=g) (hr c (by simp)),ih λa ha=>hr a (by simp[ha])]
theorem mX{t:List AV}{h g:List ah}(x:Opd):St.val Gl ⟨t,h⟩ x=St.val Gl ⟨t,g⟩ x:=by cases x<;>rfl
theorem Uo{t:List AV}{h g:List ah}(xs:List Opd):xs.map (St.val Gl ⟨t,h⟩)=xs.map (St.val Gl ⟨t,g⟩):=List.map_congr_left λx _=>mX x
theorem Ir{t:List AV}{h g:List ah}(x:Option Opd):x.map (St.val Gl ⟨t,h⟩)=x.map (St.val Gl ⟨t,g⟩):=by cases x<;>simp[mX (Gl:=Gl) (t:=t) (h:=h) (g:=g)]
theorem YU{t:List AV}{h g:List ah}(ps:List (Nat×Nat×Opd))(cs:List AV):iJ Gl ⟨t,h⟩ cs ps=iJ Gl ⟨t,g⟩ cs ps:=zX ps cs λ_ _=>rfl
theorem OZ{t:List AV}{h g:List ah}{i:I}(hc:i.cls=0):step Gl ⟨t,g⟩ i=(step Gl ⟨t,h⟩ i).map λq=>(q.1,q.2.1,g):=by
 cases i with
 |sJ ty sz xs =>
  simp only[step,Uo (Gl:=Gl) (t:=t) (h:=g) (g:=h)]
  generalize xs.map (St.val Gl ⟨t,h⟩)=l
  by_cases hr:l.all (λa=>(aR a).isEmpty)=true
  .rw[Kc (h:=g) (g:=h) λa ha=>List.isEmpty_iff.1 (List.all_eq_true.1 hr a ha)]
   cases aX h l with
   |none=>rfl
   |some ys=>simp only;split<;>rfl
  ·have:∀ ys:List AV,(ys.all (fun y=>y.cells.length == sz) && l.all (fun a=>(aR a).isEmpty))=false:=fun ys=>by
    simp only[Bool.not_eq_true]at hr;rw[hr,Bool.and_false]
   cases aX g l<;>cases aX h l<;>simp[this]
 |build z ps=>simp only[step,YU (Gl:=Gl) (t:=t) (h:=g) (g:=h)];cases iJ Gl ⟨t,h⟩ (z.map .v) ps<;>rfl
 |slice sz x lo hi =>
  simp only[step,mX (Gl:=Gl) (t:=t) (h:=g) (g:=h),Ir (Gl:=Gl) (t:=t) (h:=g) (g:=h)]
  split
  .split
   .cases fB _ _ _<;>rfl
   .rfl
  .cases fB _ _ _<;>rfl
  .split
   .cases fB _ _ _<;>rfl
   .rfl
  .rfl
 |jw x lo hi =>
  simp only[step,mX (Gl:=Gl) (t:=t) (h:=g) (g:=h),Ir (Gl:=Gl) (t:=t) (h:=g) (g:=h)]
  split
  .cases fB _ _ _<;>rfl
  .rfl
 |bin op x y =>
  simp only[step,mX (Gl:=Gl) (t:=t) (h:=g) (g:=h)]
  split
  .cases lT _ _ _<;>rfl
  .rfl
 |un op x =>
  simp only[step,mX (Gl:=Gl) (t:=t) (h:=g) (g:=h)]
  split
  .cases unV _ _<;>rfl
  .rfl
 |aeq n fs x y =>
  simp only[step,mX (Gl:=Gl) (t:=t) (h:=g) (g:=h)]
  split
  .cases eqA _ _ _<;>rfl
  .rfl
 |fld o sz ag x =>
  simp only[step,mX (Gl:=Gl) (t:=t) (h:=g) (g:=h)]
  split
  .split
   .split<;>rfl
   .rename_i cs _ _;cases cs[o]?<;>rfl
  .rfl
 |ext k x =>
  simp only[step,mX (Gl:=Gl) (t:=t) (h:=g) (g:=h)]
  split
  .rename_i vs _;cases vs[k]?<;>rfl
  .rfl
 |slice3 sz x y z =>
  simp only[step,mX (Gl:=Gl) (t:=t) (h:=g) (g:=h)]
  split
  .split<;>rfl
  .rfl
 |rV sz ag n x y =>
  simp only[step,mX (Gl:=Gl) (t:=t) (h:=g) (g:=h)]
  split
  .split
   .split<;>rfl
   .rfl
  .rfl
 |jD sz x y =>
  simp only[step,mX (Gl:=Gl) (t:=t) (h:=g) (g:=h)]
  split
  .split<;>rfl
  .split<;>rfl
  .rfl
 |_=>first
  |(cases hc;done)
  |(simp only[step,mX (Gl:=Gl) (t:=t) (h:=g) (g:=h)];first|rfl|(split<;>rfl))
theorem xA{σ τ:St}{i:I}(hc:i.cls=0)(h:∀s∈i.reads,τ.t.getD s .any=σ.t.getD s .any){p:Prop}{a:AV}{h':List ah}(hs:step Gl σ i=some (p,a,h')):h'=σ.h/\step Gl τ i=some (p,a,τ.h):=by
 have e1:step Gl ⟨τ.t,σ.h⟩ i=some (p,a,h'):=by rw[rW (σ:=σ) (τ:=⟨τ.t,σ.h⟩) h rfl];exact hs
 have e2:=OZ (Gl:=Gl) (t:=τ.t) (h:=σ.h) (g:=τ.h) hc
 rw[e1]at e2
 have e3:=OZ (Gl:=Gl) (t:=σ.t) (h:=σ.h) (g:=σ.h) hc
 have hs':step Gl ⟨σ.t,σ.h⟩ i=some (p,a,h'):=hs
 rw[hs']at e3
 simp only[Option.map_some,Option.some.injEq,Prod.mk.injEq,true_and]at e3
 exact⟨e3,e2⟩
def AZ(P:Program)(Gl:Nat->Option (List AV))(d:Bool)(σ:St)(a:AV)(h':List ah):I->Prop
 |.call fo args=>∃f,σ.val Gl fo=.v (.func (.func f) #[] #[])/\callable P f=true/\∃as,aX σ.h (args.map (σ.val Gl))=some as/\Pure P Gl f as a/\(d=true->(if scalar a then σ.h else freeze σ.h ((args.map (σ.val Gl)).flatMap aR))=σ.h)/\h'=(if scalar a then σ.h else freeze σ.h ((args.map (σ.val Gl)).flatMap aR))
 |i=>∃p,step Gl σ i=some (p,a,h')/\p
def Bp(P:Program)(Gl:Nat->Option (List AV))(d:Bool)(σ:St)(ins:Ins)(a:AV)(h':List ah):Prop :=
 match ins.gd with
 |none=>AZ P Gl d σ a h' ins.i
 |some (s,want)=>match σ.t.getD s .any with
  |.v (.bool b)=>if b=want then AZ P Gl d σ a h' ins.i else a=und/\h'=σ.h
  |.v (.tuple _)=>a=und/\h'=σ.h
  |_=>False
theorem JB{σ:St}{dst:Option Nat}{K:St->Prop}{i:I}:gF P Gl true σ dst K i↔∃a h',AZ P Gl true σ a h' i/\K (St.put ⟨σ.t,h'⟩ dst a):=by
 by_cases hcall:∃f args,i=.call f args
 .obtain⟨f,args,rfl⟩:=hcall
  constructor
  .rintro(⟨h1,_⟩|⟨f,hf,hcb,(⟨as,res,h1,h2,h3,h4⟩|⟨h1,_⟩)⟩)
   .cases h1
   .exact⟨res,_,⟨f,hf,hcb,as,h1,h2,h3,rfl⟩,h4⟩
   .cases h1
  .rintro⟨res,h',⟨f,hf,hcb,as,h1,h2,h3,rfl⟩,h4⟩
   exact .inr ⟨f,hf,hcb,.inl ⟨as,res,h1,h2,h3,h4⟩⟩
 ·have e1:gF P Gl true σ dst K i=(match step Gl σ i with | some (p,a,h')=>p/\K (St.put ⟨σ.t,h'⟩ dst a) | none=>False):=by
   cases i<;>first|rfl|exact absurd ⟨_,_,rfl⟩ hcall
  have e2:∀a h',AZ P Gl true σ a h' i=∃p,step Gl σ i=some (p,a,h')/\p:=λa h'=>by
   cases i<;>first|rfl|exact absurd ⟨_,_,rfl⟩ hcall
  rw[e1]
  constructor
  .intro h
   cases hs:step Gl σ i with
   |none=>rw[hs]at h;exact h.elim
   |some q =>
    obtain⟨p,a,h'⟩:=q
    rw[hs]at h
    exact⟨a,h',by rw[e2];exact⟨p,hs,h.1⟩,h.2⟩
  .rintro⟨a,h',h1,h2⟩
   rw[e2]at h1
   obtain⟨p,hs,hp⟩:=h1
   rw[hs]
   exact⟨hp,h2⟩
theorem JW{σ:St}{K:St->Prop}{ins:Ins}:bS P Gl true σ ins K↔∃a h',Bp P Gl true σ ins a h'/\K (St.put ⟨σ.t,h'⟩ ins.dst a):=by
 unfold bS Bp
 cases ins.gd with
 |none=>exact JB
 |some q =>
  obtain⟨s,want⟩:=q
  simp only
  generalize σ.t.getD s .any=g
  have no:∀{X:AV->List ah->Prop},(False↔∃a h',False/\X a h'):=fun{X}=>⟨λh=>h.elim,fun⟨_,_,h,_⟩=>h.elim⟩
  cases g with
  |v x=>cases x with
   |bool b =>
    simp only
    by_cases hb:b=want
    .simp only[if_pos hb];exact JB
    .simp only[if_neg hb]
     constructor
     .intro h;exact⟨und,σ.h,⟨rfl,rfl⟩,h⟩
     .rintro⟨a,h',⟨rfl,rfl⟩,h⟩;exact h
   |tuple ys =>
    simp only
    constructor
    .intro h;exact⟨und,σ.h,⟨rfl,rfl⟩,h⟩
    .rintro⟨a,h',⟨rfl,rfl⟩,h⟩;exact h
   |_=>exact no
  |_=>exact no
theorem CZ {σ τ:St} {i:I} (h:∀ s ∈ i.reads,τ.t.getD s .any=σ.t.getD s .any) (hh:i.cls ≠ 0->τ.h=σ.h) {a:AV} {h':List ah} (he:AZ P Gl true σ a h' i) :
  (i.cls≠2->h'=σ.h)/\AZ P Gl true τ a (if i.cls=2 then h' else τ.h) i:=by
 by_cases hcall:∃f args,i=.call f args
 .obtain⟨f,args,rfl⟩:=hcall
  obtain⟨f',hf,hcb,as,h1,h2,h3,rfl⟩:=he
  have hτ:=hh (by simp[I.cls])
  have hA:∀s∈args.flatMap Opd.slots,τ.t.getD s .any=σ.t.getD s .any:=λs hs=>h s (by simp only[I.reads,List.mem_append];exact .inr hs)
  have hO:τ.val Gl f=σ.val Gl f:=val_congr λs hs=>h s (by simp only[I.reads,List.mem_append];exact .inl hs)
  refine⟨λ_=>h3 rfl,f',by rw[hO];exact hf,hcb,as,?_,h2,?_,?_⟩
  .rw[map_congr hA,hτ];exact h1
  .rw[map_congr hA,hτ];exact h3
  .rw[map_congr hA,hτ,h3 rfl];simp[I.cls]
 ·have e2:∀ (ρ:St) a h',AZ P Gl true ρ a h' i=∃ p,step Gl ρ i=some (p,a,h')/\p:=fun ρ a h'=>by
   cases i<;>first|rfl|exact absurd ⟨_,_,rfl⟩ hcall
  rw[e2]at he
  obtain⟨p,hs,hp⟩:=he
  rw[e2]
  by_cases hc:i.cls=0
  .obtain⟨q1,q2⟩:=xA hc h hs
   exact⟨λ_=>q1,p,by rw[if_neg (by omega)];exact q2,hp⟩
  .have hτ:=hh hc
   have hs2:=rW (Gl:=Gl) h hτ
   rw[hs]at hs2
   by_cases hc2:i.cls=2
   .exact⟨λq=>absurd hc2 q,p,by rw[if_pos hc2];exact hs2,hp⟩
   ·have hload:h'=σ.h:=by
     cases i<;>first|(exact absurd rfl hc)|(exact absurd rfl hc2)|(exact absurd ⟨_,_,rfl⟩ hcall)|skip
     all_goals(simp only[step]at hs)
     all_goals(repeat' split at hs)
     all_goals first
      |(cases hs;done)
      |(cases hs;rfl)
      |(rw[Option.map_eq_some_iff]at hs;obtain⟨_,_,q⟩:=hs;cases q;rfl)
    refine⟨λ_=>hload,p,?_,hp⟩
    rw[if_neg hc2,hτ,<- hload];exact hs2
theorem Di {σ τ:St} {ins:Ins} (h:∀ s ∈ ins.looks,τ.t.getD s .any=σ.t.getD s .any) (hh:ins.i.cls ≠ 0->τ.h=σ.h) {a:AV} {h':List ah} (he:Bp P Gl true σ ins a h') :
  (ins.i.cls≠2->h'=σ.h)/\∃h'',Bp P Gl true τ ins a h''/\(ins.i.cls≠2->h''=τ.h)/\(ins.i.cls=2->h''=h'):=by
 have hr:∀s∈ins.i.reads,τ.t.getD s .any=σ.t.getD s .any:=λs hs=>h s (by simp[Ins.looks,hs])
 unfold Bp at he ⊢
 cases hg:ins.gd with
 |none =>
  rw[hg]at he
  obtain⟨q1,q2⟩:=CZ hr hh he
  exact⟨q1,_,q2,λc=>if_neg c,λc=>if_pos c⟩
 |some q =>
  obtain⟨s,want⟩:=q
  rw[hg]at he
  simp only at he ⊢
  rw[h s (by simp[Ins.looks,hg])]
  split at he
  .rename_i b hb
   split at he
   .rename_i hbw
    obtain⟨q1,q2⟩:=CZ hr hh he
    exact⟨q1,_,by rw[if_pos hbw];exact q2,λc=>if_neg c,λc=>if_pos c⟩
   .rename_i hbw
    obtain⟨rfl,rfl⟩:=he
    refine⟨λ_=>rfl,τ.h,by rw[if_neg hbw];exact⟨rfl,rfl⟩,λ_=>rfl,λc=>hh (by omega)⟩
  .obtain⟨rfl,rfl⟩:=he
   exact⟨λ_=>rfl,τ.h,⟨rfl,rfl⟩,λ_=>rfl,λc=>hh (by omega)⟩
  .exact he.elim
def wB(t:List AV)(d:Option Nat)(a:AV):List AV :=
 match d with
 |some i=>t.set i a
 |none=>t
theorem put_eq(σ:St)(h:List ah)(d:Option Nat)(a:AV):St.put ⟨σ.t,h⟩ d a=⟨wB σ.t d a,h⟩:=by cases d<;>rfl
theorem TB(t:List AV)(d:Option Nat)(a:AV):(wB t d a).length=t.length:=by cases d<;>simp[wB]
theorem Kw{t:List AV}{d:Option Nat}{a:AV}{s:Nat}(h:d≠some s):(wB t d a)[s]?=t[s]?:=by
 cases d with
 |none=>rfl
 |some i=>exact List.getElem?_set_ne (λe=>h (by rw[e]))
theorem EP{t t':List AV}{s:Nat}{a:AV}(hl:t.length=t'.length):(wB t (some s) a)[s]?=(wB t' (some s) a)[s]?:=by
 simp[wB,List.getElem?_set,hl]
def sI(l:List Ins)(k:Nat):Option Nat:=(l[k]?).bind (·.dst)
def tS(t:List AV)(l:List Ins)(as:Nat->AV)(S:Nat->Bool):Nat->List AV
 |0=>t
 |k+1=>if S k then wB (tS t l as S k) (sI l k) (as k) else tS t l as S k
theorem BF (t:List AV) (l:List Ins) (as:Nat->AV) (S:Nat->Bool) (k:Nat):(tS t l as S k).length=t.length:=by
  induction k with
  |zero=>rfl
  | succ k ih => simp only [tS]; split
                 .rw[TB];exact ih
                 .exact ih
theorem vX{t:List AV}{l:List Ins}{as as':Nat->AV}{S S':Nat->Bool}{k:Nat}(h:∀j,j<k->as j=as' j/\S j=S' j):tS t l as S k=tS t l as' S' k:=by
 induction k with
 |zero=>rfl
 |succ k ih =>
  simp only[tS]
  rw[ih λj hj=>h j (by omega),(h k (by omega)).1,(h k (by omega)).2]
theorem LX{t:List AV}{l:List Ins}{as:Nat->AV}{S S':Nat->Bool}{s:Nat}{k:Nat}(h:∀j,j<k->sI l j=some s->S j=S' j):(tS t l as S k)[s]?=(tS t l as S' k)[s]?:=by
 induction k with
 |zero=>rfl
 |succ k ih =>
  have ih':=ih λj hj=>h j (by omega)
  have hl:(tS t l as S k).length=(tS t l as S' k).length:=by rw[BF,BF]
  simp only[tS]
  by_cases hd:sI l k=some s
  .rw[h k (by omega) hd,hd]
   split
   .exact EP hl
   .exact ih'
  .split<;>split<;>simp only[Kw hd,ih']
theorem Dy {t:List AV} {l:List Ins} {as:Nat->AV} {S:Nat->Bool} {j k:Nat} (hjk:j<=k) (h:∀ i,j<=i->i < k->S i=false):tS t l as S k=tS t l as S j:=by
  induction k with
  | zero => have : j = 0 := by omega
            subst this;rfl
  | succ k ih =>
    rcases Nat.lt_or_ge k j with q|q
    · have:j=k + 1:=by omega
      subst this;rfl
    · simp only [tS]
      rw[h k q (by omega)]
      exact ih q λi a b=>h i a (by omega)
theorem trace {K:St->Prop} {l:List Ins} {σ:St} (h:vk P Gl true K l σ):∃ (as:Nat->AV) (hs:Nat->List ah),hs 0=σ.h /\
  (∀i ins,l[i]?=some ins->Bp P Gl true ⟨tS σ.t l as (λ_=>true) i,hs i⟩ ins (as i) (hs (i+1)))/\K ⟨tS σ.t l as (λ_=>true) l.length,hs l.length⟩:=by
 have key:∀k,k<=l.length->∃(as:Nat->AV) (hs:Nat->List ah),hs 0=σ.h/\(∀i ins,i<k->l[i]?=some ins->Bp P Gl true ⟨tS σ.t l as (λ_=>true) i,hs i⟩ ins (as i) (hs (i+1)))/\vk P Gl true K (l.drop k) ⟨tS σ.t l as (λ_=>true) k,hs k⟩:=by
  intro k
  induction k with
  |zero=>intro _;exact⟨λ_=>.any,λ_=>σ.h,rfl,λi ins hi=>by omega,h⟩
  |succ k ih =>
   intro hk
   obtain⟨as,hs,h0,h1,h2⟩:=ih (by omega)
   have hlt:k<l.length:=by omega
   rw[List.drop_eq_getElem_cons hlt]at h2
   obtain⟨a,h',ha,hr⟩:=JW.1 h2
   refine⟨λi=>if i=k then a else as i,λi=>if i=k+1 then h' else hs i,by simp[h0],λi ins hi hl=>?_,?_⟩
   .have e1:tS σ.t l (λi=>if i=k then a else as i) (λ_=>true) i=tS σ.t l as (λ_=>true) i:=vX λj hj=>⟨if_neg (by omega),rfl⟩
    simp only[e1]
    by_cases hik:i=k
    .subst hik
     rw[List.getElem?_eq_getElem hlt]at hl
     cases hl
     simp only[if_true]
     rw[if_neg (by omega)]
     exact ha
    .rw[if_neg (by omega),if_neg hik,if_neg (by omega)]
     exact h1 i ins (by omega) hl
   .have e1:tS σ.t l (λi=>if i=k then a else as i) (λ_=>true) k=tS σ.t l as (λ_=>true) k:=vX λj hj=>⟨if_neg (by omega),rfl⟩
    simp only[tS,if_true,e1]
    rw[put_eq]at hr
    have e2:sI l k=l[k].dst:=by simp[sI,List.getElem?_eq_getElem hlt]
    rw[e2]
    exact hr
 obtain⟨as,hs,h0,h1,h2⟩:=key l.length (Nat.le_refl _)
 refine⟨as,hs,h0,λi ins hl=>h1 i ins (List.getElem?_eq_some_iff.1 hl).1 hl,?_⟩
 rw[List.drop_length]at h2
 exact h2
end
def direct(ops:Array Oper)(i:Nat):List Nat:=match ops[i]? with
 |some o=>o.after.toList.filterMap λe=>if Region.binds .any e then some e.on else none
 |none=>[]
def tb(bm:Array Nat)(i j:Nat):Bool:=(bm.getD i 0).testBit j
def clash(a b:Ins):Bool :=
 (match a.dst with|some d=>b.looks.contains d||b.dst==some d|none=>false)||(match b.dst with|some d=>a.looks.contains d|none=>false)||
 (a.i.cls==2&&b.i.cls != 0)||(b.i.cls==2&&a.i.cls != 0)
def u6(ops:Array Oper)(l:List Ins):Bool :=
 let bm:=Region.before ops
 let n:=ops.size
 (List.range n).all λi=>(direct ops i).all (λd=>decide (d<i))&&
  (List.range i).all λj=>(!tb bm i j||(direct ops i).contains j||(direct ops i).any λd=>decide (j<d)&&tb bm d j)&&(!clash (l.getD j default) (l.getD i default)||tb bm i j)
section
variable{P:Program}{Gl:Nat->Option (List AV)}{F:Addr->Option Value}{own:List Ent}{B:Nat}{w0:W0}{σ:St}{act:Act}{w:World}
theorem Ki {ops:Array Oper} {l:List Ins} (h:u6 ops l=true) :
  (∀i d,i<ops.size->d∈direct ops i->d<i)/\(∀i j,j<i->i<ops.size->tb (Region.before ops) i j=true->j∈direct ops i\/∃d∈direct ops i,j<d/\tb (Region.before ops) d j=true)/\
  (∀i j,j<i->i<ops.size->clash (l.getD j default) (l.getD i default)=true->tb (Region.before ops) i j=true):=by
 unfold u6 at h
 have h1:∀i,i<ops.size->_:=λi hi=>List.all_eq_true.1 h i (List.mem_range.2 hi)
 refine⟨λi d hi hd=>?_,λi j hj hi ht=>?_,λi j hj hi hc=>?_⟩
 .have:=h1 i hi
  rw[Bool.and_eq_true]at this
  exact of_decide_eq_true (List.all_eq_true.1 this.1 d hd)
 .have:=h1 i hi
  rw[Bool.and_eq_true]at this
  have:=List.all_eq_true.1 this.2 j (List.mem_range.2 hj)
  rw[Bool.and_eq_true]at this
  have:=this.1
  simp only[ht,Bool.not_true,Bool.false_or,Bool.or_eq_true]at this
  rcases this with q|q
  .exact .inl (List.contains_iff_mem.1 q)
  .obtain⟨d,hd,hq⟩:=List.any_eq_true.1 q
   rw[Bool.and_eq_true]at hq
   exact .inr ⟨d,hd,of_decide_eq_true hq.1,hq.2⟩
 .have:=h1 i hi
  rw[Bool.and_eq_true]at this
  have:=List.all_eq_true.1 this.2 j (List.mem_range.2 hj)
  rw[Bool.and_eq_true]at this
  have:=this.2
  rw[hc]at this
  exact this
theorem Et{a b:Ins}(h1:a.i.cls=2)(h2:b.i.cls≠0):clash a b=true:=by simp[clash,h1,h2]
theorem YO{a b:Ins}(h1:b.i.cls=2)(h2:a.i.cls≠0):clash a b=true:=by simp[clash,h1,h2]
theorem Lr{a b:Ins}{s:Nat}(h1:a.dst=some s)(h2:b.dst=some s):clash a b=true:=by simp[clash,h1,h2]
theorem uL{n:Nat}{S:Nat->Bool}(h:0<(List.range n).countP λi=>!S i):∃i,i<n/\S i=false/\∀j,j<i->S j=true:=by
 have ex:∃i,i<n/\S i=false:=by
  obtain⟨i,hi,hs⟩:=List.countP_pos_iff.1 h
  exact⟨i,List.mem_range.1 hi,by simpa using hs⟩
 obtain⟨i,hi⟩:=ex
 induction i using Nat.strongRecOn with
 |_ i ih =>
  by_cases hall:∀j,j<i->S j=true
  .exact⟨i,hi.1,hi.2,hall⟩
  ·have:∃ j,j < i/\S j=false:=by
    apply Classical.byContradiction
    intro q
    exact hall λj hj=>by
     cases hs:S j with
     |true=>rfl
     |false=>exact absurd ⟨j,hj,hs⟩ q
   obtain⟨j,hj,hs⟩:=this
   exact ih j hj ⟨by omega,hs⟩
theorem count_set{n:Nat}{S S':Nat->Bool}{k:Nat}(hk:k<n)(h0:S k=false)(h1:S' k=true)(h:∀j,j≠k->S' j=S j):((List.range n).countP λi=>!S i)=((List.range n).countP λi=>!S' i)+1:=by
 induction n with
 |zero=>omega
 |succ n ih =>
  rw[List.range_succ,List.countP_append,List.countP_append]
  rcases Nat.lt_or_ge k n with q|q
  .rw[ih q]
   simp only[List.countP_cons,List.countP_nil]
   rw[h n (by omega)]
   omega
  .have:k=n:=by omega
   subst this
   have e:((List.range k).countP λi=>!S i)=((List.range k).countP λi=>!S' i):=List.countP_congr λi hi=>by
    rw[h i (by have:=List.mem_range.1 hi;omega)]
   rw[e]
   simp[h0,h1]
theorem Kh {lm : Bool} {ops : Array Oper} {l : List Ins} (hl : l.length = ops.size) (hc : ∀ (j : Nat) (o : Oper), ops[j]? = some o -> ∃ ins, l[j]? = some ins /\ dI P lm ops o = some ins) (hd : u6 ops l = true) {Q : Exit -> Act -> World -> Prop} {K : St -> Prop} (hQ : ∀ a w, fO Gl B w0 K a w -> Q .normal a w)
    (ha:vk P Gl true K l σ) (hI:Inv Gl F own B w0 σ act w):wpAny P .any ops Q ops.size (Array.replicate ops.size false) act w:=by
  obtain⟨d1,d2,d3⟩:=Ki hd
  obtain⟨as,hs,h0,hone,hK⟩:=trace ha
  generalize hn:ops.size=n at *
  have fF:∀ i,i < n->∃ o ins,ops[i]?=some o/\l[i]?=some ins/\dI P lm ops o=some ins/\l.getD i default=ins:=fun i hi=>by
    have ho:ops[i]?=some (ops[i]'(by omega)):=Array.getElem?_eq_getElem (by omega)
    obtain⟨ins,e1,e2⟩:=hc i _ ho
    exact⟨_,ins,ho,e1,e2,by simp[List.getD,e1]⟩
  have hstep:∀ i,i < n->(l.getD i default).i.cls ≠ 2->hs (i + 1)=hs i:=fun i hi hne=>by
    obtain⟨o,ins,_,e1,_,e3⟩:=fF i hi
    rw[e3]at hne
    exact(Di (τ:=⟨tS σ.t l as (λ_=>true) i,hs i⟩) (λ_ _=>rfl) (λ_=>rfl) (hone i ins e1)).1 hne
  have hconst:∀ a b,a<=b->b<=n->(∀ i,a<=i->i < b->(l.getD i default).i.cls ≠ 2)->hs b=hs a:=by
    intro a b hab hbn
    induction b with
    | zero => intro _; have : a = 0 := by omega
              subst this;rfl
    | succ b ih =>
      intro h
      rcases Nat.lt_or_ge b a with q|q
      · have:a=b + 1:=by omega
        subst this;rfl
      · rw [hstep b (by omega) (h b q (by omega))]
        exact ih q (by omega) λi p r=>h i p (by omega)
  have ahead:∀ (S:Nat->Bool),(∀ i,i < n->S i=true->∀ d ∈ direct ops i,S d=true)->∀ i j,i < n->(∀ d ∈ direct ops i,S d=true)->tb (Region.before ops) i j=true->j < i->S j=true:=by
    intro S hcl i
    induction i using Nat.strongRecOn with
    | _ i ih =>
      intro j hi fH ht hji
      rcases d2 i j hji hi ht with q|⟨d,hdm,r,q⟩
      .exact fH j q
      · have hdi:=d1 i d hi hdm
        exact ih d hdi j (by omega) (hcl d (by omega) (fH d hdm)) q r
  have zI:∀ (S:Nat->Bool),(∀ i,i < n->S i=true->∀ d ∈ direct ops i,S d=true)->∀ i j,i < n->j < i->S i=true->clash (l.getD j default) (l.getD i default)=true->S j=true:=fun S hcl i j hi hji hS hcl' =>
    ahead S hcl i j hi (hcl i hi hS) (d3 i j hji hi hcl') hji
  have zJ:∀ (S:Nat->Bool),(∀ i,i < n->S i=true->∀ d ∈ direct ops i,S d=true)->∀ i j,i < n->j < i->(∀ d ∈ direct ops i,S d=true)->clash (l.getD j default) (l.getD i default)=true->S j=true:=fun S hcl i j hi hji fH hcl' =>
    ahead S hcl i j hi fH (d3 i j hji hi hcl') hji
  have mem_ready:∀ (listed:Array Bool) (i:Nat),listed.size=n->i ∈ Region.ready .any ops listed->i < n/\listed.getD i false=false/\∀ d ∈ direct ops i,listed.getD d false=true:=by
    intro listed i hsz hi
    unfold Region.ready at hi
    rw[List.mem_filter,List.mem_range,hn]at hi
    obtain⟨h1,h2⟩:=hi
    rw[Bool.and_eq_true]at h2
    have e0:listed.getD i false=listed.getD i true:=by
      have:i<listed.size:=by omega
      simp[Array.getD,this]
    refine⟨h1,by rw[e0];simpa using h2.1,λd hd=>?_⟩
    obtain⟨o,ins,ho,_⟩:=fF i h1
    have h3:=h2.2
    rw[ho]at h3
    simp only[Option.map_some,Option.getD_some]at h3
    unfold direct at hd
    rw[ho]at hd
    simp only at hd
    obtain⟨e,he,hq⟩:=List.mem_filterMap.1 hd
    have:=Array.all_eq_true_iff_forall_mem.1 h3 e (by simpa using he)
    split at hq
    · rename_i hb
      cases hq
      simpa[hb]using this
    .cases hq
  have mI:∀ (listed:Array Bool) (i:Nat),listed.size=n->i < n->listed.getD i false=false->(∀ j,j < i->listed.getD j false=true)->i ∈ Region.ready .any ops listed:=by
    intro listed i hsz hi h1 h2
    unfold Region.ready
    rw[List.mem_filter,List.mem_range,hn]
    refine⟨hi,?_⟩
    have e0:listed.getD i false=listed.getD i true:=by
      have:i<listed.size:=by omega
      simp[Array.getD,this]
    rw[Bool.and_eq_true]
    refine⟨by rw[<- e0,h1];rfl,?_⟩
    obtain⟨o,ins,ho,_⟩:=fF i hi
    rw[ho]
    simp only[Option.map_some,Option.getD_some]
    refine Array.all_eq_true_iff_forall_mem.2 λe he=>?_
    cases hb:Region.binds .any e with
    |false=>rfl
    | true =>
      have hd:e.on ∈ direct ops i:=by
        unfold direct
        rw[ho]
        exact List.mem_filterMap.2 ⟨e,by simpa using he,by simp[hb]⟩
      have:=h2 e.on (d1 i e.on hi hd)
      simpa using this
  have main : ∀ (fuel : Nat) (listed : Array Bool) (τ : St) (F : Addr -> Option Value) (own : List Ent) (act : Act) (w : World), listed.size = n -> (∀ i, i < n -> listed.getD i false = true -> ∀ d ∈ direct ops i, listed.getD d false = true) ->
      ((List.range n).countP λi=>!listed.getD i false)=fuel->(∃k,k<=n/\(∀i,i<n->(l.getD i default).i.cls=2->(listed.getD i false=true↔i<k))/\τ.h=hs k)->τ.t=tS σ.t l as (λi=>listed.getD i false) n->
      Inv Gl F own B w0 τ act w->wpAny P .any ops Q fuel listed act w:=by
    intro fuel
    induction fuel with
    | zero =>
      intro listed τ F own act w hsz hcl hcnt ⟨k,hk,hkw,hh⟩ ht hI
      have hall:∀ i,i < n->listed.getD i false=true:=fun i hi=>by
        have:=List.countP_eq_zero.1 hcnt i (List.mem_range.2 hi)
        simpa using this
      refine⟨?_,hQ act w ⟨F,own,τ,hI,?_⟩⟩
      · apply List.eq_nil_iff_forall_not_mem.2
        intro i hi
        obtain⟨q1,q2,_⟩:=mem_ready listed i hsz hi
        rw[hall i q1]at q2
        cases q2
      · have e1 : τ.t = tS σ.t l as (fun _ => true) l.length := by
          rw[ht,hl];exact vX λj hj=>⟨rfl,hall j hj⟩
        have e2:τ.h=hs l.length:=by
          rw[hh,hl]
          exact(hconst k n hk (Nat.le_refl _) λi h1 h2 h3=>by have:=(hkw i h2 h3).1 (hall i h2);omega).symm
        have:τ=⟨tS σ.t l as (λ_=>true) l.length,hs l.length⟩:=by cases τ;simp only at e1 e2;rw[e1,e2]
        rw[this];exact hK
    | succ fuel ih =>
      intro listed τ F own act w hsz hcl hcnt ⟨k,hk,hkw,hh⟩ ht hI
      refine⟨λhnil=>?_,λi hi=>?_⟩
      · obtain ⟨i,h1,h2,h3⟩:=uL (n:=n) (S:=fun i=>listed.getD i false) (by omega)
        have:=mI listed i hsz h1 h2 h3
        rw[hnil]at this
        simp at this
      · obtain ⟨hin,hiS,fH⟩:=mem_ready listed i hsz hi
        obtain⟨o,ins,ho,hli,hci,hgd⟩:=fF i hin
        have a4z:∀ s,s ∈ ins.looks->τ.t.getD s .any=(tS σ.t l as (fun _=>true) i).getD s .any:=fun s hs'=>by
          have e1:tS σ.t l as (fun _=>true) i=tS σ.t l as (fun j=>decide (j < i)) n:=by
            rw[Dy (S:=λj=>decide (j<i)) (j:=i) (by omega) λj h1 h2=>by simp;omega]
            exact vX λj hj=>⟨rfl,by simp[hj]⟩
          rw[e1,ht]
          have:(tS σ.t l as (fun j=>listed.getD j false) n)[s]?=(tS σ.t l as (fun j=>decide (j < i)) n)[s]?:=LX fun j hj hdj=>by
            obtain⟨o',ins',_,hl',_,hg'⟩:=fF j hj
            have hdst:ins'.dst=some s:=by simpa[sI,hl']using hdj
            rcases Nat.lt_trichotomy j i with r|r|r
            · rw [decide_eq_true r]
              refine zJ _ hcl i j hin r fH ?_
              rw[hg',hgd]
              simp only[clash,hdst,Bool.or_eq_true,List.contains_iff_mem]
              exact .inl (.inl (.inl (.inl hs')))
            .subst r;simp[hiS]
            · rw [decide_eq_false (by omega)]
              cases hq:listed.getD j false with
              |false=>rfl
              | true =>
                have:=zI _ hcl j i hj r hq (by
                  rw[hg',hgd]
                  simp only[clash,hdst,Bool.or_eq_true,List.contains_iff_mem]
                  exact .inl (.inl (.inr hs')))
                rw[hiS]at this;cases this
          rw[List.getD_eq_getElem?_getD,List.getD_eq_getElem?_getD,this]
        have hheap:ins.i.cls ≠ 0->τ.h=hs i:=fun hne=>by
          rw[hh]
          have lo:∀ j,j < n->(l.getD j default).i.cls=2->j < i->j < k:=fun j hj hc2 hji=>by
            refine(hkw j hj hc2).1 (zJ _ hcl i j hin hji fH ?_)
            rw[hgd];exact Et hc2 hne
          have up:∀ j,j < n->(l.getD j default).i.cls=2->i < j->¬ j < k:=fun j hj hc2 hij hjk=>by
            have hSj:=(hkw j hj hc2).2 hjk
            have:=zI _ hcl j i hj hij hSj (by rw[hgd];exact YO hc2 hne)
            rw[hiS]at this;cases this
          have self:(l.getD i default).i.cls=2->¬ i < k:=fun hc2 hik=>by
            have:=(hkw i hin hc2).2 hik
            rw[hiS]at this;cases this
          rcases Nat.le_total k i with r|r
          .exact(hconst k i r (by omega) λj h1 h2 h3=>by have:=lo j (by omega) h3 h2;omega).symm
          · refine hconst i k r hk fun j h1 h2 h3=>?_
            rcases Nat.lt_or_ge i j with q|q
            .exact up j (by omega) h3 q h2
            · have:j=i:=by omega
              subst this;exact self h3 h2
        obtain⟨q0,h'',q1,q2,q3⟩:=Di (τ:=τ) (σ:=⟨tS σ.t l as (λ_=>true) i,hs i⟩) a4z hheap (hone i ins hli)
        have a1X:bS P Gl true τ ins (λρ=>ρ=St.put ⟨τ.t,h''⟩ ins.dst (as i)):=JW.2 ⟨as i,h'',q1,rfl⟩
        refine wpOp_mono ?_ (gT hI hci a1X Q ho)
        rintro a1 w1 ⟨F1,aQ,ρ,hI1,rfl⟩
        rw[put_eq]at hI1
        have hset:∀ j,(listed.setIfInBounds i true).getD j false=if j=i then true else listed.getD j false:=fun j=>by
          by_cases hji:j=i
          · subst hji
            have:j<listed.size:=by omega
            simp[Array.getD,this]
          · rw [if_neg hji]
            simp only[Array.getD_eq_getD_getElem?]
            rw[Array.getElem?_setIfInBounds_ne (λe=>hji e.symm)]
        refine ih (listed.setIfInBounds i true) ⟨wB τ.t ins.dst (as i),h''⟩ F1 aQ a1 w1 (by simp[hsz]) (λj hj hS d hdj=>?_) ?_ ?_ ?_ hI1
        · rw [hset] at hS ⊢
          split
          .rfl
          · split at hS
            .rename_i hji;subst hji;exact fH d hdj
            .exact hcl j hj hS d hdj
        · have:=count_set (n:=n) (S:=fun j=>listed.getD j false) (S':=fun j=>(listed.setIfInBounds i true).getD j false) hin hiS (by simp only [hset]; simp) (fun j hj=>by simp only [hset,if_neg hj])
          omega
        · by_cases hc2:ins.i.cls=2
          · refine ⟨i + 1,by omega,fun j hj hcj=>?_,by rw [q3 hc2]⟩
            rw[hset]
            split
            .rename_i hji;subst hji;simp
            · rename_i hji
              rw[hkw j hj hcj]
              constructor
              · intro hjk
                rcases Nat.lt_or_ge i j with r|r
                · have hSj:=(hkw j hj hcj).2 hjk
                  have:=zI _ hcl j i hj r hSj (by rw[hgd];exact Et hc2 (by omega))
                  rw[hiS]at this;cases this
                .omega
              · intro a9j
                refine(hkw j hj hcj).1 (zJ _ hcl i j hin (by omega) fH ?_)
                rw[hgd];exact Et hcj (by omega)
          · refine ⟨k,hk,fun j hj hcj=>?_,by rw [q2 hc2]; exact hh⟩
            rw[hset]
            split
            .rename_i hji;subst hji;rw[hgd]at hcj;exact absurd hcj hc2
            .exact hkw j hj hcj
        · simp only
          apply List.ext_getElem?
          intro s
          have hdi:sI l i=ins.dst:=by simp[sI,hli]
          by_cases hds:ins.dst=some s
          · have e1 : (tS σ.t l as (fun j => (listed.setIfInBounds i true).getD j false) n)[s]? = (tS σ.t l as (fun j => decide (j <= i)) n)[s]? := LX fun j hj hdj => by
              obtain⟨o',ins',_,hl',_,hg'⟩:=fF j hj
              have hdst:ins'.dst=some s:=by simpa[sI,hl']using hdj
              rw[hset]
              split
              .rename_i hji;subst hji;simp
              · rename_i hji
                rcases Nat.lt_or_ge j i with r|r
                · rw [decide_eq_true (by omega)]
                  refine zJ _ hcl i j hin r fH ?_
                  rw[hg',hgd];exact Lr hdst hds
                · rw [decide_eq_false (by omega)]
                  cases hq:listed.getD j false with
                  |false=>rfl
                  | true =>
                    have:=zI _ hcl j i hj (by omega) hq (by rw[hg',hgd];exact Lr hds hdst)
                    rw[hiS]at this;cases this
            rw[e1,Dy (S:=λj=>decide (j<=i)) (j:=i+1) (by omega) λj h1 h2=>by simp;omega]
            simp only[tS,decide_eq_true (Nat.le_refl i),if_true,hdi,hds]
            exact EP (by rw[ht,BF,BF])
          · rw [Kw hds,ht]
            exact LX fun j hj hdj=>by
              rw[hset]
              split
              .rename_i hji;subst hji;rw[hdi]at hdj;exact absurd hdj hds
              .rfl
  have hrep:∀ i,(Array.replicate n false).getD i false=false:=fun i=>by
    simp only[Array.getD_eq_getD_getElem?,Array.getElem?_replicate]
    split<;>rfl
  refine main n (Array.replicate n false) σ F own act w (by simp) (λi _ h=>by rw[hrep]at h;cases h) ?_ ⟨0,by omega,λi hi _=>by simp[hrep],h0.symm⟩ ?_ hI
  · have:((List.range n).countP fun i=>!(Array.replicate n false).getD i false)=(List.range n).length:=List.countP_eq_length.2 fun i _=>by rw [hrep]; rfl
    rw[this];simp
  · have:tS σ.t l as (fun i=>(Array.replicate n false).getD i false) n=tS σ.t l as (fun i=>(Array.replicate n false).getD i false) 0:=Dy (by omega) fun i _ _=>hrep i
    rw[this];rfl
end
def I.dn:I->Bool
 |.call ..=>true
 |_=>false
def I.ids(Gl:Nat->Option (List AV))(σ:St):I->List Nat
 |.load _ _ x=>match σ.val Gl x with|.ptr id _ _ _=>[id]|_=>[]
 |.jf _ _ _ x _=>match σ.val Gl x with|.ptr id _ _ _=>[id]|_=>[]
 |.aslice _ _ x _ _=>match σ.val Gl x with|.ptr id _ _ _=>[id]|_=>[]
 |.b2s x=>match σ.val Gl x with|.row id _ _ _ _=>[id]|_=>[]
 |.og _ _ _ x _=>match σ.val Gl x with|.mp id=>[id]|_=>[]
 |.call _ args=>(args.map (σ.val Gl)).flatMap aR
 |_=>[]
def agree(N:Nat)(U:List Nat)(h h':List ah):Prop:=∀id,id<N->id∉U->h'[id]?=h[id]?
theorem agree.symm{N:Nat}{U:List Nat}{h h':List ah}(a:agree N U h h'):agree N U h' h:=λid p q=>(a id p q).symm
def bn(p:Nat×Ins):Nat:=match p.1 with
 |0=>p.2.i.cls
 |1=>1
 |_=>2
theorem Qt{p:Nat×Ins}(h:p.1=0):bn p=p.2.i.cls:=by obtain⟨m,i⟩:=p;simp only at h;subst h;rfl
theorem Co{p:Nat×Ins}(h:p.1=1):bn p=1:=by obtain⟨m,i⟩:=p;simp only at h;subst h;rfl
theorem Cn{p:Nat×Ins}(h:p.1=2):bn p=2:=by obtain⟨m,i⟩:=p;simp only at h;subst h;rfl
def bY(a b:Nat×Ins):Bool :=
 (match a.2.dst with|some d=>b.2.looks.contains d||b.2.dst==some d|none=>false)||(match b.2.dst with|some d=>a.2.looks.contains d|none=>false)||
 (bn a==2&&bn b != 0&&!(a.1==2&&b.1==1))||(bn b==2&&bn a != 0&&!(b.1==2&&a.1==1))||(a.2.i.dn&&b.2.i.dn)
def NH(hc:List Nat):I->Bool
 |.call (.k (.func (.func f) _ _)) _=>hc.any (Nat.beq f)
 |_=>false
def marks(hc:List Nat)(ops:Array Oper)(l:List Ins):List (Nat×Ins) :=
 let bm:=Region.before ops
 let cl:=fun(a:Ins)=>if NH hc a.i then 2 else a.i.cls
 l.zipIdx.map fun(a,i)=>(if NH hc a.i then 2 else if cl a != 0&&l.zipIdx.any (fun(b,j)=>cl a+cl b==3&&cl b != 0&&!(tb bm i j||tb bm j i)) then cl a else 0,a)
def oz(ops:Array Oper)(l:List (Nat×Ins)):Bool :=
 let bm:=Region.before ops
 let n:=ops.size
 l.all (λp=>p.1==0||p.1==2||(p.1==1&&Nat.ble p.2.i.cls 1))&&(List.range n).all λi=>(direct ops i).all (λd=>decide (d<i))&&
  (List.range i).all λj=>(!tb bm i j||(direct ops i).contains j||(direct ops i).any λd=>decide (j<d)&&tb bm d j)&&(!bY (l.getD j default) (l.getD i default)||tb bm i j)
theorem F7(hc:List Nat)(ops:Array Oper)(l:List Ins):(marks hc ops l).length=l.length:=by simp[marks]
theorem IV{hc:List Nat}{ops:Array Oper}{l:List Ins}{j:Nat}{i:Ins}(h:l[j]?=some i):∃m,(marks hc ops l)[j]?=some (m,i):=by
 simp only[marks,List.getElem?_map,List.getElem?_zipIdx,h,Option.map_some,Nat.zero_add]
 exact⟨_,rfl⟩
def wants(σ:St)(ins:Ins):Prop:=match ins.gd with
 |none=>True
 |some (s,want)=>σ.t.getD s .any=.v (.bool want)
def lU(P:Program)(Gl:Nat->Option (List AV))(N:Nat)(U:List Nat)(p:Nat×Ins)(σ:St)(K:St->Prop):Prop:=match p.1 with
 |0=>bS P Gl true σ p.2 K
 |1=>(wants σ p.2->∀id∈p.2.i.ids Gl σ,id<N/\id∉U)/\bS P Gl true σ p.2 K
 |_=>bS P Gl false σ p.2 λρ=>agree N U σ.h ρ.h/\K ρ
def bH(P:Program)(Gl:Nat->Option (List AV))(N:Nat)(U:List Nat)(K:St->Prop):List (Nat×Ins)->St->Prop
 |[],σ=>K σ
 |p::r,σ=>lU P Gl N U p σ (bH P Gl N U K r)
section
variable{P:Program}{Gl:Nat->Option (List AV)}{F:Addr->Option Value}{own:List Ent}{B:Nat}{w0:W0}{σ τ:St}{act:Act}{w:World}{N:Nat}{U:List Nat}
theorem yF {ops:Array Oper} {l:List (Nat × Ins)} (h:oz ops l=true) :
  (∀i d,i<ops.size->d∈direct ops i->d<i)/\(∀i j,j<i->i<ops.size->tb (Region.before ops) i j=true->j∈direct ops i\/∃d∈direct ops i,j<d/\tb (Region.before ops) d j=true)/\
  (∀i j,j<i->i<ops.size->bY (l.getD j default) (l.getD i default)=true->tb (Region.before ops) i j=true)/\∀p∈l,p.1=0\/p.1=2\/(p.1=1/\p.2.i.cls<=1):=by
 unfold oz at h
 rw[Bool.and_eq_true]at h
 obtain⟨hm,h⟩:=h
 have h1:∀i,i<ops.size->_:=λi hi=>List.all_eq_true.1 h i (List.mem_range.2 hi)
 refine⟨λi d hi hd=>?_,λi j hj hi ht=>?_,λi j hj hi hc=>?_,λp hp=>?_⟩
 .have:=h1 i hi
  rw[Bool.and_eq_true]at this
  exact of_decide_eq_true (List.all_eq_true.1 this.1 d hd)
 .have:=h1 i hi
  rw[Bool.and_eq_true]at this
  have:=List.all_eq_true.1 this.2 j (List.mem_range.2 hj)
  rw[Bool.and_eq_true]at this
  have:=this.1
  simp only[ht,Bool.not_true,Bool.false_or,Bool.or_eq_true]at this
  rcases this with q|q
  .exact .inl (List.contains_iff_mem.1 q)
  .obtain⟨d,hd,hq⟩:=List.any_eq_true.1 q
   rw[Bool.and_eq_true]at hq
   exact .inr ⟨d,hd,of_decide_eq_true hq.1,hq.2⟩
 .have:=h1 i hi
  rw[Bool.and_eq_true]at this
  have:=List.all_eq_true.1 this.2 j (List.mem_range.2 hj)
  rw[Bool.and_eq_true]at this
  have:=this.2
  rw[hc]at this
  exact this
 .have:=List.all_eq_true.1 hm p hp
  simp only[Bool.or_eq_true,Bool.and_eq_true,beq_iff_eq]at this
  rcases this with(q|q)|⟨q,r⟩
  .exact .inl q
  .exact .inr (.inl q)
  .exact .inr (.inr ⟨q,Nat.le_of_ble_eq_true r⟩)
theorem iU {a b:Nat × Ins} (h:bY a b=false) :
  (∀d,a.2.dst=some d->d∉b.2.looks/\b.2.dst≠some d)/\(∀d,b.2.dst=some d->d∉a.2.looks)/\
  (bn a=2->bn b=0\/(a.1=2/\b.1=1))/\(bn b=2->bn a=0\/(b.1=2/\a.1=1))/\(a.2.i.dn=true->b.2.i.dn=false):=by
 unfold bY at h
 simp only[Bool.or_eq_false_iff]at h
 obtain⟨⟨⟨⟨h1,h2⟩,h3⟩,h4⟩,h5⟩:=h
 refine⟨λd hd=>?_,λd hd=>?_,λhm=>?_,λhm=>?_,λhm=>?_⟩
 .rw[hd]at h1
  simp only[Bool.or_eq_false_iff,beq_eq_false_iff_ne]at h1
  exact⟨(λq=>by rw[List.contains_iff_mem.2 q]at h1;cases h1.1),h1.2⟩
 .rw[hd]at h2
  simp only at h2
  exact λq=>by rw[List.contains_iff_mem.2 q]at h2;cases h2
 .rw[hm]at h3
  simp at h3
  by_cases q:bn b=0
  .exact .inl q
  .exact .inr (h3 q)
 .rw[hm]at h4
  simp at h4
  by_cases q:bn a=0
  .exact .inl q
  .exact .inr (h4 q)
 .rw[hm]at h5
  simpa using h5
def oO(Gl:Nat->Option (List AV))(σ:St)(ins:Ins):Option (Prop×AV×List ah):=match ins.gd with
 |none=>step Gl σ ins.i
 |some (s,want)=>match σ.t.getD s .any with
  |.v (.bool b)=>if b=want then step Gl σ ins.i else some (True,und,σ.h)
  |.v (.tuple _)=>some (True,und,σ.h)
  |_=>none
theorem Bq{d:Bool}{dst:Option Nat}{K:St->Prop}{i:I}(hn:i.dn=false):gF P Gl d σ dst K i↔∃q a h',step Gl σ i=some (q,a,h')/\q/\K (St.put ⟨σ.t,h'⟩ dst a):=by
 have e:gF P Gl d σ dst K i=(match step Gl σ i with|some (p,a,h')=>p/\K (St.put ⟨σ.t,h'⟩ dst a)|none=>False):=by cases i<;>first|rfl|(cases hn;done)
 rw[e]
 cases hs:step Gl σ i with
 |none=>exact⟨λh=>h.elim,fun⟨_,_,_,h,_⟩=>by cases h⟩
 |some q=>obtain⟨p,a,h'⟩:=q;exact⟨λh=>⟨p,a,h',rfl,h⟩,fun⟨_,_,_,h,r⟩=>by cases h;exact r⟩
theorem wU{d:Bool}{K:St->Prop}{ins:Ins}(hn:ins.i.dn=false):bS P Gl d σ ins K↔∃q a h',oO Gl σ ins=some (q,a,h')/\q/\K (St.put ⟨σ.t,h'⟩ ins.dst a):=by
 unfold bS oO
 cases ins.gd with
 |none=>exact Bq hn
 |some g =>
  obtain⟨s,want⟩:=g
  simp only
  have one:∀{X:Prop},K (σ.put ins.dst und)↔∃q a h',some ((True:Prop),und,σ.h)=some (q,a,h')/\q/\K (St.put ⟨σ.t,h'⟩ ins.dst a):=fun{X}=>⟨λh=>⟨_,_,_,rfl,trivial,h⟩,fun⟨_,_,_,h,_,r⟩=>by cases h;exact r⟩
  have no:False↔∃q a h',(none:Option (Prop×AV×List ah))=some (q,a,h')/\q/\K (St.put ⟨σ.t,h'⟩ ins.dst a):=⟨λh=>h.elim,fun⟨_,_,_,h,_⟩=>by cases h⟩
  generalize σ.t.getD s .any=g
  cases g with
  |v x=>cases x with
   |bool b =>
    simp only
    by_cases hb:b=want
    .simp only[if_pos hb];exact Bq hn
    .simp only[if_neg hb];exact one (X:=True)
   |tuple ys=>exact one (X:=True)
   |_=>exact no
  |_=>exact no
theorem Ho{i:I}(hc:i.cls<=1)(hn:i.dn=false)(hl:∀s∈i.reads,τ.t.getD s .any=σ.t.getD s .any)(hi:∀id∈i.ids Gl σ,τ.h[id]?=σ.h[id]?){q:Prop}{a:AV}{h':List ah}(hs:step Gl σ i=some (q,a,h')):h'=σ.h/\step Gl τ i=some (q,a,τ.h):=by
 by_cases h0:i.cls=0
 .exact xA h0 hl hs
 .have e1:step Gl ⟨τ.t,σ.h⟩ i=some (q,a,h'):=by rw[rW (σ:=σ) (τ:=⟨τ.t,σ.h⟩) hl rfl];exact hs
  have hv:∀x:Opd,(∀s∈x.slots,s∈i.reads)->σ.val Gl x=St.val Gl ⟨τ.t,σ.h⟩ x:=λx hx=>(val_congr (σ:=σ) (τ:=⟨τ.t,σ.h⟩) λs hs=>hl s (hx s hs)).symm
  have hvh:∀x:Opd,τ.val Gl x=St.val Gl ⟨τ.t,σ.h⟩ x:=λx=>by cases x<;>rfl
  cases i with
  |load sz ag x =>
   have hvx:=hv x (λs hs=>hs)
   simp only[I.ids,hvx]at hi
   simp only[step,hvh]at e1 ⊢
   split at e1
   .split at e1
    .rename_i hag
     rw[if_pos hag]
     split at e1
     .rename_i hsz;cases e1;rw[if_pos hsz];exact⟨rfl,rfl⟩
     .cases e1
    .rename_i cs _ hag
     rw[if_neg hag]
     cases cs with
     |nil=>cases e1
     |cons c cs=>cases e1;exact⟨rfl,rfl⟩
   .rename_i id G j o hp
    rw[hp]at hi
    rw[hi id (by simp)]
    split at e1
    .rename_i ob hob
     split at e1
     .rename_i hG
      rw[if_pos hG]
      split at e1
      .rename_i hag;cases e1;rw[if_pos hag];exact⟨rfl,rfl⟩
      .rename_i hag;cases e1;rw[if_neg hag];exact⟨rfl,rfl⟩
     .cases e1
    .cases e1
   .cases e1
  |jf bsz st n x k =>
   have hvx:=hv x (λs hs=>by simp only[I.reads,List.mem_append];exact .inl hs)
   simp only[I.ids,hvx]at hi
   simp only[step,hvh]at e1 ⊢
   split at e1
   .rename_i id G j o k' m hp hp2
    rw[hp]at hi
    rw[hi id (by simp)]
    split at e1
    .rename_i ob hob
     split at e1
     .rename_i hG;cases e1;rw[if_pos hG];exact⟨rfl,rfl⟩
     .rename_i hG
      split at e1
      .rename_i hG2;cases e1;rw[if_neg hG,if_pos hG2];exact⟨rfl,rfl⟩
      .cases e1
    .cases e1
   .cases e1;exact⟨rfl,rfl⟩
   .cases e1
  |b2s x =>
   have hvx:=hv x (λs hs=>hs)
   simp only[I.ids,hvx]at hi
   simp only[step,hvh]at e1 ⊢
   have he:dh τ.h 1 (St.val Gl ⟨τ.t,σ.h⟩ x)=dh σ.h 1 (St.val Gl ⟨τ.t,σ.h⟩ x):=by
    cases hx:St.val Gl ⟨τ.t,σ.h⟩ x with
    |row id G sz off len=>rw[hx]at hi;simp only[dh,hi id (by simp)]
    |v y =>
     by_cases hy:y=.slice none 0 0
     .subst hy;rfl
     ·have e0:∀ h:List ah,dh h 1 (.v y)=none:=fun h=>by
       unfold dh
       split
       .rename_i q;cases q
       .rename_i q;cases q;exact absurd rfl hy
       .rename_i q;cases q
       .rfl
      rw[e0,e0]
    |_=>simp only[dh]
   rw[he]
   split at e1
   .rename_i ys hys
    cases hb:bytesOf ys with
    |none=>rw[hb]at e1;cases e1
    |some l=>rw[hb]at e1;cases e1;exact⟨rfl,rfl⟩
   .cases e1
  |aslice bsz n x lo hi' =>
   have hvx:=hv x (λs hs=>by simp only[I.reads,List.mem_append];exact .inl (.inl hs))
   have hm:∀q:Option Opd,q.map (τ.val Gl)=q.map (St.val Gl ⟨τ.t,σ.h⟩):=λq=>by cases q<;>simp[hvh]
   simp only[I.ids,hvx]at hi
   simp only[step,hvh,hm]at e1 ⊢
   split at e1
   .rename_i id G j o hp
    rw[hp]at hi
    rw[hi id (by simp)]
    split at e1
    .rename_i ob hob
     split at e1
     .rename_i hG
      rw[if_pos hG]
      cases hq:fB n (lo.map (St.val Gl ⟨τ.t,σ.h⟩)) (hi'.map (St.val Gl ⟨τ.t,σ.h⟩)) with
      |none=>rw[hq]at e1;cases e1
      |some q=>rw[hq]at e1;cases e1;exact⟨rfl,rfl⟩
     .rename_i hG
      rw[if_neg hG]
      split at e1
      .rename_i hG2
       rw[if_pos hG2]
       cases hq:fB n (lo.map (St.val Gl ⟨τ.t,σ.h⟩)) (hi'.map (St.val Gl ⟨τ.t,σ.h⟩)) with
       |none=>rw[hq]at e1;cases e1
       |some q=>rw[hq]at e1;cases e1;exact⟨rfl,rfl⟩
      .cases e1
    .cases e1
   .cases e1
  |og kt ok z x k =>
   have hvx:=hv x (λs hs=>by simp only[I.reads,List.mem_append];exact .inl hs)
   simp only[I.ids,hvx]at hi
   simp only[step,hvh]at e1 ⊢
   split at e1
   .rename_i id hp
    rw[hp]at hi
    rw[hi id (by simp)]
    split at e1
    .rename_i ob hob
     split at e1
     .rename_i hG
      rw[if_pos hG]
      split at e1
      .cases e1;exact⟨rfl,rfl⟩
      .cases e1;exact⟨rfl,rfl⟩
     .cases e1
    .cases e1
   .cases e1
  |call f as=>cases hn
  |_=>first|exact absurd rfl h0|(simp[I.cls]at hc;done)
theorem nP{ins:Ins}(h:∀s∈ins.looks,τ.t.getD s .any=σ.t.getD s .any):∀s∈ins.i.reads,τ.t.getD s .any=σ.t.getD s .any:=λs hs=>h s (by simp[Ins.looks,hs])
theorem wF{ins:Ins}{s:Nat}{want:Bool}(h:∀s∈ins.looks,τ.t.getD s .any=σ.t.getD s .any)(hg:ins.gd=some (s,want)):τ.t.getD s .any=σ.t.getD s .any:=h s (by simp[Ins.looks,hg])
theorem zP{ins:Ins}(hl:∀s∈ins.looks,τ.t.getD s .any=σ.t.getD s .any):wants τ ins=wants σ ins:=by
 unfold wants
 cases hg:ins.gd with
 |none=>rfl
 |some g=>obtain⟨s,want⟩:=g;simp only;rw[wF hl hg]
theorem Io{ins:Ins}(hc:ins.i.cls<=1)(hn:ins.i.dn=false)(hl:∀s∈ins.looks,τ.t.getD s .any=σ.t.getD s .any)(hi:wants σ ins->∀id∈ins.i.ids Gl σ,τ.h[id]?=σ.h[id]?){q:Prop}{a:AV}{h':List ah}(hs:oO Gl σ ins=some (q,a,h')):h'=σ.h/\oO Gl τ ins=some (q,a,τ.h):=by
 unfold oO at hs ⊢
 cases hg:ins.gd with
 |none=>rw[hg]at hs;exact Ho hc hn (nP hl) (hi (by unfold wants;rw[hg];trivial)) hs
 |some g =>
  obtain⟨s,want⟩:=g
  rw[hg]at hs
  simp only at hs ⊢
  rw[wF hl hg]
  split at hs
  .rename_i b hb
   split at hs
   .rename_i hbw;rw[if_pos hbw];exact Ho hc hn (nP hl) (hi (by unfold wants;rw[hg];simp only;rw[hb,hbw])) hs
   .rename_i hbw;rw[if_neg hbw];cases hs;exact⟨rfl,rfl⟩
  .cases hs;exact⟨rfl,rfl⟩
  .cases hs
theorem XT{ins:Ins}(hl:∀s∈ins.looks,τ.t.getD s .any=σ.t.getD s .any)(hh:τ.h=σ.h):oO Gl τ ins=oO Gl σ ins:=by
 unfold oO
 rw[rW (nP hl) hh,hh]
 cases hg:ins.gd with
 |none=>rfl
 |some g=>obtain⟨s,want⟩:=g;simp only;rw[wF hl hg]
theorem Aq{ins:Ins}(hc:ins.i.cls<=1)(hn:ins.i.dn=false){q:Prop}{a:AV}{h':List ah}(hs:oO Gl σ ins=some (q,a,h')):h'=σ.h:=(Io (τ:=σ) hc hn (λ_ _=>rfl) (λ_ _ _=>rfl) hs).1
theorem Fp{i:I}(hl:∀s∈i.reads,τ.t.getD s .any=σ.t.getD s .any):i.ids Gl τ=i.ids Gl σ:=by
 have hv:∀x:Opd,(∀s∈x.slots,s∈i.reads)->τ.val Gl x=σ.val Gl x:=λx hx=>val_congr λs hs=>hl s (hx s hs)
 cases i with
 |load sz ag x=>simp only[I.ids,hv x (λs hs=>hs)]
 |jf bsz st n x k=>simp only[I.ids,hv x (λs hs=>by simp only[I.reads,List.mem_append];exact .inl hs)]
 |aslice bsz n x lo hi=>simp only[I.ids,hv x (λs hs=>by simp only[I.reads,List.mem_append];exact .inl (.inl hs))]
 |b2s x=>simp only[I.ids,hv x (λs hs=>hs)]
 |og kt ok z x k=>simp only[I.ids,hv x (λs hs=>by simp only[I.reads,List.mem_append];exact .inl hs)]
 |call f as=>simp only[I.ids,map_congr (Gl:=Gl) (σ:=σ) (τ:=τ) (xs:=as) λs hs=>hl s (by simp only[I.reads,List.mem_append];exact .inr hs)]
 |_=>rfl
def D(Gl:Nat->Option (List AV))(N:Nat)(U:List Nat)(p:Nat×Ins)(σ:St)(v:AV)(h2:List ah):Prop :=
 (∃q,oO Gl σ p.2=some (q,v,h2)/\q)/\(p.1=1->wants σ p.2->∀id∈p.2.i.ids Gl σ,id<N/\id∉U)/\(2<=p.1->agree N U σ.h h2)
theorem mZ{p:Nat×Ins}(hn:p.2.i.dn=false){K:St->Prop}:lU P Gl N U p σ K↔∃v h2,D Gl N U p σ v h2/\K (St.put ⟨σ.t,h2⟩ p.2.dst v):=by
 obtain⟨m,ins⟩:=p
 have ph:∀(h2:List ah) (v:AV),(St.put ⟨σ.t,h2⟩ ins.dst v).h=h2:=λh2 v=>by cases ins.dst<;>rfl
 match m with
 |0 =>
  show bS P Gl true σ ins K↔_
  rw[wU hn]
  constructor
  .rintro⟨q,a,h',e,hq,hK⟩;exact⟨a,h',⟨⟨q,e,hq⟩,(λr=>by cases r),(λr=>absurd r (by simp))⟩,hK⟩
  .rintro⟨a,h',⟨⟨q,e,hq⟩,_,_⟩,hK⟩;exact⟨q,a,h',e,hq,hK⟩
 |1 =>
  show(_/\bS P Gl true σ ins K)↔_
  rw[wU hn]
  constructor
  .rintro⟨hi,q,a,h',e,hq,hK⟩;exact⟨a,h',⟨⟨q,e,hq⟩,λ_=>hi,(λr=>absurd r (by simp))⟩,hK⟩
  .rintro⟨a,h',⟨⟨q,e,hq⟩,hi,_⟩,hK⟩;exact⟨hi rfl,q,a,h',e,hq,hK⟩
 |m+2 =>
  show bS P Gl false σ ins _↔_
  rw[wU hn]
  constructor
  .rintro⟨q,a,h',e,hq,hA,hK⟩
   rw[ph]at hA
   exact⟨a,h',⟨⟨q,e,hq⟩,(λr=>absurd r (by simp)),λ_=>hA⟩,hK⟩
  .rintro⟨a,h',⟨⟨q,e,hq⟩,_,hA⟩,hK⟩;exact⟨q,a,h',e,hq,by rw[ph];exact hA (by simp),hK⟩
theorem D.fn{p:Nat×Ins}{v v':AV}{h h':List ah}(a:D Gl N U p σ v h)(b:D Gl N U p σ v' h'):v=v'/\h=h':=by
 obtain⟨⟨q,e,_⟩,_⟩:=a
 obtain⟨⟨q',e',_⟩,_⟩:=b
 rw[e]at e';cases e';exact⟨rfl,rfl⟩
def okM(p:Nat×Ins):Prop:=p.1=0\/p.1=2\/(p.1=1/\p.2.i.cls<=1)
theorem D.tr {p:Nat × Ins} (hm:okM p) (hn:p.2.i.dn=false) (hl:∀ s ∈ p.2.looks,τ.t.getD s .any=σ.t.getD s .any) (hh:τ.h=σ.h\/bn p=0\/(p.1=1/\agree N U σ.h τ.h)) {v:AV} {h2:List ah} (h:D Gl N U p σ v h2) :
  D Gl N U p τ v (if bn p=2 then h2 else τ.h)/\(bn p≠2->h2=σ.h):=by
 obtain⟨⟨q,e,hq⟩,hi,ha⟩:=h
 have hi':p.1=1->wants τ p.2->∀id∈p.2.i.ids Gl τ,id<N/\id∉U:=λr=>by rw[Fp (nP hl),zP hl];exact hi r
 have low:p.2.i.cls<=1->(wants σ p.2->∀id∈p.2.i.ids Gl σ,τ.h[id]?=σ.h[id]?)->bn p≠2->D Gl N U p τ v (if bn p=2 then h2 else τ.h)/\(bn p≠2->h2=σ.h):=by
  intro hc NR h2'
  obtain⟨e1,e2⟩:=Io hc hn hl NR e
  refine⟨?_,λ_=>e1⟩
  rw[if_neg h2']
  refine⟨⟨q,e2,hq⟩,hi',λr=>?_⟩
  exfalso
  rcases hm with m|m|⟨m,_⟩
  .omega
  .exact h2' (Cn m)
  .omega
 rcases hh with hh|hh|⟨hh,hag⟩
 .have e':=XT (Gl:=Gl) hl hh
  rw[e]at e'
  have hc2:bn p≠2->h2=σ.h:=λhne=>by
   rcases hm with m|m|⟨m,c⟩
   .have:=Qt m
    have hle:p.2.i.cls<=2:=by cases p.2.i<;>simp[I.cls]
    exact Aq (by omega) hn e
   .exact absurd (Cn m) hne
   .exact Aq c hn e
  refine⟨⟨⟨q,?_,hq⟩,hi',λr=>?_⟩,hc2⟩
  .split
   .exact e'
   .rename_i hne;rw[hh,<- hc2 hne];exact e'
  .rw[hh]
   split
   .exact ha r
   .exact λ_ _ _=>rfl
 ·have h0:p.1=0:=by
   rcases hm with m|m|⟨m,_⟩
   .exact m
   .rw[Cn m]at hh;cases hh
   .rw[Co m]at hh;cases hh
  have hc:p.2.i.cls=0:=by rw[<- Qt h0];exact hh
  refine low (by omega) ?_ (by omega)
  have:p.2.i.ids Gl σ=[]:=by cases hp:p.2.i<;>first|rfl|(rw[hp]at hc;cases hc)
  rw[this];intro _ id hid;cases hid
 ·have hc:p.2.i.cls<=1:=by
   rcases hm with m|m|⟨_,m⟩
   .omega
   .omega
   .exact m
  exact low hc (λhw id hid=>hag id (hi hh hw id hid).1 (hi hh hw id hid).2) (by rw[Co hh];simp)
theorem Fg{h g:List ah}{a:AV}(hr:∀id∈jc a,g[id]?=h[id]?):iM g a=iM h a:=by
 cases a with
 |row id G sz off len=>simp only[iM];rw[hr id (by simp[jc])]
 |_=>rfl
theorem Qz{h g:List ah}:∀{cs:List AV},(∀id∈cs.flatMap jc,g[id]?=h[id]?)->gu g cs=gu h cs:=by
 intro cs
 induction cs with
 |nil=>intro _;rfl
 |cons c cs ih =>
  intro hr
  simp only[gu]
  rw[Fg λid hi=>hr id (by simp only[List.flatMap_cons,List.mem_append];exact .inl hi),ih λid hi=>hr id (by simp only[List.flatMap_cons,List.mem_append];exact .inr hi)]
theorem QA{h g:List ah}{a:AV}(hr:∀id∈aR a,g[id]?=h[id]?):dN g a=dN h a:=by
 cases a with
 |agg cs=>simp only[dN];rw[Qz hr]
 |row id G sz off len=>exact Fg (a:=.row id G sz off len) hr
 |_=>rfl
theorem NA{h g:List ah}:∀{cs:List AV},(∀id∈cs.flatMap aR,g[id]?=h[id]?)->aX g cs=aX h cs:=by
 intro cs
 induction cs with
 |nil=>intro _;rfl
 |cons c cs ih =>
  intro hr
  simp only[aX]
  rw[QA λid hi=>hr id (by simp only[List.flatMap_cons,List.mem_append];exact .inl hi),ih λid hi=>hr id (by simp only[List.flatMap_cons,List.mem_append];exact .inr hi)]
theorem set_self{α:Type}{l:List α}{i:Nat}{x:α}(h:l[i]?=some x):l.set i x=l:=by
 apply List.ext_getElem?
 intro j
 rw[List.getElem?_set]
 split
 .rename_i hj
  subst hj
  split
  .exact h.symm
  .rename_i hl;rw[List.getElem?_eq_none (by omega)]
 .rfl
theorem a2h:∀(ids:List Nat) (h:List ah) (j:Nat) (o:ah),(freeze h ids)[j]?=some o->∃o',h[j]?=some o'/\o'.es=o.es/\(j∈ids->o.fz=o.es.length)/\(o.fz=o'.fz\/o.fz=o.es.length):=by
 intro ids
 induction ids with
 |nil=>intro h j o e;exact⟨o,e,rfl,λq=>by simp at q,.inl rfl⟩
 |cons id ids ih =>
  intro h j o e
  simp only[freeze,List.foldl_cons]at e
  cases ho:h[id]? with
  |none =>
   rw[ho]at e
   simp only at e
   obtain⟨o',e1,e2,e3,e4⟩:=ih h j o e
   refine⟨o',e1,e2,λq=>?_,e4⟩
   rcases List.mem_cons.1 q with r|r
   .subst r;rw[ho]at e1;cases e1
   .exact e3 r
  |some ob =>
   rw[ho]at e
   simp only at e
   obtain⟨o',e1,e2,e3,e4⟩:=ih _ j o e
   rw[List.getElem?_set]at e1
   split at e1
   .rename_i hj
    subst hj
    split at e1
    .cases e1
     refine⟨ob,ho,e2,λ_=>?_,?_⟩
     .rcases e4 with r|r
      .rw[r];simp only at e2 ⊢;rw[e2]
      .exact r
     .rcases e4 with r|r
      .right;rw[r];simp only at e2 ⊢;rw[e2]
      .exact .inr r
    .cases e1
   .rename_i hj
    refine⟨o',e1,e2,λq=>?_,e4⟩
    rcases List.mem_cons.1 q with r|r
    .exact absurd r.symm hj
    .exact e3 r
theorem Fv:∀(ids:List Nat) (h:List ah),(∀id∈ids,∀o,h[id]?=some o->o.fz=o.es.length)->freeze h ids=h:=by
 intro ids
 induction ids with
 |nil=>intro h _;rfl
 |cons id ids ih =>
  intro h hq
  simp only[freeze,List.foldl_cons]
  cases ho:h[id]? with
  |none=>exact ih h λj hj=>hq j (by simp[hj])
  |some ob =>
   simp only
   have:({ ob with fz:=ob.es.length }:ah)=ob:=by
    have:=hq id (by simp) ob ho
    rw[<- this]
   rw[this,set_self ho]
   exact ih h λj hj=>hq j (by simp[hj])
theorem Ke{h g:List ah}{ids:List Nat}(hr:∀id∈ids,g[id]?=h[id]?)(hf:freeze h ids=h):freeze g ids=g:=by
 refine Fv ids g λid hi o ho=>?_
 rw[hr id hi]at ho
 rw[<- hf]at ho
 obtain⟨_,_,_,e3,_⟩:=a2h ids h id o ho
 exact e3 hi
theorem q9 {p:Nat × Ins} {K1 K2:St->Prop} (hm:okM p) (hl:∀ s ∈ p.2.looks,τ.t.getD s .any=σ.t.getD s .any) (hh:τ.h=σ.h\/bn p=0\/(p.1=1/\agree N U σ.h τ.h))
  (hK:∀v h1,K1 (St.put ⟨σ.t,h1⟩ p.2.dst v)->(bn p≠2->h1=σ.h)->(2<=p.1->agree N U σ.h h1)->K2 (St.put ⟨τ.t,if bn p=2 then h1 else τ.h⟩ p.2.dst v)) (h:lU P Gl N U p σ K1):lU P Gl N U p τ K2:=by
 by_cases hcall:p.2.i.dn=true
 case neg =>
  have hn:p.2.i.dn=false:=by simpa using hcall
  rw[mZ hn]at h ⊢
  obtain⟨v,h2,hD,hk⟩:=h
  obtain⟨d1,d2⟩:=hD.tr hm hn hl hh
  exact⟨v,_,d1,hK v h2 hk d2 hD.2.2⟩
 case pos =>
  obtain⟨m,dst,gd,i⟩:=p
  simp only at hcall hl hh hK
  obtain⟨fo,args,rfl⟩:∃fo args,i=.call fo args:=by cases i<;>first|exact⟨_,_,rfl⟩|cases hcall
  have hr:=nP hl
  have hA:args.map (τ.val Gl)=args.map (σ.val Gl):=map_congr λs hs=>hr s (by simp only[I.reads,List.mem_append];exact .inr hs)
  have hO:τ.val Gl fo=σ.val Gl fo:=val_congr λs hs=>hr s (by simp only[I.reads,List.mem_append];exact .inl hs)
  have a8N:=Fp (Gl:=Gl) hr
  have hne0:¬bn (m,(⟨dst,gd,.call fo args⟩:Ins))=0:=by
   rcases hm with q|q|⟨q,_⟩<;>(simp only at q;subst q;simp[bn,I.cls])
  have guard:∀(d:Bool) (K1 K2:St->Prop),(wants σ ⟨dst,gd,.call fo args⟩->gF P Gl d σ dst K1 (.call fo args)->gF P Gl d τ dst K2 (.call fo args))->(K1 (σ.put dst und)->K2 (τ.put dst und))->bS P Gl d σ ⟨dst,gd,.call fo args⟩ K1->bS P Gl d τ ⟨dst,gd,.call fo args⟩ K2:=by
   intro d K1 K2 he hu h
   unfold bS at h ⊢
   cases hg:gd with
   |none=>subst hg;exact he trivial h
   |some g =>
    obtain⟨s,want⟩:=g
    subst hg
    simp only at h ⊢
    rw[wF hl rfl]
    split at h
    .rename_i b hbb
     split at h
     .rename_i hb;rw[if_pos hb];exact he (by unfold wants;simp only;rw[hbb,hb]) h
     .rename_i hb;rw[if_neg hb];exact hu h
    .exact hu h
    .exact h.elim
  have ZB:∀K1 K2:St->Prop,(∀v h1,K1 (St.put ⟨σ.t,h1⟩ dst v)->h1=σ.h->K2 (St.put ⟨τ.t,τ.h⟩ dst v))->K1 (σ.put dst und)->K2 (τ.put dst und):=λK1 K2 hk h=>hk und σ.h h rfl
  have VJ:∀K1 K2:St->Prop,(∀id∈(args.map (σ.val Gl)).flatMap aR,τ.h[id]?=σ.h[id]?)->(∀v h1,K1 (St.put ⟨σ.t,h1⟩ dst v)->h1=σ.h->K2 (St.put ⟨τ.t,τ.h⟩ dst v))->gF P Gl true σ dst K1 (.call fo args)->gF P Gl true τ dst K2 (.call fo args):=by
   intro K1 K2 NR hk h
   obtain(⟨h1,_⟩|⟨f,hf,hcb,(⟨as,res,h1,h2,h3,h4⟩|⟨h1,_⟩)⟩):=h
   .cases h1
   .have h3':=h3 rfl
    rw[h3']at h4
    have e3:(if scalar res then τ.h else freeze τ.h ((args.map (τ.val Gl)).flatMap aR))=τ.h:=by
     split
     .rfl
     .rename_i hs
      rw[if_neg hs]at h3'
      rw[hA]
      exact Ke NR h3'
    refine .inr ⟨f,by rw[hO];exact hf,hcb,.inl ⟨as,res,?_,h2,λ_=>e3,?_⟩⟩
    .rw[hA,NA NR];exact h1
    .rw[e3];exact hk res _ h4 rfl
   .cases h1
  match m,hm,hh,hK,h,hne0 with
  |0,hm,hh,hK,h,hne0 =>
   have hτ:τ.h=σ.h:=by
    rcases hh with q|q|⟨q,_⟩
    .exact q
    .exact absurd q hne0
    .cases q
   have hk:∀v h1,K1 (St.put ⟨σ.t,h1⟩ dst v)->h1=σ.h->K2 (St.put ⟨τ.t,τ.h⟩ dst v):=λv h1 q e=>hK v h1 q (λ_=>e) (λr=>absurd r (by simp))
   exact guard true K1 K2 (λ_=>VJ K1 K2 (λid _=>by rw[hτ]) hk) (ZB K1 K2 hk) h
  |1,hm,hh,hK,h,hne0 =>
   obtain⟨hi,h⟩:=h
   have hk:∀v h1,K1 (St.put ⟨σ.t,h1⟩ dst v)->h1=σ.h->K2 (St.put ⟨τ.t,τ.h⟩ dst v):=λv h1 q e=>hK v h1 q (λ_=>e) (λr=>absurd r (by simp))
   refine⟨by rw[a8N,zP hl];exact hi,guard true K1 K2 (λhw=>VJ K1 K2 (λid hid=>?_) hk) (ZB K1 K2 hk) h⟩
   rcases hh with q|q|⟨_,q⟩
   .rw[q]
   .exact absurd q hne0
   .exact q id (hi hw id hid).1 (hi hw id hid).2
  |m+2,hm,hh,hK,h,hne0 =>
   have hτ:τ.h=σ.h:=by
    rcases hh with q|q|⟨q,_⟩
    .exact q
    .exact absurd q hne0
    .cases q
   have ph:∀(t:List AV) (h2:List ah) (v:AV),(St.put ⟨t,h2⟩ dst v).h=h2:=λt h2 v=>by cases dst<;>rfl
   have hk:∀v h1,(agree N U σ.h (St.put ⟨σ.t,h1⟩ dst v).h/\K1 (St.put ⟨σ.t,h1⟩ dst v))->agree N U τ.h (St.put ⟨τ.t,h1⟩ dst v).h/\K2 (St.put ⟨τ.t,h1⟩ dst v):=by
    intro v h1 ⟨q1,q2⟩
    rw[ph]at q1 ⊢
    exact⟨by rw[hτ];exact q1,hK v h1 q2 (λq=>absurd rfl q) (λ_=>q1)⟩
   refine guard false _ _ (λ_ h=>?_) (λh=>?_) h
   .obtain(⟨_,f,cs,hf,hcb,h1⟩|⟨f,hf,hcb,(⟨as,res,h1,h2,h3,h4⟩|⟨_,h1⟩)⟩):=h
    .refine .inl ⟨rfl,f,cs,by rw[hO];exact hf,hcb,?_⟩
     rw[hA,hτ]
     intro F own B w0 t act w xs hI hR
     refine(h1 F own B w0 t act w xs hI hR).mono ?_
     rintro e w' ⟨v,res,h',F',own',g1,g2,g3,g4⟩
     exact⟨v,res,h',F',own',g1,g2,g3,hτ▸hk res h' g4⟩
    .refine .inr ⟨f,by rw[hO];exact hf,hcb,.inl ⟨as,res,by rw[hA,hτ];exact h1,h2,(λq=>by cases q),?_⟩⟩
     rw[hA,hτ]
     have q:=hk res _ h4
     rw[hτ]at q
     exact q
    .refine .inr ⟨f,by rw[hO];exact hf,hcb,.inr ⟨rfl,?_⟩⟩
     rw[hA,hτ]
     intro F own B w0 t act w xs hI hR
     refine(h1 F own B w0 t act w xs hI hR).mono ?_
     rintro e w' ⟨v,res,h',F',own',g1,g2,g3,g4⟩
     exact⟨v,res,h',F',own',g1,g2,g3,hτ▸hk res h' g4⟩
   .have:=hk und σ.h h
    have e:(⟨τ.t,σ.h⟩:St)=τ:=by rw[<- hτ]
    rw[e]at this
    exact this
theorem OO{ops:Array Oper}{k:Nat}{K:Act->World->Prop}(h:wpOp P ops (λ_ _ _=>False) k K act w):∃a1 w1,K a1 w1:=by
 unfold wpOp at h
 split at h
 .exact⟨_,_,h⟩
 .rename_i o ho
  split at h
  .rcases h with h|⟨_,a,w,q⟩
   .unfold Oper.wp at h
    generalize (execOp act.eval o).run P w=r at h
    cases r with
    |ok n w' =>
     cases n<;>simp only[Oper.upon]at h<;>first
      |exact h.elim
      |exact⟨_,_,h⟩
      |skip
     .obtain⟨e,w1,fr,hR,_⟩:=h []
      cases e with
      |returned v=>exact⟨_,_,hR⟩
      |panicked ch=>exact hR.elim
      |outgrown=>obtain⟨_,_,q⟩:=hR;exact q.elim
     .obtain⟨v,w1,hR,_⟩:=h default []
      exact⟨_,_,hR⟩
    |halt s w'=>cases s<;>exact h.elim
   .exact q.elim
  .exact⟨_,_,h⟩
theorem BH {lm:Bool} {ops:Array Oper} {k:Nat} {o:Oper} {p:Nat × Ins} (hm:okM p) (ho:ops[k]?=some o) (hc:dI P lm ops o=some p.2) (hI:Inv Gl F own B w0 σ act w) {K:St->Prop} (h:lU P Gl N U p σ K) :
  ∃F1 aQ Bo w1 v h1,Inv Gl F1 aQ B w0 (St.put ⟨σ.t,h1⟩ p.2.dst v) Bo w1/\K (St.put ⟨σ.t,h1⟩ p.2.dst v)/\(bn p≠2->h1=σ.h)/\(2<=p.1->agree N U σ.h h1):=by
 have h':lU P Gl N U p σ (λρ=>∃v h1,ρ=St.put ⟨σ.t,h1⟩ p.2.dst v/\K ρ/\(bn p≠2->h1=σ.h)/\(2<=p.1->agree N U σ.h h1)):=by
  refine q9 (τ:=σ) hm (λ_ _=>rfl) (.inl rfl) (λv h1 k1 k2 k3=>?_) h
  by_cases hq:bn p=2
  .rw[if_pos hq];exact⟨v,h1,rfl,k1,k2,k3⟩
  .rw[if_neg hq];rw[k2 hq]at k1;exact⟨v,σ.h,rfl,k1,λ_=>rfl,λ_ _ _ _=>rfl⟩
 have ex:∃d K',bS P Gl d σ p.2 K'/\∀ρ,K' ρ->∃v h1,ρ=St.put ⟨σ.t,h1⟩ p.2.dst v/\K ρ/\(bn p≠2->h1=σ.h)/\(2<=p.1->agree N U σ.h h1):=by
  obtain⟨m,ins⟩:=p
  match m,h' with
  |0,h'=>exact⟨true,_,h',λ_ q=>q⟩
  |1,h'=>exact⟨true,_,h'.2,λ_ q=>q⟩
  |m+2,h'=>exact⟨false,_,h',λ_ q=>q.2⟩
 obtain⟨d,K',hs,hK'⟩:=ex
 obtain⟨Bo,w1,F1,aQ,ρ,hI1,hk⟩:=OO (gT hI hc hs (λ_ _ _=>False) ho)
 obtain⟨v,h1,rfl,k1,k2,k3⟩:=hK' ρ hk
 exact⟨F1,aQ,Bo,w1,v,h1,hI1,k1,k2,k3⟩
theorem Cb{t:List AV}{h:List ah}{d:Option Nat}{a:AV}{s:Nat}(hs:d≠some s):(St.put ⟨t,h⟩ d a).t.getD s .any=t.getD s .any:=by
 cases d with
 |none=>rfl
 |some i =>
  have:i≠s:=λq=>hs (by rw[q])
  simp only[St.put,List.getD,List.getElem?_set_ne this]
theorem ig{t:List AV}{h:List ah}{d:Option Nat}{a:AV}:(St.put ⟨t,h⟩ d a).h=h:=by cases d<;>rfl
theorem put_comm{t:List AV}{h g k:List ah}{d e:Option Nat}{a b:AV}(hd:∀s,d=some s->e≠some s):St.put ⟨(St.put ⟨t,h⟩ d a).t,k⟩ e b=St.put ⟨(St.put ⟨t,g⟩ e b).t,k⟩ d a:=by
 cases d with
 |none=>cases e<;>rfl
 |some i =>
  cases e with
  |none=>rfl
  |some j =>
   have:i≠j:=λq=>hd i rfl (by rw[q])
   simp only[St.put]
   rw[List.set_comm _ _ this]
theorem AP{a b:Nat×Ins}(hab:bY a b=false)(hma:okM a){h1:List ah}(k2:bn a≠2->h1=σ.h)(k3:2<=a.1->agree N U σ.h h1):h1=σ.h\/bn b=0\/(b.1=1/\agree N U σ.h h1):=by
 by_cases ha:bn a=2
 .rcases(iU hab).2.2.1 ha with q|⟨q1,q2⟩
  .exact .inr (.inl q)
  .exact .inr (.inr ⟨q2,k3 (by omega)⟩)
 .exact .inl (k2 ha)
theorem Fq{a b:Nat×Ins}(hab:bY a b=false){h2:List ah}(k2:bn b≠2->h2=σ.h)(k3:2<=b.1->agree N U σ.h h2):h2=σ.h\/bn a=0\/(a.1=1/\agree N U σ.h h2):=by
 by_cases hb:bn b=2
 .rcases(iU hab).2.2.2.1 hb with q|⟨q1,q2⟩
  .exact .inr (.inl q)
  .exact .inr (.inr ⟨q2,k3 (by omega)⟩)
 .exact .inl (k2 hb)
theorem Ai{a b:Nat×Ins}(hab:bY a b=false){h1:List ah}{v:AV}:∀s∈b.2.looks,(St.put ⟨σ.t,h1⟩ a.2.dst v).t.getD s .any=σ.t.getD s .any:=λs hs=>Cb λq=>((iU hab).1 s q).1 hs
theorem Hw{a b:Nat×Ins}(hab:bY a b=false){h1:List ah}{v:AV}:∀s∈a.2.looks,(St.put ⟨σ.t,h1⟩ b.2.dst v).t.getD s .any=σ.t.getD s .any:=λs hs=>Cb λq=>(iU hab).2.1 s q hs
theorem Lj{lm:Bool}{ops:Array Oper}{b:Nat×Ins}(hmb:okM b)(hn:b.2.i.dn=false){post:List (Nat×Ins)}{K:St->Prop}:∀(pre:List (Nat×Ins)),(∀a∈pre,okM a/\bY a b=false/\∃(k:Nat) (o:Oper),ops[k]?=some o/\dI P lm ops o=some a.2)->∀(σ:St) (F:Addr->Option Value) (own:List Ent) (act:Act) (w:World),Inv Gl F own B w0 σ act w->bH P Gl N U K (pre++b::post) σ->∃v h2,D Gl N U b σ v h2:=by
 intro pre
 induction pre with
 |nil=>intro _ σ F own act w _ h;obtain⟨v,h2,hD,_⟩:=(mZ hn).1 h;exact⟨v,h2,hD⟩
 |cons a pre ih =>
  intro hp σ F own act w hI h
  obtain⟨hma,hab,k,o,ho,hc⟩:=hp a (by simp)
  obtain⟨F1,aQ,Bo,w1,v,h1,hI1,hK,k2,k3⟩:=BH hma ho hc hI h
  obtain⟨vb,hb,hD⟩:=ih (λx hx=>hp x (by simp[hx])) _ F1 aQ Bo w1 hI1 hK
  have hl:∀s∈b.2.looks,σ.t.getD s .any=(St.put ⟨σ.t,h1⟩ a.2.dst v).t.getD s .any:=λs hs=>(Ai hab s hs).symm
  have hh:σ.h=(St.put ⟨σ.t,h1⟩ a.2.dst v).h\/bn b=0\/(b.1=1/\agree N U (St.put ⟨σ.t,h1⟩ a.2.dst v).h σ.h):=by
   rw[ig]
   rcases AP hab hma k2 k3 with q|q|⟨q,r⟩
   .exact .inl q.symm
   .exact .inr (.inl q)
   .exact .inr (.inr ⟨q,r.symm⟩)
  exact⟨_,_,(hD.tr hmb hn hl hh).1⟩
theorem wR{b:Nat×Ins}(hmb:okM b)(hn:b.2.i.dn=false){post:List (Nat×Ins)}{K:St->Prop}:∀(pre:List (Nat×Ins)),(∀a∈pre,okM a/\bY a b=false)->∀(σ:St) (v:AV) (h2:List ah),D Gl N U b σ v h2->bH P Gl N U K (pre++b::post) σ->bH P Gl N U K (pre++post) (St.put ⟨σ.t,h2⟩ b.2.dst v):=by
 intro pre
 induction pre with
 |nil =>
  intro _ σ v h2 hD h
  obtain⟨v',h2',hD',hk⟩:=(mZ hn).1 h
  obtain⟨rfl,rfl⟩:=hD.fn hD'
  exact hk
 |cons a pre ih =>
  intro hp σ v h2 hD h
  obtain⟨hma,hab⟩:=hp a (by simp)
  have hD2:=(hD.tr (τ:=σ) hmb hn (λ_ _=>rfl) (.inl rfl)).2
  refine q9 (σ:=σ) (τ:=St.put ⟨σ.t,h2⟩ b.2.dst v) (K1:=bH P Gl N U K (pre++b::post)) hma (Hw hab) (by rw[ig];exact Fq hab hD2 hD.2.2) ?_ h
  intro va h1 hk k2 k3
  have hD1:=(hD.tr (τ:=St.put ⟨σ.t,h1⟩ a.2.dst va) hmb hn (Ai hab) (by rw[ig];exact AP hab hma k2 k3)).1
  have:=ih (λx hx=>hp x (by simp[hx])) _ v _ hD1 hk
  rw[ig]at this ⊢
  rw[put_comm (g:=h2) λs q=>((iU hab).1 s q).2]at this
  have e:(if bn b=2 then h2 else h1)=(if bn a=2 then h1 else h2):=by
   by_cases ha:bn a=2
   ·have hb:bn b ≠ 2:=by
     rcases(iU hab).2.2.1 ha with q|⟨_,q⟩
     .omega
     .rw[Co q];simp
    rw[if_pos ha,if_neg hb]
   .rw[if_neg ha]
    split
    .rfl
    .rename_i hb;rw[k2 ha,hD2 hb]
  rw[e]at this
  exact this
theorem CY{b:Nat×Ins}(hmb:okM b)(hb:b.2.i.dn=true){post:List (Nat×Ins)}{K:St->Prop}:∀(pre:List (Nat×Ins)),(∀a∈pre,okM a/\bY a b=false)->∀(σ:St),bH P Gl N U K (pre++b::post) σ->lU P Gl N U b σ (bH P Gl N U K (pre++post)):=by
 intro pre
 induction pre with
 |nil=>intro _ σ h;exact h
 |cons a pre ih =>
  intro hp σ h
  obtain⟨hma,hab⟩:=hp a (by simp)
  have hna:a.2.i.dn=false:=by
   cases q:a.2.i.dn with
   |false=>rfl
   |true=>have:=(iU hab).2.2.2.2 q;rw[hb]at this;cases this
  obtain⟨va,h1,hD,hk⟩:=(mZ hna).1 h
  have hDs:=(hD.tr (τ:=σ) hma hna (λ_ _=>rfl) (.inl rfl)).2
  have h2:=ih (λx hx=>hp x (by simp[hx])) _ hk
  refine q9 (σ:=St.put ⟨σ.t,h1⟩ a.2.dst va) (τ:=σ) (K1:=bH P Gl N U K (pre++post)) hmb (λs hs=>(Ai hab s hs).symm) ?_ ?_ h2
  .rw[ig]
   rcases AP hab hma hDs hD.2.2 with q|q|⟨q,r⟩
   .exact .inl q.symm
   .exact .inr (.inl q)
   .exact .inr (.inr ⟨q,r.symm⟩)
  .intro vb hb1 hk2 k2 k3
   rw[ig]at k2 k3
   show lU P Gl N U a _ _
   rw[mZ hna]
   have k2':bn b≠2->(if bn b=2 then hb1 else σ.h)=σ.h:=λq=>if_neg q
   have k3':2<=b.1->agree N U σ.h (if bn b=2 then hb1 else σ.h):=λq=>by
    have h2b:bn b=2:=by
     rcases hmb with r|r|⟨r,_⟩
     .omega
     .exact Cn r
     .omega
    rw[if_pos h2b]
    have hσ:h1=σ.h:=by
     apply hDs
     intro ha
     rcases(iU hab).2.2.1 ha with r|⟨_,r⟩<;>omega
    rw[<- hσ];exact k3 q
   have hDa:=hD.tr (τ:=St.put ⟨σ.t,if bn b=2 then hb1 else σ.h⟩ b.2.dst vb) hma hna (Hw hab) (by rw[ig];exact Fq hab k2' k3')
   refine⟨va,_,hDa.1,?_⟩
   rw[ig]
   rw[put_comm (g:=(if bn b=2 then hb1 else σ.h)) λs q=>((iU hab).1 s q).2]at hk2
   have e:hb1=(if bn a=2 then h1 else(if bn b=2 then hb1 else σ.h)):=by
    by_cases ha:bn a=2
    ·have hb2:bn b ≠ 2:=by
      rcases(iU hab).2.2.1 ha with q|⟨_,q⟩
      .omega
      .rw[Co q];simp
     rw[if_pos ha,k2 hb2]
    .rw[if_neg ha]
     split
     .rfl
     .rename_i hb2;rw[k2 hb2,hDs ha]
   rw[<- e]
   exact hk2
theorem KV {lm:Bool} {ops:Array Oper} {b:Nat × Ins} {kb:Nat} {ob:Oper} (hmb:okM b) (hob:ops[kb]?=some ob) (hcb:dI P lm ops ob=some b.2) {post:List (Nat × Ins)} {K:St->Prop} {Q:Exit->Act->World->Prop} (pre:List (Nat × Ins)) (hp:∀ a ∈ pre,okM a/\bY a b=false/\∃ (k:Nat) (o:Oper),ops[k]?=some o/\dI P lm ops o=some a.2) (hI:Inv Gl F own B w0 σ act w) (h:bH P Gl N U K (pre ++ b :: post) σ) :
  wpOp P ops Q kb (fO Gl B w0 (bH P Gl N U K (pre++post))) act w:=by
 have h':lU P Gl N U b σ (bH P Gl N U K (pre++post)):=by
  cases hn:b.2.i.dn with
  |true=>exact CY hmb hn pre (λa ha=>⟨(hp a ha).1,(hp a ha).2.1⟩) σ h
  |false =>
   obtain⟨v,h2,hD⟩:=Lj hmb hn pre hp σ F own act w hI h
   rw[mZ hn]
   exact⟨v,h2,hD,wR hmb hn pre (λa ha=>⟨(hp a ha).1,(hp a ha).2.1⟩) σ v h2 hD h⟩
 have ex:∃d,bS P Gl d σ b.2 (bH P Gl N U K (pre++post))\/bS P Gl d σ b.2 (λρ=>agree N U σ.h ρ.h/\bH P Gl N U K (pre++post) ρ):=by
  obtain⟨m,ins⟩:=b
  match m,h' with
  |0,h'=>exact⟨true,.inl h'⟩
  |1,h'=>exact⟨true,.inl h'.2⟩
  |m+2,h'=>exact⟨false,.inr h'⟩
 obtain⟨d,h'|h'⟩:=ex
 .exact gT hI hcb h' Q hob
 .refine wpOp_mono ?_ (gT hI hcb h' Q hob)
  rintro a1 w1 ⟨F1,aQ,ρ,hI1,_,hk⟩
  exact⟨F1,aQ,ρ,hI1,hk⟩
theorem pz{p q:Nat->Bool}{i:Nat}:∀(l:List Nat),l.Pairwise (·<·)->i∈l->p i=true->(∀j,q j=if j=i then false else p j)->∃pre post,l.filter p=pre++i::post/\l.filter q=pre++post/\∀j∈pre,j<i:=by
 intro l
 induction l with
 |nil=>intro _ hi;cases hi
 |cons a l ih =>
  intro hs hi hp hq
  rw[List.pairwise_cons]at hs
  by_cases hai:a=i
  .subst hai
   refine⟨[],l.filter p,by rw[List.filter_cons_of_pos hp];rfl,?_,by simp⟩
   rw[List.filter_cons_of_neg (by rw[hq];simp)]
   apply List.filter_congr
   intro x hx
   rw[hq,if_neg]
   intro e;have:=hs.1 x hx;omega
  .have hil:i∈l:=by rcases List.mem_cons.1 hi with r|r;exact absurd r.symm hai;exact r
   obtain⟨pre,post,e1,e2,e3⟩:=ih hs.2 hil hp hq
   have hqa:q a=p a:=by rw[hq,if_neg hai]
   cases hpa:p a with
   |true =>
    refine⟨a::pre,post,by rw[List.filter_cons_of_pos hpa,e1];rfl,by rw[List.filter_cons_of_pos (by rw[hqa];exact hpa),e2];rfl,λj hj=>?_⟩
    rcases List.mem_cons.1 hj with r|r
    .subst r;exact hs.1 i hil
    .exact e3 j r
   |false =>
    exact⟨pre,post,by rw[List.filter_cons_of_neg (by simp[hpa]),e1],by rw[List.filter_cons_of_neg (by simp[hqa,hpa]),e2],e3⟩
theorem JC {lm:Bool} {ops:Array Oper} {L:List (Nat × Ins)} (hl:L.length=ops.size) (hc:∀ (j:Nat) (o:Oper),ops[j]?=some o->∃ p,L[j]?=some p/\dI P lm ops o=some p.2) (hd:oz ops L=true) {Q:Exit->Act->World->Prop} {K:St->Prop} (hQ:∀ a w,fO Gl B w0 K a w->Q .normal a w)
  (ha:bH P Gl N U K L σ) (hI:Inv Gl F own B w0 σ act w):wpAny P .any ops Q ops.size (Array.replicate ops.size false) act w:=by
 obtain⟨d1,d2,d3,dm⟩:=yF hd
 generalize hn:ops.size=n at *
 have fF:∀i,i<n->∃o p,ops[i]?=some o/\L[i]?=some p/\dI P lm ops o=some p.2/\L.getD i default=p/\okM p:=λi hi=>by
  have ho:ops[i]?=some (ops[i]'(by omega)):=Array.getElem?_eq_getElem (by omega)
  obtain⟨ins,e1,e2⟩:=hc i _ ho
  exact⟨_,ins,ho,e1,e2,by simp[List.getD,e1],dm ins (List.mem_of_getElem? e1)⟩
 have ahead:∀(S:Nat->Bool),(∀i,i<n->S i=true->∀d∈direct ops i,S d=true)->∀i j,i<n->(∀d∈direct ops i,S d=true)->tb (Region.before ops) i j=true->j<i->S j=true:=by
  intro S hcl i
  induction i using Nat.strongRecOn with
  |_ i ih =>
   intro j hi fH ht hji
   rcases d2 i j hji hi ht with q|⟨d,hdm,r,q⟩
   .exact fH j q
   .have hdi:=d1 i d hi hdm
    exact ih d hdi j (by omega) (hcl d (by omega) (fH d hdm)) q r
 have mem_ready:∀(listed:Array Bool) (i:Nat),listed.size=n->i∈Region.ready .any ops listed->i<n/\listed.getD i false=false/\∀d∈direct ops i,listed.getD d false=true:=by
  intro listed i hsz hi
  unfold Region.ready at hi
  rw[List.mem_filter,List.mem_range,hn]at hi
  obtain⟨h1,h2⟩:=hi
  rw[Bool.and_eq_true]at h2
  have e0:listed.getD i false=listed.getD i true:=by
   have:i<listed.size:=by omega
   simp[Array.getD,this]
  refine⟨h1,by rw[e0];simpa using h2.1,λd hd=>?_⟩
  obtain⟨o,ins,ho,_⟩:=fF i h1
  have h3:=h2.2
  rw[ho]at h3
  simp only[Option.map_some,Option.getD_some]at h3
  unfold direct at hd
  rw[ho]at hd
  simp only at hd
  obtain⟨e,he,hq⟩:=List.mem_filterMap.1 hd
  have:=Array.all_eq_true_iff_forall_mem.1 h3 e (by simpa using he)
  split at hq
  .rename_i hb
   cases hq
   simpa[hb]using this
  .cases hq
 have mI:∀(listed:Array Bool) (i:Nat),listed.size=n->i<n->listed.getD i false=false->(∀j,j<i->listed.getD j false=true)->i∈Region.ready .any ops listed:=by
  intro listed i hsz hi h1 h2
  unfold Region.ready
  rw[List.mem_filter,List.mem_range,hn]
  refine⟨hi,?_⟩
  have e0:listed.getD i false=listed.getD i true:=by
   have:i<listed.size:=by omega
   simp[Array.getD,this]
  rw[Bool.and_eq_true]
  refine⟨by rw[<- e0,h1];rfl,?_⟩
  obtain⟨o,ins,ho,_⟩:=fF i hi
  rw[ho]
  simp only[Option.map_some,Option.getD_some]
  refine Array.all_eq_true_iff_forall_mem.2 λe he=>?_
  cases hb:Region.binds .any e with
  |false=>rfl
  |true =>
   have hd:e.on∈direct ops i:=by
    unfold direct
    rw[ho]
    exact List.mem_filterMap.2 ⟨e,by simpa using he,by simp[hb]⟩
   have:=h2 e.on (d1 i e.on hi hd)
   simpa using this
 have main:∀ (fuel:Nat) (listed:Array Bool) (τ:St) (F:Addr->Option Value) (own:List Ent) (act:Act) (w:World),listed.size=n->(∀ i,i < n->listed.getD i false=true->∀ d ∈ direct ops i,listed.getD d false=true) ->
   ((List.range n).countP λi=>!listed.getD i false)=fuel->bH P Gl N U K (((List.range n).filter λi=>!listed.getD i false).map λi=>L.getD i default) τ->
   Inv Gl F own B w0 τ act w->wpAny P .any ops Q fuel listed act w:=by
  intro fuel
  induction fuel with
  |zero =>
   intro listed τ F own act w hsz hcl hcnt hop hI
   have hall:∀i,i<n->listed.getD i false=true:=λi hi=>by
    have:=List.countP_eq_zero.1 hcnt i (List.mem_range.2 hi)
    simpa using this
   refine⟨?_,hQ act w ⟨F,own,τ,hI,?_⟩⟩
   .apply List.eq_nil_iff_forall_not_mem.2
    intro i hi
    obtain⟨q1,q2,_⟩:=mem_ready listed i hsz hi
    rw[hall i q1]at q2
    cases q2
   .have:(List.range n).filter (λi=>!listed.getD i false)=[]:=List.filter_eq_nil_iff.2 λi hi=>by rw[hall i (List.mem_range.1 hi)];simp
    rw[this]at hop;exact hop
  |succ fuel ih =>
   intro listed τ F own act w hsz hcl hcnt hop hI
   refine⟨λhnil=>?_,λi hi=>?_⟩
   .obtain⟨i,h1,h2,h3⟩:=uL (n:=n) (S:=λi=>listed.getD i false) (by omega)
    have:=mI listed i hsz h1 h2 h3
    rw[hnil]at this
    simp at this
   .obtain⟨hin,hiS,fH⟩:=mem_ready listed i hsz hi
    obtain⟨o,p,ho,hli,hci,hgd,hmp⟩:=fF i hin
    have hset:∀j,(listed.setIfInBounds i true).getD j false=if j=i then true else listed.getD j false:=λj=>by
     by_cases hji:j=i
     .subst hji
      have:j<listed.size:=by omega
      simp[Array.getD,this]
     .rw[if_neg hji]
      simp only[Array.getD_eq_getD_getElem?]
      rw[Array.getElem?_setIfInBounds_ne (λe=>hji e.symm)]
    obtain⟨pre,post,e1,e2,e3⟩:=pz (p:=λj=>!listed.getD j false) (q:=λj=>!(listed.setIfInBounds i true).getD j false) (i:=i) (List.range n) List.pairwise_lt_range (List.mem_range.2 hin) (by simp[hiS]) (λj=>by rw[hset];split<;>simp)
    have hpre:∀j∈pre,j<n/\listed.getD j false=false:=λj hj=>by
     have:j∈(List.range n).filter (λj=>!listed.getD j false):=by rw[e1];simp[hj]
     rw[List.mem_filter,List.mem_range]at this
     exact⟨this.1,by simpa using this.2⟩
    rw[e1,List.map_append,List.map_cons,hgd]at hop
    refine wpOp_mono ?_ (KV (lm:=lm) hmp ho hci (pre.map λi=>L.getD i default) (λa ha=>?_) hI hop)
    .rintro a1 w1 ⟨F1,aQ,ρ,hI1,hk⟩
     refine ih (listed.setIfInBounds i true) ρ F1 aQ a1 w1 (by simp[hsz]) (λj hj hS d hdj=>?_) ?_ ?_ hI1
     .rw[hset]at hS ⊢
      split
      .rfl
      .split at hS
       .rename_i hji;subst hji;exact fH d hdj
       .exact hcl j hj hS d hdj
     .have:=count_set (n:=n) (S:=λj=>listed.getD j false) (S':=λj=>(listed.setIfInBounds i true).getD j false) hin hiS (by simp only[hset];simp) (λj hj=>by simp only[hset,if_neg hj])
      omega
     .rw[e2,List.map_append];exact hk
    .obtain⟨j,hj,rfl⟩:=List.mem_map.1 ha
     obtain⟨hjn,hjS⟩:=hpre j hj
     obtain⟨oj,pj,hoj,hlj,hcj,hgj,hmj⟩:=fF j hjn
     simp only[hgj]
     refine⟨hmj,?_,j,oj,hoj,hcj⟩
     cases hq:bY pj p with
     |false=>rfl
     |true =>
      have ht:=d3 i j (e3 j hj) hin (by rw[hgj,hgd];exact hq)
      have:=ahead (λk=>listed.getD k false) hcl i j hin fH ht (e3 j hj)
      rw[hjS]at this;cases this
 have hrep:∀i,(Array.replicate n false).getD i false=false:=λi=>by
  simp only[Array.getD_eq_getD_getElem?,Array.getElem?_replicate]
  split<;>rfl
 refine main n (Array.replicate n false) σ F own act w (by simp) (λi _ h=>by rw[hrep]at h;cases h) ?_ ?_ hI
 .have:((List.range n).countP λi=>!(Array.replicate n false).getD i false)=(List.range n).length:=List.countP_eq_length.2 λi _=>by rw[hrep];rfl
  rw[this];simp
 .have e1:(List.range n).filter (λi=>!(Array.replicate n false).getD i false)=List.range n:=List.filter_eq_self.2 λi _=>by rw[hrep];rfl
  have e2:(List.range n).map (λi=>L.getD i default)=L:=by
   apply List.ext_getElem?
   intro j
   rw[List.getElem?_map]
   rcases Nat.lt_or_ge j n with q|q
   .obtain⟨_,p,_,e,_,e',_⟩:=fF j q
    rw[List.getElem?_range q,e];simp only[Option.map_some,e']
   .rw[List.getElem?_eq_none (by simpa using q),List.getElem?_eq_none (by omega)];rfl
  rw[e1,e2];exact ha
end
inductive MV where
 |ptr
 |mp
 |row (G sz:Nat)
def MV.at(n:Nat):MV->AV
 |.ptr=>.ptr n 1 0 0
 |.mp=>.mp n
 |.row G sz=>.row n G sz 0 G
def mkO(Gl:Nat->Option (List AV))(σ:St):I->Option (Prop×MV×ah)
 |.alloc ty zero=>some (True,.ptr,⟨ty,zero.cells.size,0,false,[aW zero]⟩)
 |.mk ty sz bytes zero n=>match σ.val Gl n with
  |.v (.int .i64 n)=>some (0<=n/\n*bytes<=fu/\n<=4611686018427387904,.row n.toNat sz,⟨ty,sz,0,true,List.replicate n.toNat (aW zero)⟩)
  |_=>none
 |.mk2 ty sz bytes zero l c=>match σ.val Gl l,σ.val Gl c with
  |.v (.int .i64 l),.v (.int .i64 c)=>some (0<=l/\l<=c/\c*bytes<=fu/\c<=4611686018427387904,.row l.toNat sz,⟨ty,sz,0,true,List.replicate l.toNat (aW zero)⟩)
  |_,_=>none
 |.mmk ty hint=>match hint.map (σ.val Gl) with
  |none=>some (True,.mp,⟨ty,0,0,true,[]⟩)
  |some (.v (.int _ _))=>some (True,.mp,⟨ty,0,0,true,[]⟩)
  |_=>none
 |.bsc ty xs=>if(xs.map (σ.val Gl)).all sc1=true then some (True,.row xs.length 1,⟨ty,1,0,true,xs.map (σ.val Gl)⟩) else none
 |_=>none
def UF:I->Bool
 |.alloc ..|.mk ..|.mk2 ..|.mmk ..|.bsc ..=>true
 |_=>false
def plainO(ob:ah):Bool:=ob.es.all λe=>e.cells.all kJ
def jU(p:Nat×Ins):Bool:=UF p.2.i&&p.2.gd.isNone&&(p.1==0||p.1==2)&&(match p.2.dst with|some d=>!(p.2.looks.contains d)|none=>false)
def apart(a b:Nat×Ins):Bool:=!((match a.2.dst with|some d=>b.2.looks.contains d||b.2.dst==some d|none=>false)||(match b.2.dst with|some d=>a.2.looks.contains d|none=>false))
def tQ(a b:Nat×Ins):Bool:=jU b&&apart a b&&bn a==2
def oC(ops:Array Oper)(l:List (Nat×Ins)):Bool :=
 let bm:=Region.before ops
 let n:=ops.size
 l.all (λp=>p.1==0||p.1==2||(p.1==1&&Nat.ble p.2.i.cls 1))&&(List.range n).all λi=>(direct ops i).all (λd=>decide (d<i))&&
  (List.range i).all λj=>(!tb bm i j||(direct ops i).contains j||(direct ops i).any λd=>decide (j<d)&&tb bm d j)&&
   (!bY (l.getD j default) (l.getD i default)||tQ (l.getD j default) (l.getD i default)||(tb bm i j&&(!jU (l.getD j default)||(List.range j).all λa=>!(bn (l.getD a default)==2)||tb bm i a)))
section
variable{P:Program}{Gl:Nat->Option (List AV)}{F:Addr->Option Value}{own:List Ent}{B:Nat}{w0:W0}{σ τ:St}{act:Act}{w:World}{N:Nat}{U:List Nat}
theorem IU{i:I}{p:Prop}{v:MV}{ob:ah}(h:mkO Gl σ i=some (p,v,ob)):step Gl σ i=some (p,v.at σ.h.length,σ.h++[ob]):=by
 cases i with
 |alloc ty zero=>cases h;rfl
 |mk ty sz bytes zero n =>
  simp only[mkO]at h
  split at h
  .rename_i n hn;cases h;simp only[step,hn];rfl
  .cases h
 |mk2 ty sz bytes zero l c =>
  simp only[mkO]at h
  split at h
  .rename_i l c hl hc;cases h;simp only[step,hl,hc];rfl
  .cases h
 |mmk ty hint =>
  simp only[mkO]at h
  split at h
  .rename_i hn;cases h;simp only[step,hn];rfl
  .rename_i hn;cases h;simp only[step,hn];rfl
  .cases h
 |bsc ty xs =>
  simp only[mkO]at h
  split at h
  .rename_i hn;cases h;simp only[step,hn,if_true];rfl
  .cases h
 |_=>cases h
theorem Sw{i:I}(hi:UF i=true){q:Prop×AV×List ah}(h:step Gl σ i=some q):∃v ob,mkO Gl σ i=some (q.1,v,ob):=by
 cases i with
 |alloc ty zero=>cases h;exact⟨_,_,rfl⟩
 |mk ty sz bytes zero n =>
  simp only[step]at h
  split at h
  .rename_i n hn;cases h;simp only[mkO,hn];exact⟨_,_,rfl⟩
  .cases h
 |mk2 ty sz bytes zero l c =>
  simp only[step]at h
  split at h
  .rename_i l c hl hc;cases h;simp only[mkO,hl,hc];exact⟨_,_,rfl⟩
  .cases h
 |mmk ty hint =>
  simp only[step]at h
  split at h
  .rename_i hn;cases h;simp only[mkO,hn];exact⟨_,_,rfl⟩
  .rename_i hn;cases h;simp only[mkO,hn];exact⟨_,_,rfl⟩
  .cases h
 |bsc ty xs =>
  simp only[step]at h
  split at h
  .rename_i hn;cases h;simp only[mkO,hn,if_true];exact⟨_,_,rfl⟩
  .cases h
 |_=>cases hi
theorem xZ{i:I}(h:∀s∈i.reads,τ.t.getD s .any=σ.t.getD s .any):mkO Gl τ i=mkO Gl σ i:=by
 cases i<;>first|rfl|skip
 all_goals(simp only[I.reads,List.mem_append,or_imp,forall_and]at h)
 all_goals first
  |(simp only[mkO,val_congr h];done)
  |(simp only[mkO,val_congr h.1,val_congr h.2];done)
  |(simp only[mkO,uF h];done)
  |(simp only[mkO,map_congr h];done)
theorem Dg(z:Value):(aW z).cells.all kJ=true:=by
 rw[dM]
 refine List.all_eq_true.2 λa ha=>?_
 obtain⟨x,_,rfl⟩:=List.mem_map.1 ha
 rfl
theorem Qp{i:I}{p:Prop}{v:MV}{ob:ah}(h:mkO Gl σ i=some (p,v,ob)):plainO ob=true/\ob.fz=0:=by
 have rep:∀(n:Nat) (z:Value),((List.replicate n (aW z)).all λe=>e.cells.all kJ)=true:=λn z=>List.all_eq_true.2 λa ha=>by
  rw[List.eq_of_mem_replicate ha];exact Dg z
 cases i with
 |alloc ty zero=>cases h;exact⟨by simp only[plainO,List.all_cons,List.all_nil,Bool.and_true];exact Dg zero,rfl⟩
 |mk ty sz bytes zero n =>
  simp only[mkO]at h
  split at h
  .cases h;exact⟨rep _ _,rfl⟩
  .cases h
 |mk2 ty sz bytes zero l c =>
  simp only[mkO]at h
  split at h
  .cases h;exact⟨rep _ _,rfl⟩
  .cases h
 |mmk ty hint =>
  simp only[mkO]at h
  split at h
  .cases h;exact⟨rfl,rfl⟩
  .cases h;exact⟨rfl,rfl⟩
  .cases h
 |bsc ty xs =>
  simp only[mkO]at h
  split at h
  .rename_i hn
   cases h
   refine⟨List.all_eq_true.2 λa ha=>?_,rfl⟩
   have:=List.all_eq_true.1 hn a ha
   cases a<;>first|(cases this;done)|rfl
  .cases h
 |_=>cases h
def Tk(n:Nat)(a:AV):Prop:=∀(F:Addr->Option Value) (own:List Ent) (x:Value),R F own x a->R F (own.take n) x a
theorem a2N{F0:Addr->Option Value}{x0:Value}{a:AV}(h:RP F0 x0 a)(n:Nat):Tk n a:=by
 induction h with
 |any=>exact λF own x _=>.pure (.any x)
 |v y=>exact λF own x h=>by rw[h.aH];exact .pure (.v _)
 |nil sz=>exact λF own x h=>.pure h.dw
 |list ad m cap sz xs cv hn hc hz hF hR ih=>exact λF own x h=>.pure h.dw
 |bO ad cs cv hF hR ih=>exact λF own x h=>.pure h.jM
 |agg xs cs hl h1 hR ih =>
  intro F own x h
  obtain⟨ys,rfl,hl',h1',hR'⟩:=h.bB
  refine .agg ys cs hl' h1' λj y a p q=>?_
  have hj:j<xs.size:=by rw[hl];exact(List.getElem?_eq_some_iff.1 q).1
  exact ih j _ a (Array.getElem?_eq_getElem hj) q F own y (hR' j y a p q)
 |tup xs cs hl hR ih =>
  intro F own x h
  obtain⟨ys,rfl,hl',hR'⟩:=h.mY
  refine .tup ys cs hl' λj y a p q=>?_
  have hj:j<xs.size:=by rw[hl];exact(List.getElem?_eq_some_iff.1 q).1
  exact ih j _ a (Array.getElem?_eq_getElem hj) q F own y (hR' j y a p q)
theorem ZG{F0:Addr->Option Value}{uT:List Ent}{x0:Value}{a:AV}(h:R F0 uT x0 a){n:Nat}(hn:uT.length<=n):Tk n a:=by
 have tk:∀{own:List Ent} {id:Nat} {e e0:Ent},uT[id]?=some e0->own[id]?=some e->(own.take n)[id]?=some e:=fun{own id e e0} h0 h1=>by
  have:=(List.getElem?_eq_some_iff.1 h0).1
  rw[List.getElem?_take,if_pos (by omega)];exact h1
 induction h with
 |pure h=>exact a2N h n
 |row x id G sz off len e he hG hs hx hz =>
  intro F own x h
  obtain⟨e',q1,q2,q3,q4⟩:=h.fP
  exact .row _ _ _ _ _ _ e' (tk he q1) q2 q3 q4 (h.iG q1)
 |iX x id G sz len e he hG hs hx hz =>
  intro F own x h
  obtain⟨e',q1,q2,q3,q4⟩:=h.Bb
  exact .iX _ _ _ _ _ e' (tk he q1) q2 q3 q4 (h.lG q1)
 |ptr x id G i off e he hG hs hx hz =>
  intro F own x h
  obtain⟨e',q1,q2,q3,q4⟩:=h.iT
  exact .ptr _ _ _ _ _ e' (tk he q1) q2 q3 q4 (h.gH q1)
 |mp x id e he h0 hx =>
  intro F own x h
  obtain⟨e',q1,q2,q3⟩:=h.vG
  exact .mp _ _ e' (tk he q1) q2 q3
 |clo f xs cs hl hR ih =>
  intro F own x h
  obtain⟨ys,rfl,hl',hR'⟩:=h.sQ
  refine .clo f ys cs hl' λj y a p q=>?_
  have hj:j<xs.size:=by rw[hl];exact(List.getElem?_eq_some_iff.1 q).1
  exact ih j _ a (Array.getElem?_eq_getElem hj) q F own y (hR' j y a p q)
 |agg xs cs hl h1 hR ih =>
  intro F own x h
  obtain⟨ys,rfl,hl',h1',hR'⟩:=h.bB
  refine .agg ys cs hl' h1' λj y a p q=>?_
  have hj:j<xs.size:=by rw[hl];exact(List.getElem?_eq_some_iff.1 q).1
  exact ih j _ a (Array.getElem?_eq_getElem hj) q F own y (hR' j y a p q)
 |tup xs cs hl hR ih =>
  intro F own x h
  obtain⟨ys,rfl,hl',hR'⟩:=h.mY
  refine .tup ys cs hl' λj y a p q=>?_
  have hj:j<xs.size:=by rw[hl];exact(List.getElem?_eq_some_iff.1 q).1
  exact ih j _ a (Array.getElem?_eq_getElem hj) q F own y (hR' j y a p q)
theorem Il{e:Ent}{ob:ah}(h:iN F own w e ob)(hp:plainO ob=true){obj:Obj}(ho:∀g,e.g=some g->w.heap[g]?=some obj):∀(F':Addr->Option Value) (own':List Ent) (w':World),(∀g,e.g=some g->w'.heap[g]?=some obj/\∀j,F' ⟨g,j,none⟩=none)->iN F' own' w' e ob:=by
 intro F' own' w' hw
 have cell:∀(i j:Nat) (x a:AV),ob.es[i]?=some x->x.cells[j]?=some a->∃z,a=.v z:=λi j x a p q =>
  Dh (List.all_eq_true.1 (List.all_eq_true.1 hp x (List.mem_of_getElem? p)) a (List.mem_of_getElem? q))
 rcases h with⟨k0,k1,k2,k3,k4,k5,k6,k7,k8⟩|⟨k0,m1,m2,g,m3,es,clock,m4,m5,m6,m7⟩
 .refine .inl ⟨k0,k1,k2,k3,k4,k5,k6,k7,?_⟩
  cases hg:e.g with
  |none=>rw[hg]at k8;exact k8
  |some g =>
   rw[hg]at k8
   obtain⟨cs,⟨fr,a1,af⟩,a2,a3,a4⟩:=k8
   obtain⟨b1,b2⟩:=hw g hg
   rw[ho g hg]at a1
   refine⟨cs,⟨fr,b1.trans a1,af⟩,a2,λi j x a p q=>?_,λj _=>b2 j⟩
   obtain⟨y,c1,c2,c3⟩:=a3 i j x a p q
   obtain⟨z,rfl⟩:=cell i j x a p q
   have:=c3.r.aH
   subst this
   refine⟨_,c1,c2,?_⟩
   unfold RC
   split
   .exact .v _
   .exact .pure (.v _)
 .obtain⟨b1,b2⟩:=hw g m3
  rw[ho g m3]at m4
  refine .inr ⟨k0,m1,m2,g,m3,es,clock,b1.trans m4,m5,λi en x p q=>?_,b2⟩
  obtain⟨a,rfl,c1,c2,c3⟩:=m6 i en x p q
  obtain⟨z,rfl⟩:=cell i (aW en.key).cells.length _ a q (by simp[AV.cells])
  have one:∀y,RP F y (.v z)->y=z:=λy h=>by cases h;rfl
  have:=one _ c3
  exact⟨_,rfl,c1,c2,by rw[this];exact .v _⟩
theorem a2C{v:MV}{n:Nat}{e:Ent}{x:Value}(h:R F own x (v.at n))(he:own[n]?=some e):∀(F':Addr->Option Value) (own':List Ent) (n':Nat),own'[n']?=some e->R F' own' x (v.at n'):=by
 intro F' own' n' he'
 cases v with
 |ptr =>
  obtain⟨e1,q1,q2,q3,q4⟩:=R.iT h
  rw[he]at q1;cases q1
  exact .ptr _ _ _ _ _ e he' q2 q3 q4 (R.gH h he)
 |mp =>
  obtain⟨e1,q1,q2,q3⟩:=R.vG h
  rw[he]at q1;cases q1
  exact .mp _ _ e he' q2 q3
 |row G sz =>
  obtain⟨e1,q1,q2,q3,q4⟩:=R.fP h
  rw[he]at q1;cases q1
  exact .row _ _ _ _ _ _ e he' q2 q3 q4 (R.iG h he)
def W0.gG(w0:W0)(l:List PdE)(h:l.Pairwise λa b=>∀g,a.e.g=some g->b.e.g≠some g):W0:=⟨w0.w,w0.F,w0.N,w0.fr,w0.hfr,l,h,w0.df⟩
theorem Inv.gG (h:Inv Gl F own B w0 σ act w) {l:List PdE} (hl:l.Pairwise fun a b=>∀ g,a.e.g=some g->b.e.g ≠ some g) (hp:yQ B l F own w):Inv Gl F own B (w0.gG l hl) σ act w :=
  { tl:=h.tl,tr:=h.tr,defers:=h.defers,sub:=h.sub,hl:=h.hl,objs:=h.objs,inj:=h.inj,below:=h.below,base:=h.base,gl:=h.gl,gw:=h.gw,room:=h.room,ext:=h.ext,dW:=h.dW,nl:=h.nl,fr:=h.fr,pd:=hp }
theorem demote {F0:Addr->Option Value} {uT:List Ent} {a2D:Act} {wb:World} (hI0:Inv Gl F0 uT B w0 τ a2D wb) {d:Nat} {v:MV} {ob:ah} (hp:plainO ob=true) (hf:ob.fz=0) (h:Inv Gl F own B w0 (St.put ⟨τ.t,τ.h ++ [ob]⟩ (some d) (v.at τ.h.length)) act w) :
  ∃(x:Value) (q:PdE) (hl:(q::w0.pd).Pairwise λa b=>∀g,a.e.g=some g->b.e.g≠some g),q.ob=ob/\Inv Gl F (own.take τ.h.length) B (w0.gG (q::w0.pd) hl) (τ.put (some d) (.v x)) act w/\(d<τ.t.length->∀(F':Addr->Option Value) (own':List Ent) (n':Nat),own'[n']?=some q.e->R F' own' x (v.at n')):=by
 have hlen:own.length=τ.h.length+1:=by have:=h.hl;simpa[St.put]using this
 have hn:τ.h.length<own.length:=by omega
 have he:own[τ.h.length]?=some own[τ.h.length]:=List.getElem?_eq_getElem hn
 generalize own[τ.h.length]=e at he
 have hob:(St.put ⟨τ.t,τ.h++[ob]⟩ (some d) (v.at τ.h.length)).h[τ.h.length]?=some ob:=by simp[St.put]
 have hO:=h.objs _ e ob he hob
 have wK:∃obj,∀g,e.g=some g->w.heap[g]?=some obj:=by
  cases hg:e.g with
  |none=>exact⟨.map #[] 0,λg q=>by cases q⟩
  |some g =>
   have hlt:=hO.lt hg
   exact⟨w.heap[g],λg' q=>by cases q;exact Array.getElem?_eq_getElem hlt⟩
 obtain⟨obj,wK⟩:=wK
 have hnew:∀g,e.g=some g->∀q∈w0.pd,q.e.g≠some g:=λg hg q hq hqg=>(h.pd q hq g hqg).2.2.1 _ e he hg
 have hpw:((⟨obj,e,ob,Il hO hp wK⟩:PdE)::w0.pd).Pairwise λa b=>∀g,a.e.g=some g->b.e.g≠some g :=
  List.pairwise_cons.2 ⟨λq hq g hg=>hnew g hg q hq,w0.pdn⟩
 have lu:∀{id:Nat} {e':Ent},(own.take τ.h.length)[id]?=some e'->id<τ.h.length/\own[id]?=some e':=fun{id e'} q=>by
  rw[List.getElem?_take]at q
  split at q
  .exact⟨by assumption,q⟩
  .cases q
 refine⟨act.tmps.getD d undef,⟨obj,e,ob,Il hO hp wK⟩,hpw,rfl,?_,λhd=>?_⟩
 .refine{ tl:=by have:=h.tl;simpa[St.put]using this,tr:=λi x a p q=>?_,defers:=h.defers,sub:=h.sub,hl:=by simp only[St.put,List.length_take];omega,objs:=λid e' o p q=>?_,inj:=λi j e1 e2 g p q=>h.inj i j e1 e2 g (lu p).2 (lu q).2,below:=h.below,base:=λid e' g p=>h.base id e' g (lu p).2,gl:=h.gl,gw:=h.gw,room:=h.room,ext:=h.ext,dW:=h.dW,nl:=hI0.nl,fr:=λq hq=>?_,pd:=?_ }
  .have q':(τ.t.set d (.v (act.tmps.getD d undef)))[i]?=some a:=q
   rw[List.getElem?_set]at q'
   split at q'
   .rename_i hdi
    subst hdi
    split at q'
    .cases q'
     have:act.tmps.getD d undef=x:=by
      have hlt:=(Array.getElem?_eq_some_iff.1 p).1
      rw[Array.getElem?_eq_getElem hlt]at p
      simp[Array.getD,hlt]
      exact Option.some.inj p
     rw[this];exact .pure (.v _)
    .cases q'
   .rename_i hdi
    have q2:(St.put ⟨τ.t,τ.h++[ob]⟩ (some d) (v.at τ.h.length)).t[i]?=some a:=by
     show(τ.t.set d _)[i]?=some a
     rw[List.getElem?_set_ne hdi];exact q'
    have hi0:i<a2D.tmps.size:=by rw[hI0.tl];exact(List.getElem?_eq_some_iff.1 q').1
    exact ZG (hI0.tr i _ a (Array.getElem?_eq_getElem hi0) q') (Nat.le_of_eq hI0.hl) F own x (h.tr i x a p q2)
  .obtain⟨hid,hown⟩:=lu p
   have q':τ.h[id]?=some o:=q
   have q2:(St.put ⟨τ.t,τ.h++[ob]⟩ (some d) (v.at τ.h.length)).h[id]?=some o:=by
    show(τ.h++[ob])[id]?=some o
    rw[List.getElem?_append_left hid];exact q'
   rcases h.objs id e' o hown q2 with⟨k0,k1,k2,k3,k4,k5,k6,k7,k8⟩|hm
   case inr=>exact .inr hm
   refine .inl ⟨k0,k1,k2,k3,k4,k5,k6,k7,?_⟩
   cases hg:e'.g with
   |none=>rw[hg]at k8;exact k8
   |some g =>
    rw[hg]at k8
    obtain⟨cs,a1,a2,a3,a4⟩:=k8
    refine⟨cs,a1,a2,λi j x a r s=>?_,a4⟩
    obtain⟨y,b1,b2,b3⟩:=a3 i j x a r s
    refine⟨y,b1,b2,?_⟩
    unfold RC at b3 ⊢
    split
    .rename_i hpr;rw[if_pos hpr]at b3;exact b3
    .rename_i hpr
     rw[if_neg hpr]at b3
     have a8O:id<uT.length:=by rw[hI0.hl];exact hid
     rcases hI0.objs id _ o (List.getElem?_eq_getElem a8O) q' with⟨_,z1,z2,z3,z4,z5,z6,z7,z8⟩|⟨_,_,m2,_⟩
     case inr=>exact absurd m2 hpr
     cases hg0:uT[id].g with
     |none =>
      rw[hg0]at z8
      have z8:uT[id].cap=0:=z8
      have:=(List.getElem?_eq_some_iff.1 r).1
      omega
     |some g0 =>
      rw[hg0]at z8
      obtain⟨_,_,_,z9,_⟩:=z8
      obtain⟨y0,_,_,c3⟩:=z9 i j x a r s
      exact ZG c3.r (Nat.le_of_eq hI0.hl) F own y b3
  .have:=h.fr q hq
   have hN:q.1<=τ.h.length:=Nat.le_trans (w0.hfr q hq) hI0.nl
   show R F ((own.take τ.h.length).take q.1) q.2.1 q.2.2
   rw[List.take_take,Nat.min_eq_left hN];exact this
  .intro q hq g hg
   rcases List.mem_cons.1 hq with rfl|hq
   .have hg:e.g=some g:=hg
    refine⟨wK g hg,λj=>hO.fz hg (by rw[hf,Nat.zero_mul];exact Nat.zero_le _),λid e' p r=>?_,h.base _ e g he hg⟩
    obtain⟨p1,p2⟩:=lu p
    have:=h.inj id τ.h.length e' e g p2 he r hg
    omega
   .obtain⟨p1,p2,p3,p4⟩:=h.pd q hq g hg
    exact⟨p1,p2,λid e' r=>p3 id e' (lu r).2,p4⟩
 .have hds:d<act.tmps.size:=by rw[h.tl];simpa[St.put]using hd
  have q2:(St.put ⟨τ.t,τ.h++[ob]⟩ (some d) (v.at τ.h.length)).t[d]?=some (v.at τ.h.length):=by
   show(τ.t.set d _)[d]?=_
   rw[List.getElem?_set_self hd]
  have:=h.tr d _ _ (Array.getElem?_eq_getElem hds) q2
  have e1:act.tmps.getD d undef=act.tmps[d]:=by simp[Array.getD,hds]
  rw[e1]
  exact a2C this he
theorem claim {l1 l2:List PdE} {q:PdE} {hl:(l1 ++ q :: l2).Pairwise fun a b=>∀ g,a.e.g=some g->b.e.g ≠ some g} (hl':(l1 ++ l2).Pairwise fun a b=>∀ g,a.e.g=some g->b.e.g ≠ some g) (h:Inv Gl F own B (w0.gG (l1 ++ q :: l2) hl) τ act w) {d:Nat} {v:MV} {x:Value}
  (hx:∀a,τ.t[d]?=some a->a=.v x) (hR:d<τ.t.length->∀(F':Addr->Option Value) (own':List Ent) (n':Nat),own'[n']?=some q.e->R F' own' x (v.at n')) :
  Inv Gl F (own++[q.e]) B (w0.gG (l1++l2) hl') (St.put ⟨τ.t,τ.h++[q.ob]⟩ (some d) (v.at τ.h.length)) act w:=by
 have hq:q∈(w0.gG (l1++q::l2) hl).pd:=List.mem_append.2 (.inr (List.mem_cons_self))
 have hpd:=h.pd q hq
 have get:∀{k:Nat} {f:Ent},(own++[q.e])[k]?=some f->(k=own.length/\f=q.e)\/(k<own.length/\own[k]?=some f):=fun{k f} hf=>by
  rcases Nat.lt_or_ge k own.length with hk|hk
  .rw[List.getElem?_append_left hk]at hf;exact .inr ⟨hk,hf⟩
  .rw[List.getElem?_append_right hk]at hf
   have h0:k-own.length=0:=by
    rcases Nat.eq_zero_or_pos (k-own.length) with h0|h0
    .exact h0
    .rw[List.getElem?_eq_none (by simp;omega)]at hf;cases hf
   rw[h0]at hf
   simp at hf
   exact .inl ⟨by omega,hf.symm⟩
 have last:(own++[q.e])[own.length]?=some q.e:=by simp
 refine{ tl:=by have:=h.tl;simpa[St.put]using this,tr:=λi y a p r=>?_,defers:=h.defers,sub:=h.sub,hl:=by simp[St.put,h.hl],objs:=λid e' o p r=>?_,inj:=λi j e1 e2 g p r s t=>?_,below:=h.below,base:=λid e' g p r=>?_,gl:=h.gl,gw:=h.gw,room:=h.room,ext:=h.ext,dW:=h.dW,nl:=by have:=h.nl;simp only[St.put,List.length_append];exact Nat.le_trans this (Nat.le_add_right _ _),fr:=λz hz=>(h.fr z hz).mono (λ_ _ r=>r) ((Le.snoc _ _).take _),pd:=λz hz g hg=>?_ }
 .have r':(τ.t.set d (v.at τ.h.length))[i]?=some a:=r
  rw[List.getElem?_set]at r'
  split at r'
  .rename_i hdi
   subst hdi
   split at r'
   .rename_i hd
    cases r'
    have hv:=h.tr d y _ p (List.getElem?_eq_getElem hd)
    rw[hx _ (List.getElem?_eq_getElem hd)]at hv
    rw[hv.aH]
    exact hR hd F _ _ (by rw[<- h.hl];exact last)
   .cases r'
  .exact(h.tr i y a p r').mono (λ_ _ r=>r) (Le.snoc _ _)
 .have r':(τ.h++[q.ob])[id]?=some o:=r
  rcases get p with⟨rfl,rfl⟩|⟨hk,hf⟩
  .rw[h.hl,List.getElem?_append_right (Nat.le_refl _)]at r'
   simp at r'
   subst r'
   exact q.ok F _ w λg hg=>⟨(hpd g hg).1,(hpd g hg).2.1⟩
  .rw[List.getElem?_append_left (by rw[<- h.hl];exact hk)]at r'
   have hO:=h.objs id e' o hf r'
   exact hO.mono (λ_ _ r=>r) (Le.snoc _ _) (λg hg=>rfl) (λg j hg hj=>hO.fz hg hj)
 .rcases get p with⟨rfl,rfl⟩|⟨hi,hf⟩<;>rcases get r with⟨rfl,rfl⟩|⟨hj,hf'⟩
  .rfl
  .exact absurd t ((hpd g s).2.2.1 j e2 hf')
  .exact absurd s ((hpd g t).2.2.1 i e1 hf)
  .exact h.inj i j e1 e2 g hf hf' s t
 .rcases get p with⟨rfl,rfl⟩|⟨hk,hf⟩
  .exact(hpd g r).2.2.2
  .exact h.base id e' g hf r
 ·have hz':z ∈ (w0.gG (l1 ++ q :: l2) hl).pd:=by
   rcases List.mem_append.1 hz with hz|hz
   .exact List.mem_append.2 (.inl hz)
   .exact List.mem_append.2 (.inr (List.mem_cons_of_mem _ hz))
  obtain⟨p1,p2,p3,p4⟩:=h.pd z hz' g hg
  refine⟨p1,p2,λid e' r s=>?_,p4⟩
  rcases get r with⟨rfl,rfl⟩|⟨hk,hf⟩
  .rw[List.pairwise_append]at hl
   rcases List.mem_append.1 hz with hz|hz
   .exact hl.2.2 z hz q (List.mem_cons_self) g hg s
   .have:=(List.pairwise_cons.1 hl.2.1).1 z hz g s
    exact this hg
  .exact p3 id e' hf s
end
section
variable{P:Program}{Gl:Nat->Option (List AV)}{F:Addr->Option Value}{own:List Ent}{B:Nat}{w0:W0}{σ τ:St}{act:Act}{w:World}{N:Nat}{U:List Nat}
theorem rZ{b:Nat×Ins}(h:jU b=true):UF b.2.i=true/\b.2.gd=none/\(b.1=0\/b.1=2)/\b.2.i.dn=false/\∃d,b.2.dst=some d/\d∉b.2.looks:=by
 unfold jU at h
 simp only[Bool.and_eq_true,Bool.or_eq_true,beq_iff_eq,Option.isNone_iff_eq_none]at h
 obtain⟨⟨⟨h1,h2⟩,h3⟩,h4⟩:=h
 refine⟨h1,h2,h3,?_,?_⟩
 .cases hi:b.2.i<;>first|rfl|(rw[hi]at h1;cases h1)
 .split at h4
  .rename_i d hd
   exact⟨d,hd,λq=>by rw[List.contains_iff_mem.2 q]at h4;cases h4⟩
  .cases h4
theorem apart_spec{a b:Nat×Ins}(h:apart a b=true):(∀d,a.2.dst=some d->d∉b.2.looks/\b.2.dst≠some d)/\(∀d,b.2.dst=some d->d∉a.2.looks):=by
 unfold apart at h
 simp only[Bool.not_eq_true',Bool.or_eq_false_iff]at h
 obtain⟨h1,h2⟩:=h
 refine⟨λd hd=>?_,λd hd=>?_⟩
 .rw[hd]at h1
  simp only[Bool.or_eq_false_iff,beq_eq_false_iff_ne]at h1
  exact⟨(λq=>by rw[List.contains_iff_mem.2 q]at h1;cases h1.1),h1.2⟩
 .rw[hd]at h2
  simp only at h2
  exact λq=>by rw[List.contains_iff_mem.2 q]at h2;cases h2
def Apart(a b:Nat×Ins):Prop:=(∀d,a.2.dst=some d->d∉b.2.looks/\b.2.dst≠some d)/\(∀d,b.2.dst=some d->d∉a.2.looks)
theorem rO{a b:Nat×Ins}(h:bY a b=false):Apart a b:=⟨(iU h).1,(iU h).2.1⟩
theorem P5{p:Nat×Ins}(hm:okM p){K:St->Prop}(h:lU P Gl N U p σ K):lU P Gl N U p σ λρ=>K ρ/\∃v h1,ρ=St.put ⟨σ.t,h1⟩ p.2.dst v:=by
 refine q9 (τ:=σ) hm (λ_ _=>rfl) (.inl rfl) (λv h1 k1 k2 k3=>?_) h
 by_cases hq:bn p=2
 .rw[if_pos hq];exact⟨k1,v,h1,rfl⟩
 .rw[if_neg hq];rw[k2 hq]at k1;exact⟨k1,v,σ.h,rfl⟩
theorem UU {lm:Bool} {ops:Array Oper} {b:Nat × Ins} {kb:Nat} {ob:Oper} (hmb:okM b) (hob:ops[kb]?=some ob) (hcb:dI P lm ops ob=some b.2) {post:List (Nat × Ins)} {K:St->Prop} {Q:Exit->Act->World->Prop} (pre:List (Nat × Ins)) (hp:∀ a ∈ pre,okM a/\bY a b=false/\∃ (k:Nat) (o:Oper),ops[k]?=some o/\dI P lm ops o=some a.2) (hI:Inv Gl F own B w0 σ act w) (h:bH P Gl N U K (pre ++ b :: post) σ) :
  wpOp P ops Q kb (fO Gl B w0 λρ=>bH P Gl N U K (pre++post) ρ/\∃v h1,ρ=St.put ⟨σ.t,h1⟩ b.2.dst v) act w:=by
 have h':lU P Gl N U b σ (bH P Gl N U K (pre++post)):=by
  cases hn:b.2.i.dn with
  |true=>exact CY hmb hn pre (λa ha=>⟨(hp a ha).1,(hp a ha).2.1⟩) σ h
  |false =>
   obtain⟨v,h2,hD⟩:=Lj hmb hn pre hp σ F own act w hI h
   rw[mZ hn]
   exact⟨v,h2,hD,wR hmb hn pre (λa ha=>⟨(hp a ha).1,(hp a ha).2.1⟩) σ v h2 hD h⟩
 replace h':=P5 hmb h'
 have ex:∃d,bS P Gl d σ b.2 (λρ=>bH P Gl N U K (pre++post) ρ/\∃v h1,ρ=St.put ⟨σ.t,h1⟩ b.2.dst v)\/bS P Gl d σ b.2 (λρ=>agree N U σ.h ρ.h/\bH P Gl N U K (pre++post) ρ/\∃v h1,ρ=St.put ⟨σ.t,h1⟩ b.2.dst v):=by
  obtain⟨m,ins⟩:=b
  match m,h' with
  |0,h'=>exact⟨true,.inl h'⟩
  |1,h'=>exact⟨true,.inl h'.2⟩
  |m+2,h'=>exact⟨false,.inr h'⟩
 obtain⟨d,h'|h'⟩:=ex
 .exact gT hI hcb h' Q hob
 .refine wpOp_mono ?_ (gT hI hcb h' Q hob)
  rintro a1 w1 ⟨F1,aQ,ρ,hI1,_,hk⟩
  exact⟨F1,aQ,ρ,hI1,hk⟩
theorem SF{b:Nat×Ins}(hb:okM b){d:Nat}(hd:b.2.dst=some d)(hnd:d∉b.2.looks){post:List (Nat×Ins)}{K:St->Prop}(x:AV):∀(pre:List (Nat×Ins)),(∀a∈pre,okM a/\Apart a b)->∀(σ:St),bH P Gl N U K (pre++b::post) σ->bH P Gl N U K (pre++b::post) (σ.put (some d) x):=by
 have look:∀(σ:St) (s:Nat),s≠d->(σ.put (some d) x).t.getD s .any=σ.t.getD s .any:=λσ s hs=>by
  simp only[St.put,List.getD,List.getElem?_set_ne (Ne.symm hs)]
 intro pre
 induction pre with
 |nil =>
  intro _ σ h
  refine q9 (τ:=σ.put (some d) x) hb (λs hs=>look σ s λq=>hnd (q▸hs)) (.inl rfl) (λv h1 k1 k2 k3=>?_) h
  have e:St.put ⟨(σ.put (some d) x).t,if bn b=2 then h1 else(σ.put (some d) x).h⟩ b.2.dst v=St.put ⟨σ.t,h1⟩ b.2.dst v:=by
   rw[hd]
   simp only[St.put,List.set_set]
   split
   .rfl
   .rename_i q;rw[k2 q]
  rw[e];exact k1
 |cons a pre ih =>
  intro hp σ h
  obtain⟨hma,hab⟩:=hp a (by simp)
  refine q9 (τ:=σ.put (some d) x) (K1:=bH P Gl N U K (pre++b::post)) hma (λs hs=>look σ s λq=>hab.2 d hd (q▸hs)) (.inl rfl) (λv h1 k1 k2 k3=>?_) h
  have:=ih (λz hz=>hp z (by simp[hz])) _ k1
  have e:(St.put ⟨σ.t,h1⟩ a.2.dst v).put (some d) x=St.put ⟨(σ.put (some d) x).t,if bn a=2 then h1 else(σ.put (some d) x).h⟩ a.2.dst v:=by
   have hh:(if bn a=2 then h1 else σ.h)=h1:=by
    split
    .rfl
    .rename_i q;rw[k2 q]
   show _=St.put ⟨(σ.t.set d x),if bn a=2 then h1 else σ.h⟩ a.2.dst v
   rw[hh]
   cases hda:a.2.dst with
   |none=>rfl
   |some i =>
    have:i≠d:=λq=>(hab.1 i hda).2 (by rw[hd,q])
    simp only[St.put]
    rw[List.set_comm _ _ this]
  rw[<- e];exact this
theorem Vg{lm:Bool}{ops:Array Oper}{b:Nat×Ins}(hb:jU b=true){post:List (Nat×Ins)}{K:St->Prop}:∀(pre:List (Nat×Ins)),(∀a∈pre,okM a/\Apart a b/\∃(k:Nat) (o:Oper),ops[k]?=some o/\dI P lm ops o=some a.2)->∀(σ:St) (F:Addr->Option Value) (own:List Ent) (act:Act) (w:World),Inv Gl F own B w0 σ act w->bH P Gl N U K (pre++b::post) σ->∃pr v ob,mkO Gl σ b.2.i=some (pr,v,ob)/\pr:=by
 obtain⟨b1,b2,b3,b4,d,b5,b6⟩:=rZ hb
 intro pre
 induction pre with
 |nil =>
  intro _ σ F own act w hI h
  have h:lU P Gl N U b σ (bH P Gl N U K post):=h
  rw[mZ b4]at h
  obtain⟨v,h2,⟨⟨q,e,hq⟩,_⟩,_⟩:=h
  unfold oO at e
  rw[b2]at e
  obtain⟨v',ob,hmk⟩:=Sw b1 e
  exact⟨q,v',ob,hmk,hq⟩
 |cons a pre ih =>
  intro hp σ F own act w hI h
  obtain⟨hma,hab,k,o,ho,hc⟩:=hp a (by simp)
  obtain⟨F1,aQ,Bo,w1,v,h1,hI1,hK,_,_⟩:=BH hma ho hc hI h
  obtain⟨pr,v',ob,hmk,hpr⟩:=ih (λz hz=>hp z (by simp[hz])) _ F1 aQ Bo w1 hI1 hK
  refine⟨pr,v',ob,?_,hpr⟩
  rw[<- hmk]
  refine(xZ λs hs=>?_).symm
  exact Cb λq=>(hab.1 s q).1 (by simp[Ins.looks,hs])
theorem Oj {b:Nat × Ins} (hb:jU b=true) {post:List (Nat × Ins)} {K:St->Prop} (pre:List (Nat × Ins)) (hp:∀ a ∈ pre,okM a/\bY a b=false) (hN:N<=σ.h.length) {pr:Prop} {v:MV} {ob:ah} (hm:mkO Gl σ b.2.i=some (pr,v,ob)) (hpr:pr) (h:bH P Gl N U K (pre ++ b :: post) σ) :
  bH P Gl N U K (pre++post) (St.put ⟨σ.t,σ.h++[ob]⟩ b.2.dst (v.at σ.h.length)):=by
 obtain⟨b1,b2,b3,b4,d,b5,b6⟩:=rZ hb
 have hok:okM b:=by rcases b3 with q|q;exact .inl q;exact .inr (.inl q)
 refine wR hok b4 pre hp σ _ _ ⟨⟨pr,?_,hpr⟩,λq=>by omega,λ_ id hid _=>?_⟩ h
 .unfold oO
  rw[b2]
  exact IU hm
 .rw[List.getElem?_append_left (by omega)]
theorem yG {ops:Array Oper} {l:List (Nat × Ins)} (h:oC ops l=true) :
  (∀i d,i<ops.size->d∈direct ops i->d<i)/\(∀i j,j<i->i<ops.size->tb (Region.before ops) i j=true->j∈direct ops i\/∃d∈direct ops i,j<d/\tb (Region.before ops) d j=true)/\
  (∀i j,j<i->i<ops.size->bY (l.getD j default) (l.getD i default)=true->tQ (l.getD j default) (l.getD i default)=true\/(tb (Region.before ops) i j=true/\(jU (l.getD j default)=true->∀a,a<j->bn (l.getD a default)=2->tb (Region.before ops) i a=true)))/\∀p∈l,okM p:=by
 unfold oC at h
 rw[Bool.and_eq_true]at h
 obtain⟨hm,h⟩:=h
 have h1:∀i,i<ops.size->_:=λi hi=>List.all_eq_true.1 h i (List.mem_range.2 hi)
 refine⟨λi d hi hd=>?_,λi j hj hi ht=>?_,λi j hj hi hc=>?_,λp hp=>?_⟩
 .have:=h1 i hi
  rw[Bool.and_eq_true]at this
  exact of_decide_eq_true (List.all_eq_true.1 this.1 d hd)
 .have:=h1 i hi
  rw[Bool.and_eq_true]at this
  have:=List.all_eq_true.1 this.2 j (List.mem_range.2 hj)
  rw[Bool.and_eq_true]at this
  have:=this.1
  simp only[ht,Bool.not_true,Bool.false_or,Bool.or_eq_true]at this
  rcases this with q|q
  .exact .inl (List.contains_iff_mem.1 q)
  .obtain⟨d,hd,hq⟩:=List.any_eq_true.1 q
   rw[Bool.and_eq_true]at hq
   exact .inr ⟨d,hd,of_decide_eq_true hq.1,hq.2⟩
 .have:=h1 i hi
  rw[Bool.and_eq_true]at this
  have:=List.all_eq_true.1 this.2 j (List.mem_range.2 hj)
  rw[Bool.and_eq_true]at this
  have:=this.2
  rw[hc]at this
  simp only[Bool.not_true,Bool.false_or,Bool.or_eq_true,Bool.and_eq_true]at this
  rcases this with q|⟨q,r⟩
  .exact .inl q
  .refine .inr ⟨q,λhg a ha hcl=>?_⟩
   rw[hg]at r
   simp only[Bool.not_true,Bool.false_eq_true,false_or]at r
   have:=List.all_eq_true.1 r a (List.mem_range.2 ha)
   rw[hcl]at this
   simpa using this
 .have:=List.all_eq_true.1 hm p hp
  simp only[Bool.or_eq_true,Bool.and_eq_true,beq_iff_eq]at this
  rcases this with(q|q)|⟨q,r⟩
  .exact .inl q
  .exact .inr (.inl q)
  .exact .inr (.inr ⟨q,Nat.le_of_ble_eq_true r⟩)
def ED(Gl:Nat->Option (List AV))(L:List (Nat×Ins))(τ:St)(i:Nat)(q:PdE):Prop :=
 jU (L.getD i default)=true/\∃d v pr x,(L.getD i default).2.dst=some d/\mkO Gl τ (L.getD i default).2.i=some (pr,v,q.ob)/\pr/\(∀a,τ.t[d]?=some a->a=.v x)/\(d<τ.t.length->∀(F':Addr->Option Value) (own':List Ent) (n':Nat),own'[n']?=some q.e->R F' own' x (v.at n'))
theorem ED.put{L:List (Nat×Ins)}{i:Nat}{q:PdE}(h:ED Gl L τ i q){dst:Option Nat}{v':AV}{h1:List ah}(hd:∀s,dst=some s->s∉(L.getD i default).2.looks/\(L.getD i default).2.dst≠some s):ED Gl L (St.put ⟨τ.t,h1⟩ dst v') i q:=by
 obtain⟨h0,d,v,pr,x,k1,k2,k3,k4,k5⟩:=h
 have hne:∀s,dst=some s->s≠d:=λs hs e=>(hd s hs).2 (by rw[k1,e])
 refine⟨h0,d,v,pr,x,k1,?_,k3,λa ha=>?_,λhl=>?_⟩
 .rw[<- k2]
  exact xZ λs hs=>Cb λe=>(hd s e).1 (List.mem_append.2 (.inl hs))
 .refine k4 a ?_
  cases dst with
  |none=>exact ha
  |some s =>
   have ha':(τ.t.set s v')[d]?=some a:=ha
   rw[List.getElem?_set_ne (hne s rfl)]at ha'
   exact ha'
 .exact k5 (by cases dst<;>simpa[St.put]using hl)
def lefts(listed:Array Bool)(zs:List (Nat×PdE))(i:Nat):Bool:=!listed.getD i false||zs.any λz=>z.1==i
theorem iP{listed:Array Bool}{zs:List (Nat×PdE)}{i:Nat}:lefts listed zs i=true↔listed.getD i false=false\/∃z∈zs,z.1=i:=by
 unfold lefts
 simp[Bool.or_eq_true,List.any_eq_true]
theorem greedy {ops:Array Oper} {L:List (Nat × Ins)} {n:Nat} (hd:∀ i j,j < i->i < n->bY (L.getD j default) (L.getD i default)=true->tQ (L.getD j default) (L.getD i default)=true\/(tb (Region.before ops) i j=true/\(jU (L.getD j default)=true->∀ a,a < j->bn (L.getD a default)=2->tb (Region.before ops) i a=true)))
  (hok:∀i,i<n->okM (L.getD i default)) {listed:Array Bool} (hah:∀i j,i<n->listed.getD i false=true->tb (Region.before ops) i j=true->j<i->listed.getD j false=true) (hN:N<=w0.N) {K:St->Prop} :
  ∀(m:Nat) (zs:List (Nat×PdE)) (τ:St) (own:List Ent) (hl:(zs.map (·.2)++w0.pd).Pairwise λa b=>∀g,a.e.g=some g->b.e.g≠some g),zs.length=m->(zs.map (·.1)).Nodup->(∀z∈zs,∀y∈zs,z.1<y.1->Apart (L.getD z.1 default) (L.getD y.1 default))->(∀z∈zs,z.1<n/\listed.getD z.1 false=true/\ED Gl L τ z.1 z.2)->
   bH P Gl N U K (((List.range n).filter (lefts listed zs)).map λi=>L.getD i default) τ->Inv Gl F own B (w0.gG (zs.map (·.2)++w0.pd) hl) τ act w->
   ∃(zs':List (Nat×PdE)) (τ':St) (own':List Ent) (hl':(zs'.map (·.2)++w0.pd).Pairwise λa b=>∀g,a.e.g=some g->b.e.g≠some g),(zs'.map (·.1)).Nodup/\(∀z∈zs',∀y∈zs',z.1<y.1->Apart (L.getD z.1 default) (L.getD y.1 default))/\(∀z∈zs',z.1<n/\listed.getD z.1 false=true/\ED Gl L τ' z.1 z.2)/\
    bH P Gl N U K (((List.range n).filter (lefts listed zs')).map λi=>L.getD i default) τ'/\Inv Gl F own' B (w0.gG (zs'.map (·.2)++w0.pd) hl') τ' act w/\∀z∈zs',∃a,a<z.1/\bn (L.getD a default)=2/\listed.getD a false=false:=by
 intro m
 induction m with
 |zero =>
  intro zs τ own hl h0 hnd hap hz hop hI
  have:zs=[]:=List.length_eq_zero_iff.1 h0
  subst this
  exact⟨[],τ,own,hl,hnd,hap,hz,hop,hI,λz q=>by cases q⟩
 |succ m ih =>
  intro zs τ own hl hlen hnd hap hz hop hI
  by_cases hall:∀z∈zs,∃a,a<z.1/\bn (L.getD a default)=2/\listed.getD a false=false
  .exact⟨zs,τ,own,hl,hnd,hap,hz,hop,hI,hall⟩
  ·have hex:∃ i,∃ z ∈ zs,z.1=i/\¬ ∃ a,a < i/\bn (L.getD a default)=2/\listed.getD a false=false:=by
    apply Classical.byContradiction
    intro hno
    apply hall
    intro z hzm
    apply Classical.byContradiction
    intro hna
    exact hno ⟨z.1,z,hzm,rfl,hna⟩
   have a11:∃i,(∃z∈zs,z.1=i/\¬∃a,a<i/\bn (L.getD a default)=2/\listed.getD a false=false)/\∀z∈zs,i<=z.1:=by
    have key:∀(k i:Nat),i<=k->(∃z∈zs,z.1=i/\¬∃a,a<i/\bn (L.getD a default)=2/\listed.getD a false=false)->∃i,(∃z∈zs,z.1=i/\¬∃a,a<i/\bn (L.getD a default)=2/\listed.getD a false=false)/\∀z∈zs,i<=z.1:=by
     intro k
     induction k with
     |zero=>intro i hi h;exact⟨i,h,λz _=>by omega⟩
     |succ k ihk =>
      intro i hi h
      by_cases hm:∀z∈zs,i<=z.1
      .exact⟨i,h,hm⟩
      .simp only[Classical.not_forall,Nat.not_le]at hm
       obtain⟨z,hzm,hlt⟩:=hm
       obtain⟨_,_,rfl,hna⟩:=h
       exact ihk z.1 (by omega) ⟨z,hzm,rfl,fun⟨a,h1,h2,h3⟩=>hna ⟨a,by omega,h2,h3⟩⟩
    obtain⟨i,h⟩:=hex
    exact key i i (Nat.le_refl _) h
   obtain⟨i,⟨z,hzm,hzi,hna⟩,hmin⟩:=a11
   subst hzi
   obtain⟨z1,z2,rfl⟩:=List.append_of_mem hzm
   obtain⟨hin,hil,hgo,d,v,pr,x,k1,k2,k3,k4,k5⟩:=hz z hzm
   have a1Z:∀y∈z1++z2,y.1≠z.1:=λy hy e=>by
    simp only[List.map_append,List.map_cons]at hnd
    rw[List.nodup_append]at hnd
    obtain⟨_,n2,n3⟩:=hnd
    rw[List.nodup_cons]at n2
    rcases List.mem_append.1 hy with q|q
    .exact n3 y.1 (List.mem_map.2 ⟨y,q,rfl⟩) z.1 (by simp) e
    .exact n2.1 (List.mem_map.2 ⟨y,q,e⟩)
   obtain⟨pre,post,e1,e2,e3⟩:=pz (p:=lefts listed (z1++z::z2)) (q:=lefts listed (z1++z2)) (i:=z.1) (List.range n) List.pairwise_lt_range (List.mem_range.2 hin) (iP.2 (.inr ⟨z,hzm,rfl⟩)) (λj=>by
    by_cases hj:j=z.1
    .rw[if_pos hj]
     cases hq:lefts listed (z1++z2) j with
     |false=>rfl
     |true =>
      exfalso
      rcases iP.1 hq with r|⟨y,hy,r⟩
      .rw[hj,hil]at r;cases r
      .exact a1Z y hy (r.trans hj)
    .rw[if_neg hj]
     cases hq:lefts listed (z1++z2) j with
     |true =>
      refine(iP.2 ?_).symm
      rcases iP.1 hq with r|⟨y,hy,r⟩
      .exact .inl r
      .refine .inr ⟨y,?_,r⟩
       rcases List.mem_append.1 hy with s|s
       .exact List.mem_append.2 (.inl s)
       .exact List.mem_append.2 (.inr (List.mem_cons_of_mem _ s))
     |false =>
      cases hq':lefts listed (z1++z::z2) j with
      |false=>rfl
      |true =>
       exfalso
       have:lefts listed (z1++z2) j=true:=iP.2 (by
        rcases iP.1 hq' with r|⟨y,hy,r⟩
        .exact .inl r
        .refine .inr ⟨y,?_,r⟩
         rcases List.mem_append.1 hy with s|s
         .exact List.mem_append.2 (.inl s)
         .rcases List.mem_cons.1 s with s|s
          .subst s;exact absurd r.symm hj
          .exact List.mem_append.2 (.inr s))
       rw[this]at hq;cases hq)
   rw[e1,List.map_append,List.map_cons]at hop
   have hpre:∀j∈pre,j<n/\j<z.1/\listed.getD j false=false:=λj hj=>by
    have hm:j∈(List.range n).filter (lefts listed (z1++z::z2)):=by rw[e1];simp[hj]
    rw[List.mem_filter,List.mem_range]at hm
    refine⟨hm.1,e3 j hj,?_⟩
    rcases iP.1 hm.2 with r|⟨y,hy,r⟩
    .exact r
    .have:=hmin y hy;have:=e3 j hj;omega
   have hNτ:N<=τ.h.length:=Nat.le_trans hN hI.nl
   have hstep:=Oj hgo (pre.map λi=>L.getD i default) (λa ha=>by
    obtain⟨j,hj,rfl⟩:=List.mem_map.1 ha
    obtain⟨hjn,hjz,hjl⟩:=hpre j hj
    refine⟨hok j hjn,?_⟩
    cases hq:bY (L.getD j default) (L.getD z.1 default) with
    |false=>rfl
    |true =>
     exfalso
     rcases hd z.1 j hjz hin hq with r|⟨r,_⟩
     .unfold tQ at r
      simp only[Bool.and_eq_true,beq_iff_eq]at r
      exact hna ⟨j,hjz,r.2,hjl⟩
     .have:=hah z.1 j hin hil r hjz
      rw[hjl]at this;cases this) hNτ k2 k3 hop
   rw[<- List.map_append,<- e2,k1]at hstep
   have hl2:(z1.map (·.2)++z.2::(z2.map (·.2)++w0.pd)).Pairwise λa b=>∀g,a.e.g=some g->b.e.g≠some g:=by
    have:=hl
    simp only[List.map_append,List.map_cons,List.append_assoc,List.cons_append]at this
    exact this
   have hI':Inv Gl F own B (w0.gG (z1.map (·.2)++z.2::(z2.map (·.2)++w0.pd)) hl2) τ act w:=by
    have e:(z1++z::z2).map (·.2)++w0.pd=z1.map (·.2)++z.2::(z2.map (·.2)++w0.pd):=by simp
    have e':w0.gG ((z1++z::z2).map (·.2)++w0.pd) hl=w0.gG (z1.map (·.2)++z.2::(z2.map (·.2)++w0.pd)) hl2:=by
     unfold W0.gG
     congr 1
    rw[<- e'];exact hI
   have hl3:(z1.map (·.2)++(z2.map (·.2)++w0.pd)).Pairwise λa b=>∀g,a.e.g=some g->b.e.g≠some g :=
    hl2.sublist ((List.Sublist.refl _).append (List.sublist_cons_self _ _))
   have hcl:=claim (hl':=hl3) hI' k4 k5
   have hl4:((z1++z2).map (·.2)++w0.pd).Pairwise λa b=>∀g,a.e.g=some g->b.e.g≠some g:=by
    simpa only[List.map_append,List.append_assoc]using hl3
   have hcl':Inv Gl F (own++[z.2.e]) B (w0.gG ((z1++z2).map (·.2)++w0.pd) hl4) (St.put ⟨τ.t,τ.h++[z.2.ob]⟩ (some d) (v.at τ.h.length)) act w:=by
    have e':w0.gG ((z1++z2).map (·.2)++w0.pd) hl4=w0.gG (z1.map (·.2)++(z2.map (·.2)++w0.pd)) hl3:=by
     unfold W0.gG
     congr 1
     simp
    rw[e'];exact hcl
   have hin2:∀y∈z1++z2,y∈z1++z::z2:=λy hy=>by
    rcases List.mem_append.1 hy with s|s
    .exact List.mem_append.2 (.inl s)
    .exact List.mem_append.2 (.inr (List.mem_cons_of_mem _ s))
   refine ih (z1++z2) _ _ hl4 (by simp at hlen ⊢;omega) ?_ (λa ha b hb=>hap a (hin2 a ha) b (hin2 b hb)) (λy hy=>?_) hstep hcl'
   .refine List.Nodup.sublist ?_ hnd
    simp only[List.map_append,List.map_cons]
    exact(List.Sublist.refl _).append (List.sublist_cons_self _ _)
   .obtain⟨y1,y2,y3⟩:=hz y (hin2 y hy)
    refine⟨y1,y2,y3.put λs hs=>?_⟩
    cases hs
    have hne:=a1Z y hy
    have hlt:z.1<y.1:=by have:=hmin y (hin2 y hy);omega
    exact(hap z hzm y (hin2 y hy) hlt).1 d k1
theorem JD {lm:Bool} {ops:Array Oper} {L:List (Nat × Ins)} (hl:L.length=ops.size) (hc:∀ (j:Nat) (o:Oper),ops[j]?=some o->∃ p,L[j]?=some p/\dI P lm ops o=some p.2) (hd:oC ops L=true) (hN:N<=w0.N) {Q:Exit->Act->World->Prop} {K:St->Prop} (hQ:∀ a w,fO Gl B w0 K a w->Q .normal a w)
  (ha:bH P Gl N U K L σ) (hI:Inv Gl F own B w0 σ act w):wpAny P .any ops Q ops.size (Array.replicate ops.size false) act w:=by
 obtain⟨d1,d2,d3,dm⟩:=yG hd
 generalize hn:ops.size=n at *
 have fF:∀i,i<n->∃o p,ops[i]?=some o/\L[i]?=some p/\dI P lm ops o=some p.2/\L.getD i default=p/\okM p:=λi hi=>by
  have ho:ops[i]?=some (ops[i]'(by omega)):=Array.getElem?_eq_getElem (by omega)
  obtain⟨ins,e1,e2⟩:=hc i _ ho
  exact⟨_,ins,ho,e1,e2,by simp[List.getD,e1],dm ins (List.mem_of_getElem? e1)⟩
 have hok:∀i,i<n->okM (L.getD i default):=λi hi=>by
  obtain⟨_,p,_,_,_,e,h⟩:=fF i hi
  rw[e];exact h
 have ahead:∀(S:Nat->Bool),(∀i,i<n->S i=true->∀d∈direct ops i,S d=true)->∀i j,i<n->(∀d∈direct ops i,S d=true)->tb (Region.before ops) i j=true->j<i->S j=true:=by
  intro S hcl i
  induction i using Nat.strongRecOn with
  |_ i ih =>
   intro j hi fH ht hji
   rcases d2 i j hji hi ht with q|⟨d,hdm,r,q⟩
   .exact fH j q
   .have hdi:=d1 i d hi hdm
    exact ih d hdi j (by omega) (hcl d (by omega) (fH d hdm)) q r
 have mem_ready:∀(listed:Array Bool) (i:Nat),listed.size=n->i∈Region.ready .any ops listed->i<n/\listed.getD i false=false/\∀d∈direct ops i,listed.getD d false=true:=by
  intro listed i hsz hi
  unfold Region.ready at hi
  rw[List.mem_filter,List.mem_range,hn]at hi
  obtain⟨h1,h2⟩:=hi
  rw[Bool.and_eq_true]at h2
  have e0:listed.getD i false=listed.getD i true:=by
   have:i<listed.size:=by omega
   simp[Array.getD,this]
  refine⟨h1,by rw[e0];simpa using h2.1,λd hd=>?_⟩
  obtain⟨o,ins,ho,_⟩:=fF i h1
  have h3:=h2.2
  rw[ho]at h3
  simp only[Option.map_some,Option.getD_some]at h3
  unfold direct at hd
  rw[ho]at hd
  simp only at hd
  obtain⟨e,he,hq⟩:=List.mem_filterMap.1 hd
  have:=Array.all_eq_true_iff_forall_mem.1 h3 e (by simpa using he)
  split at hq
  .rename_i hb
   cases hq
   simpa[hb]using this
  .cases hq
 have mI:∀(listed:Array Bool) (i:Nat),listed.size=n->i<n->listed.getD i false=false->(∀j,j<i->listed.getD j false=true)->i∈Region.ready .any ops listed:=by
  intro listed i hsz hi h1 h2
  unfold Region.ready
  rw[List.mem_filter,List.mem_range,hn]
  refine⟨hi,?_⟩
  have e0:listed.getD i false=listed.getD i true:=by
   have:i<listed.size:=by omega
   simp[Array.getD,this]
  rw[Bool.and_eq_true]
  refine⟨by rw[<- e0,h1];rfl,?_⟩
  obtain⟨o,ins,ho,_⟩:=fF i hi
  rw[ho]
  simp only[Option.map_some,Option.getD_some]
  refine Array.all_eq_true_iff_forall_mem.2 λe he=>?_
  cases hb:Region.binds .any e with
  |false=>rfl
  |true =>
   have hd:e.on∈direct ops i:=by
    unfold direct
    rw[ho]
    exact List.mem_filterMap.2 ⟨e,by simpa using he,by simp[hb]⟩
   have:=h2 e.on (d1 i e.on hi hd)
   simpa using this
 have main:∀ (fuel:Nat) (listed:Array Bool) (zs:List (Nat × PdE)) (τ:St) (F:Addr->Option Value) (own:List Ent) (act:Act) (w:World) (hpl:(zs.map (·.2) ++ w0.pd).Pairwise fun a b=>∀ g,a.e.g=some g->b.e.g ≠ some g),listed.size=n->(∀ i,i < n->listed.getD i false=true->∀ d ∈ direct ops i,listed.getD d false=true) ->
   ((List.range n).countP λi=>!listed.getD i false)=fuel->(zs.map (·.1)).Nodup->(∀z∈zs,∀y∈zs,z.1<y.1->Apart (L.getD z.1 default) (L.getD y.1 default))->(∀z∈zs,z.1<n/\listed.getD z.1 false=true/\ED Gl L τ z.1 z.2)->
   bH P Gl N U K (((List.range n).filter (lefts listed zs)).map λi=>L.getD i default) τ->
   Inv Gl F own B (w0.gG (zs.map (·.2)++w0.pd) hpl) τ act w->wpAny P .any ops Q fuel listed act w:=by
  intro fuel
  induction fuel with
  |zero =>
   intro listed zs τ F own act w hpl hsz hcl hcnt hnd hap hz hop hI
   have hall:∀i,i<n->listed.getD i false=true:=λi hi=>by
    have:=List.countP_eq_zero.1 hcnt i (List.mem_range.2 hi)
    simpa using this
   have hah:∀i j,i<n->listed.getD i false=true->tb (Region.before ops) i j=true->j<i->listed.getD j false=true:=λi j hi _ _ hj=>hall j (by omega)
   obtain⟨zs',τ',own',hl',g1,g2,g3,g4,g5,g6⟩:=greedy d3 hok hah hN zs.length zs τ own hpl rfl hnd hap hz hop hI
   have hnil:zs'=[]:=by
    cases zs' with
    |nil=>rfl
    |cons z zs' =>
     obtain⟨a,h1,_,h3⟩:=g6 z (by simp)
     have:=hall a (by have:=(g3 z (by simp)).1;omega)
     rw[h3]at this;cases this
   subst hnil
   refine⟨?_,hQ act w ⟨F,own',τ',g5,?_⟩⟩
   .apply List.eq_nil_iff_forall_not_mem.2
    intro i hi
    obtain⟨q1,q2,_⟩:=mem_ready listed i hsz hi
    rw[hall i q1]at q2
    cases q2
   .have:(List.range n).filter (lefts listed [])=[]:=List.filter_eq_nil_iff.2 λi hi=>by simp[lefts,hall i (List.mem_range.1 hi)]
    rw[this]at g4;exact g4
  |succ fuel ih =>
   intro listed zs τ F own act w hpl hsz hcl hcnt hnd hap hz hop hI
   refine⟨λhnil=>?_,λi hi=>?_⟩
   .obtain⟨i,h1,h2,h3⟩:=uL (n:=n) (S:=λi=>listed.getD i false) (by omega)
    have:=mI listed i hsz h1 h2 h3
    rw[hnil]at this
    simp at this
   .obtain⟨hin,hiS,fH⟩:=mem_ready listed i hsz hi
    have hah:∀i j,i<n->listed.getD i false=true->tb (Region.before ops) i j=true->j<i->listed.getD j false=true:=λi j hi hli ht hj=>ahead (λk=>listed.getD k false) hcl i j hi (hcl i hi hli) ht hj
    have a19:∀j,tb (Region.before ops) i j=true->j<i->listed.getD j false=true:=λj ht hj=>ahead (λk=>listed.getD k false) hcl i j hin fH ht hj
    obtain⟨zs',τ',own',hl',g1,g2,g3,g4,g5,g6⟩:=greedy d3 hok hah hN zs.length zs τ own hpl rfl hnd hap hz hop hI
    clear hop hI hz hap hnd
    obtain⟨o,p,ho,hli,hci,hgd,hmp⟩:=fF i hin
    have hset:∀j,(listed.setIfInBounds i true).getD j false=if j=i then true else listed.getD j false:=λj=>by
     by_cases hji:j=i
     .subst hji
      have:j<listed.size:=by omega
      simp[Array.getD,this]
     .rw[if_neg hji]
      simp only[Array.getD_eq_getD_getElem?]
      rw[Array.getElem?_setIfInBounds_ne (λe=>hji e.symm)]
    have UM:∀z∈zs',z.1≠i:=λz hz e=>by
     have:=(g3 z hz).2.1
     rw[e,hiS]at this;cases this
    have Ww:((List.range n).countP λj=>!(listed.setIfInBounds i true).getD j false)=fuel:=by
     have:=count_set (n:=n) (S:=λj=>listed.getD j false) (S':=λj=>(listed.setIfInBounds i true).getD j false) hin hiS (by simp only[hset];simp) (λj hj=>by simp only[hset,if_neg hj])
     omega
    have hcl':∀j,j<n->(listed.setIfInBounds i true).getD j false=true->∀d∈direct ops j,(listed.setIfInBounds i true).getD d false=true:=λj hj hS d hdj=>by
     rw[hset]at hS ⊢
     split
     .rfl
     .split at hS
      .rename_i hji;subst hji;exact fH d hdj
      .exact hcl j hj hS d hdj
    obtain⟨pre,post,e1,e2,e3⟩:=pz (p:=lefts listed zs') (q:=lefts (listed.setIfInBounds i true) zs') (i:=i) (List.range n) List.pairwise_lt_range (List.mem_range.2 hin) (iP.2 (.inl hiS)) (λj=>by
     unfold lefts
     rw[hset]
     split
     .rename_i hji
      subst hji
      have:(zs'.any λz=>z.1==j)=false:=by
       rw[List.any_eq_false]
       intro z hz
       simpa using UM z hz
      simp[this]
     .rfl)
    have hpre:∀j∈pre,j<n/\j<i/\(listed.getD j false=false\/∃z∈zs',z.1=j):=λj hj=>by
     have:j∈(List.range n).filter (lefts listed zs'):=by rw[e1];simp[hj]
     rw[List.mem_filter,List.mem_range]at this
     exact⟨this.1,e3 j hj,iP.1 this.2⟩
    have hcomp:∀j,j<n->∃(k:Nat) (o:Oper),ops[k]?=some o/\dI P lm ops o=some (L.getD j default).2:=λj hj=>by
     obtain⟨oj,pj,hoj,hlj,hcj,hgj,hmj⟩:=fF j hj
     exact⟨j,oj,hoj,by rw[hgj];exact hcj⟩
    have hcase:∀j∈pre,bY (L.getD j default) (L.getD i default)=false\/tQ (L.getD j default) (L.getD i default)=true:=λj hj=>by
     obtain⟨hjn,hji,hjl⟩:=hpre j hj
     cases hq:bY (L.getD j default) (L.getD i default) with
     |false=>exact .inl rfl
     |true =>
      rcases d3 i j hji hin hq with r|⟨r,r2⟩
      .exact .inr r
      .exfalso
       rcases hjl with s|⟨z,hz,s⟩
       .have:=a19 j r hji
        rw[s]at this;cases this
       .subst s
        obtain⟨a,h1,h2,h3⟩:=g6 z hz
        have:=a19 a (r2 (g3 z hz).2.2.1 a h1 h2) (by omega)
        rw[h3]at this;cases this
    have NM:∀z∈zs',Apart (L.getD i default) (L.getD z.1 default)/\Apart (L.getD z.1 default) (L.getD i default):=λz hz=>by
     have sym:∀a b:Nat×Ins,Apart a b->(∀d,a.2.dst=some d->d∉a.2.looks)->Apart b a\/True:=λ_ _ _ _=>.inr trivial
     obtain⟨hzn,hzl,hzp⟩:=g3 z hz
     rcases Nat.lt_trichotomy z.1 i with hlt|heq|hgt
     ·have hm:z.1 ∈ pre:=by
       have:z.1∈(List.range n).filter (lefts listed zs'):=List.mem_filter.2 ⟨List.mem_range.2 hzn,iP.2 (.inr ⟨z,hz,rfl⟩)⟩
       rw[e1]at this
       rcases List.mem_append.1 this with s|s
       .exact s
       .exfalso
        have hs:=List.pairwise_lt_range.sublist (List.filter_sublist (p:=lefts listed zs') (l:=List.range n))
        rw[e1,List.pairwise_append]at hs
        rcases List.mem_cons.1 s with s|s
        .omega
        .have:=(List.pairwise_cons.1 hs.2.1).1 z.1 s;omega
      have wM:Apart (L.getD z.1 default) (L.getD i default):=by
       rcases hcase z.1 hm with s|s
       .exact rO s
       .unfold tQ at s;simp only[Bool.and_eq_true]at s;exact apart_spec s.1.2
      refine⟨⟨λd hd=>⟨λq=>?_,λq=>?_⟩,λd hd=>(wM.1 d hd).1⟩,wM⟩
      .exact wM.2 d hd q
      .exact(wM.1 d q).2 hd
     .exact absurd heq (UM z hz)
     ·have wM:Apart (L.getD i default) (L.getD z.1 default):=by
       cases hq:bY (L.getD i default) (L.getD z.1 default) with
       |false=>exact rO hq
       |true =>
        rcases d3 z.1 i hgt hzn hq with s|⟨s,_⟩
        .unfold tQ at s;simp only[Bool.and_eq_true]at s;exact apart_spec s.1.2
        .have:=hah z.1 i hzn hzl s hgt
         rw[hiS]at this;cases this
      exact⟨wM,⟨λd hd=>⟨λq=>wM.2 d hd q,λq=>(wM.1 d q).2 hd⟩,λd hd=>(wM.1 d hd).1⟩⟩
    by_cases hgo:∀j∈pre,bY (L.getD j default) (L.getD i default)=false
    .rw[e1,List.map_append,List.map_cons,hgd]at g4
     refine wpOp_mono ?_ (UU (lm:=lm) hmp ho hci (pre.map λi=>L.getD i default) (λa ha=>?_) g5 g4)
     .rintro a1 w1 ⟨F1,aQ,ρ,hI1,hk,v1,h1,rfl⟩
      refine ih (listed.setIfInBounds i true) zs' _ F1 aQ a1 w1 hl' (by simp[hsz]) hcl' Ww g1 g2 (λz hz=>?_) (by rw[e2,List.map_append];exact hk) hI1
      obtain⟨q1,q2,q3⟩:=g3 z hz
      refine⟨q1,by rw[hset];split<;>first|rfl|exact q2,q3.put λs hs=>?_⟩
      have:=(NM z hz).1
      rw[hgd]at this
      exact this.1 s hs
     .obtain⟨j,hj,rfl⟩:=List.mem_map.1 ha
      obtain⟨hjn,hji,_⟩:=hpre j hj
      refine⟨hok j hjn,?_,hcomp j hjn⟩
      rw[<- hgd];exact hgo j hj
    ·obtain ⟨j0,hj0,hc0⟩:∃ j ∈ pre,bY (L.getD j default) (L.getD i default) ≠ false:=by
      apply Classical.byContradiction
      intro hno
      exact hgo λj hj=>Classical.byContradiction λq=>hno ⟨j,hj,q⟩
     have UL:tQ (L.getD j0 default) (L.getD i default)=true:=(hcase j0 hj0).resolve_left hc0
     have hmay:jU p=true:=by
      unfold tQ at UL
      simp only[Bool.and_eq_true]at UL
      rw[<- hgd];exact UL.1.1
     obtain⟨b1,b2,b3,b4,d,b5,b6⟩:=rZ hmay
     have NQ:∀a∈pre.map λi=>L.getD i default,okM a/\Apart a p/\∃(k:Nat) (o:Oper),ops[k]?=some o/\dI P lm ops o=some a.2:=λa ha=>by
      obtain⟨j,hj,rfl⟩:=List.mem_map.1 ha
      obtain⟨hjn,hji,_⟩:=hpre j hj
      refine⟨hok j hjn,?_,hcomp j hjn⟩
      rw[<- hgd]
      rcases hcase j hj with s|s
      .exact rO s
      .unfold tQ at s;simp only[Bool.and_eq_true]at s;exact apart_spec s.1.2
     have g4':=g4
     rw[e1,List.map_append,List.map_cons,hgd]at g4'
     obtain⟨pr,v,ob,hmk,hpr⟩:=Vg hmay _ NQ τ' F own' act w g5 g4'
     have hst:bS P Gl true τ' p.2 λρ=>ρ=St.put ⟨τ'.t,τ'.h++[ob]⟩ (some d) (v.at τ'.h.length):=by
      rw[wU b4]
      have e:oO Gl τ' p.2=some (pr,v.at τ'.h.length,τ'.h++[ob]):=by
       unfold oO
       rw[b2]
       exact IU hmk
      exact⟨pr,v.at τ'.h.length,τ'.h++[ob],e,hpr,by rw[b5]⟩
     refine wpOp_mono ?_ (gT g5 hci hst Q ho)
     rintro a1 w1 ⟨F1,aQ,ρ,hI1,rfl⟩
     obtain⟨a8I,a8H⟩:=Qp hmk
     obtain⟨x,q,hpl',hqo,hI2,hR2⟩:=demote g5 a8I a8H hI1
     have hop2:=SF hmp b5 b6 (.v x) _ (λa ha=>⟨(NQ a ha).1,(NQ a ha).2.1⟩) τ' g4'
     have hl3:(((i,q)::zs').map (·.2)++w0.pd).Pairwise λa b=>∀g,a.e.g=some g->b.e.g≠some g:=hpl'
     refine ih (listed.setIfInBounds i true) ((i,q)::zs') (τ'.put (some d) (.v x)) F1 (aQ.take τ'.h.length) a1 w1 hl3 (by simp[hsz]) hcl' Ww ?_ ?_ ?_ ?_ hI2
     .simp only[List.map_cons,List.nodup_cons]
      refine⟨λq=>?_,g1⟩
      obtain⟨z,hz,e⟩:=List.mem_map.1 q
      exact UM z hz e
     .intro a ha b hb hab
      rcases List.mem_cons.1 ha with rfl|ha<;>rcases List.mem_cons.1 hb with rfl|hb
      .omega
      .exact(NM b hb).1
      .exact(NM a ha).2
      .exact g2 a ha b hb hab
     .intro z hz
      rcases List.mem_cons.1 hz with rfl|hz
      .refine⟨hin,by rw[hset,if_pos rfl],by rw[hgd];exact hmay,d,v,pr,x,by rw[hgd];exact b5,?_,hpr,λa ha=>?_,λhd=>hR2 (by simpa[St.put]using hd)⟩
       .rw[hgd,hqo,<- hmk]
        refine xZ λs hs=>?_
        have:d≠s:=λq=>b6 (by rw[q];exact List.mem_append.2 (.inl hs))
        simp only[St.put,List.getD,List.getElem?_set_ne this]
       .have ha':(τ'.t.set d (.v x))[d]?=some a:=ha
        rw[List.getElem?_set]at ha'
        simp only[if_true]at ha'
        split at ha'
        .cases ha';rfl
        .cases ha'
      .obtain⟨q1,q2,q3⟩:=g3 z hz
       refine⟨q1,by rw[hset];split<;>first|rfl|exact q2,?_⟩
       have:=q3.put (dst:=some d) (v':=.v x) (h1:=τ'.h) λs hs=>by
        cases hs
        have:=(NM z hz).1
        rw[hgd]at this
        exact this.1 d b5
       exact this
     ·have e4:(List.range n).filter (lefts (listed.setIfInBounds i true) ((i,q) :: zs'))=(List.range n).filter (lefts listed zs'):=by
       apply List.filter_congr
       intro j _
       unfold lefts
       rw[hset]
       split
       .rename_i hji;subst hji;simp[hiS]
       .rename_i hji
        have:(i==j)=false:=by simpa using λq=>hji q.symm
        simp[this]
      rw[e4,e1,List.map_append,List.map_cons,hgd]
      exact hop2
 have hrep:∀i,(Array.replicate n false).getD i false=false:=λi=>by
  simp only[Array.getD_eq_getD_getElem?,Array.getElem?_replicate]
  split<;>rfl
 refine main n (Array.replicate n false) [] σ F own act w w0.pdn (by simp) (λi _ h=>by rw[hrep]at h;cases h) ?_ List.nodup_nil (λz hz=>by cases hz) (λz hz=>by cases hz) ?_ hI
 .have:((List.range n).countP λi=>!(Array.replicate n false).getD i false)=(List.range n).length:=List.countP_eq_length.2 λi _=>by rw[hrep];rfl
  rw[this];simp
 .have e1:(List.range n).filter (lefts (Array.replicate n false) [])=List.range n:=List.filter_eq_self.2 λi _=>by simp[lefts,hrep]
  have e2:(List.range n).map (λi=>L.getD i default)=L:=by
   apply List.ext_getElem?
   intro j
   rw[List.getElem?_map]
   rcases Nat.lt_or_ge j n with q|q
   .obtain⟨_,p,_,e,_,e',_⟩:=fF j q
    rw[List.getElem?_range q,e];simp only[Option.map_some,e']
   .rw[List.getElem?_eq_none (by simpa using q),List.getElem?_eq_none (by omega)];rfl
  rw[e1,e2];exact ha
theorem Inv.reN (h:Inv Gl F own B w0 σ act w) {n:Nat} (hn:n<=σ.h.length) (hf:∀ q ∈ w0.fr,q.1<=n):Inv Gl F own B ⟨w0.w,w0.F,n,w0.fr,hf,w0.pd,w0.pdn,w0.df⟩ σ act w :=
  { tl:=h.tl,tr:=h.tr,defers:=h.defers,sub:=h.sub,hl:=h.hl,objs:=h.objs,inj:=h.inj,below:=h.below,base:=h.base,gl:=h.gl,gw:=h.gw,room:=h.room,ext:=h.ext,dW:=h.dW,nl:=hn,fr:=h.fr,pd:=h.pd }
theorem Inv.ofN {n:Nat} {hf:∀ q ∈ w0.fr,q.1<=n} (h:Inv Gl F own B ⟨w0.w,w0.F,n,w0.fr,hf,w0.pd,w0.pdn,w0.df⟩ σ act w) (hn:w0.N<=n):Inv Gl F own B w0 σ act w :=
  { tl:=h.tl,tr:=h.tr,defers:=h.defers,sub:=h.sub,hl:=h.hl,objs:=h.objs,inj:=h.inj,below:=h.below,base:=h.base,gl:=h.gl,gw:=h.gw,room:=h.room,ext:=h.ext,dW:=h.dW,nl:=Nat.le_trans hn h.nl,fr:=h.fr,pd:=h.pd }
end
end
end
end Abs
end Go.Proofs.YtnhgeocdffhkjaaGreatDoor
