/- The card. -/
import Derived.Test.YtgfnhpadmifiiaaDoorZEI
import Derived.LaidSub
import Derived.Test.YtgfnhpadmifiiaaDoorCards
import Derived.Test.YtgfnhpadmifiiaaDoorTie
import Derived.WalkKit
import Derived.ProofKit
import Derived.OpenShut
import Derived.ShutString
import Derived.ChangeOld
import Derived.Below
import Derived.Carry
import Derived.Lib.SmallJoins
import Derived.Deep.DeepHandedRow
import Derived.Lib.LaidTab
namespace Go.Proofs.YtgfnhpadmifiiaaDoor.diagramCombine
open Go.ChangeShapes Go.WideShapes Go.ChangeAt Go.RowKit Go.Joins
open Go.ChangeMaps (open_string shut_string)
open Go.Proofs.YtgfnhpadmifiiaaDoor.Abs
set_option linter.unusedVariables false
set_option linter.unusedSimpArgs false

theorem own:ownKnob Tryd.prog.godebug=none:=by kernel_rfl
theorem laidOut:laidOutB Tryd.prog=true:=by kernel_rfl
theorem a9C {a b:Nat} (h:a ≠ b):Nat.beq a b=false:=by
  cases q:Nat.beq a b with
  |false=>rfl
  |true=>exact absurd (Nat.eq_of_beq_eq_true q) h
theorem far {g:Nat} (h0:g ≠ 0):bP g=none:=by
  unfold bP
  rw[if_neg (by rw[a9C h0];simp)]
theorem a1g {GX:GXT} {g:Nat} (h1:GX g=none) (h2:GX (g + 1000000)=none):gx GX g=none:=by
  unfold gx
  split
  · rw [h1]
    dsimp only
    rw[h2]
  .rfl
theorem WS:(Tryd.prog.globals[0]?).map (·.type)=some 140:=by kernel_rfl
theorem a4Q:Tryd.prog.cellsOf 140=20:=by kernel_rfl
theorem a4P:Tryd.prog.cellsOf 130=1:=by kernel_rfl
theorem a5D:Rows.diagramCombineRow.laid.filter (λx=>x.1== "internal/strconv.uint64pow10")=[("internal/strconv.uint64pow10",Rows.laid_internal_strconv_uint64pow10)]:=by kernel_rfl
theorem table {W:World} (h:laidMetH Tryd.prog Rows.diagramCombineRow.laid W):Nb (gx bP) (snap W)/\GlW (gx bP) W.heap.size W:=by
  have h2:=laidMetH.filter (λx=>x.1== "internal/strconv.uint64pow10") h
  rw[a5D]at h2
  have t:Lib.TabIs Tryd.prog W "internal/strconv.uint64pow10" .u64 Lib.pow10Tab:=Lib.tabIs_of_head (rest:=[]) Me WS Tryd.underlying140 Tryd.underlying130 a4P a4Q h2
  have key:∀ g cs,gx bP g=some cs->g=0/\cs=Lib.pow10Tab.map fun z=>.v (.int .u64 z):=by
    intro g cs hg
    by_cases h0:g=0
    · subst h0
      exact⟨rfl,(Option.some.inj (show some (Lib.pow10Tab.map λz=>AV.v (.int .u64 z))=some cs from hg)).symm⟩
    .rw[a1g (GX:=bP) (far h0) (far (by omega))]at hg;cases hg
  refine⟨λg cs hg=>?_,λg cs hg=>?_⟩
  · obtain ⟨rfl,rfl⟩:=key g cs hg
    exact Tn (zs:=Lib.pow10Tab) λi hi=>t.cell Me i hi
  · obtain ⟨rfl,rfl⟩:=key g cs hg
    have c:=t.cell Me 0 (by decide)
    have hlt:0<W.heap.size:=World.block_lt_of_cell? W _ c
    refine⟨hlt,?_⟩
    unfold Lib.TabIs World.var? at t
    rw[Me]at t
    simp only[Option.bind_some]at t
    split at t
    · rename_i vs ty fr hb
      obtain rfl:=Option.some.inj t
      exact⟨_,ty,fr,hb,by simp⟩
    .cases t

set_option maxRecDepth 100000 in
theorem contract (H : Type) (enc : TypeId × Value -> H) (W : World) (base : Nat) (args : Array Value) (ds gs : List (DataW H)) (before : List MemPlace)
    (hval:∀(j:Nat) t v,Tryd.f8.params[j]?=some t->args[j]?=some v->Value.okWide Tryd.prog W .any base t v)
    (hW:DataW.Whole enc Tryd.prog Tryd.f8.params.toList Rows.diagramCombineSpec.vars false W args.toList ds gs before) (hL:laidMetH Tryd.prog Rows.diagramCombineRow.laid W) :
    Calls Tryd.prog 8 args W λe W'=>∃v,e=.returned v/\Rows.diagramCombineSpec.post enc Tryd.prog Tryd.f8 false true false false W args v W':=by
  have hW':=hW
  obtain⟨p,q,hA0,hV,rfl,hfz,hnd⟩:=hW
  have hA:DataW.TrodAll enc Tryd.prog W 0 (λ_=>true) true Tryd.f8.params.toList args.toList ds p:=hA0
  rw[Tryd.params8]at hA hval
  obtain⟨v0,vs0,d0,ds0,p0,q0,hargs,rfl,rfl,h0,r0⟩:=trodAll_cons hA
  obtain⟨v1,vs1,d1,ds1,p1,q1,rfl,rfl,rfl,h1,r1⟩:=trodAll_cons r0
  obtain⟨v2,vs2,d2,ds2,p2,q2,rfl,rfl,rfl,h2,r2⟩:=trodAll_cons r1
  obtain⟨v3,vs3,d3,ds3,p3,q3,rfl,rfl,rfl,h3,r3⟩:=trodAll_cons r2
  obtain⟨v4,vs4,d4,ds4,p4,q4,rfl,rfl,rfl,h4,r4⟩:=trodAll_cons r3
  obtain⟨rfl,rfl,rfl⟩:=trodAll_nil r4
  obtain rfl:args=#[v0,v1,v2,v3,v4]:=by cases args;simp_all
  obtain⟨rfl,rfl⟩:=trodVars_none hV
  have k0:=h0
  have lt0:∀x∈p0,x.block<W.heap.size:=by obtain⟨m,hm⟩:=k0;exact DataW.trod_lt m _ _ _ hm
  have k1:=h1
  have lt1:∀x∈p1,x.block<W.heap.size:=by obtain⟨m,hm⟩:=k1;exact DataW.trod_lt m _ _ _ hm
  have k2:=h2
  have lt2:∀x∈p2,x.block<W.heap.size:=by obtain⟨m,hm⟩:=k2;exact DataW.trod_lt m _ _ _ hm
  have k3:=h3
  have lt3:∀x∈p3,x.block<W.heap.size:=by obtain⟨m,hm⟩:=k3;exact DataW.trod_lt m _ _ _ hm
  have k4:=h4
  have lt4:∀x∈p4,x.block<W.heap.size:=by obtain⟨m,hm⟩:=k4;exact DataW.trod_lt m _ _ _ hm
  obtain⟨a0,R0,i0⟩:=zq (d:=8) (T:=(.int .i64)) (by kernel_rfl) (hval 0 3 v0 rfl rfl) h0
  obtain⟨x0,o0,rfl⟩:=Bu i0
  obtain⟨a1,R1,i1⟩:=zq (d:=8) (T:=(.list (.int .i64))) (by kernel_rfl) (hval 1 37 v1 rfl rfl) h1
  obtain⟨x1,o1,rfl⟩:=Bu i1
  obtain⟨a2,R2,i2⟩:=zq (d:=8) (T:=(.list (.int .i64))) (by kernel_rfl) (hval 2 37 v2 rfl rfl) h2
  obtain⟨x2,o2,rfl⟩:=Bu i2
  obtain⟨a3,R3,i3⟩:=zq (d:=8) (T:=(.int .i64)) (by kernel_rfl) (hval 3 3 v3 rfl rfl) h3
  obtain⟨x3,o3,rfl⟩:=Bu i3
  obtain⟨a4,R4,i4⟩:=zq (d:=8) (T:=tS2) (by kernel_rfl) (hval 4 28 v4 rfl rfl) h4
  obtain⟨x4,o4,rfl⟩:=Bu i4
  clear hA0

  have walk:Calls Tryd.prog 8 _ W λe w'=>e=.returned (.bool true)/\Below W.heap.size W w':=Nr (w:=W) (l:=[_,_,_,_,_]) (a9B.2 (x0,x1,x2,x3,x4,()) (true,()) (Nh x0 x1 x2 x3 x4 (Ls o0) (OG o1) (OG o2) (Ls o3) (a5w o4))) (table hL).1 (table hL).2 (RPL.cons R0 (RPL.cons R1 (RPL.cons R2 (RPL.cons R3 (RPL.cons R4 RPL.nil)))))
  refine walk.mono λe W' ⟨he,bel⟩=>?_
  subst he
  exact⟨_,rfl,_,_,_,[],_,[],hW',trodAll_mk1 (shut_bool Tryd.underlying4 _),(trodAll_cons_mk (Below.trod laidOut (by kernel_rfl) (of_decide_eq_true (by kernel_rfl)) k0 bel lt0) (trodAll_cons_mk (Below.trod laidOut (by kernel_rfl) (of_decide_eq_true (by kernel_rfl)) k1 bel lt1) (trodAll_cons_mk (Below.trod laidOut (by kernel_rfl) (of_decide_eq_true (by kernel_rfl)) k2 bel lt2) (trodAll_cons_mk (Below.trod laidOut (by kernel_rfl) (of_decide_eq_true (by kernel_rfl)) k3 bel lt3) (trodAll_cons_mk (Below.trod laidOut (by kernel_rfl) (of_decide_eq_true (by kernel_rfl)) k4 bel lt4) trodAll_mk0))))),rfl,bel.frame _,λh=>by cases h⟩

def Vx (h:Array Obj) (b:Nat) (vs:Array Value):Array Obj:=h.modify b fun
  |.cells _ t frozen=>.cells vs t frozen
  |o=>o
noncomputable def Du (os:Os):World :=
  { World.holding Tryd.prog os ⟨#[],#[],[]⟩with heap:=Vx (Vx (Vx ((World.holding Tryd.prog os ⟨#[],#[],[]⟩).heap) 1 #[.int .u8 0,.int .u8 1,.int .u8 28,.int .u8 2,.int .u8 29,.int .u8 14,.int .u8 24,.int .u8 3,.int .u8 30,.int .u8 22,.int .u8 20,.int .u8 15,.int .u8 25,.int .u8 17,.int .u8 4,.int .u8 8,.int .u8 31,.int .u8 27,.int .u8 13,.int .u8 23,.int .u8 21,.int .u8 19,.int .u8 16,.int .u8 7,.int .u8 26,.int .u8 12,.int .u8 18,.int .u8 6,.int .u8 11,.int .u8 5,.int .u8 10,.int .u8 9]) 2 #[.int .u8 0,.int .u8 1,.int .u8 56,.int .u8 2,.int .u8 57,.int .u8 49,.int .u8 28,.int .u8 3,.int .u8 61,.int .u8 58,.int .u8 42,.int .u8 50,.int .u8 38,.int .u8 29,.int .u8 17,.int .u8 4,.int .u8 62,.int .u8 47,.int .u8 59,.int .u8 36,.int .u8 45,.int .u8 43,.int .u8 51,.int .u8 22,.int .u8 53,.int .u8 39,.int .u8 33,.int .u8 30,.int .u8 24,.int .u8 18,.int .u8 12,.int .u8 5,.int .u8 63,.int .u8 55,.int .u8 48,.int .u8 27,.int .u8 60,.int .u8 41,.int .u8 37,.int .u8 16,.int .u8 46,.int .u8 35,.int .u8 44,.int .u8 21,.int .u8 52,.int .u8 32,.int .u8 23,.int .u8 11,.int .u8 54,.int .u8 26,.int .u8 40,.int .u8 15,.int .u8 34,.int .u8 20,.int .u8 31,.int .u8 10,.int .u8 25,.int .u8 14,.int .u8 19,.int .u8 9,.int .u8 13,.int .u8 8,.int .u8 7,.int .u8 6]) 0 #[.int .u64 1,.int .u64 10,.int .u64 100,.int .u64 1000,.int .u64 10000,.int .u64 100000,.int .u64 1000000,.int .u64 10000000,.int .u64 100000000,.int .u64 1000000000,.int .u64 10000000000,.int .u64 100000000000,.int .u64 1000000000000,.int .u64 10000000000000,.int .u64 100000000000000,.int .u64 1000000000000000,.int .u64 10000000000000000,.int .u64 100000000000000000,.int .u64 1000000000000000000,.int .u64 10000000000000000000] }
theorem Wt (os:Os):laidMet Tryd.prog Rows.diagramCombineRow.laid ((Du os).forCall (fun _ _=>0) ⟨#[],#[.int .i64 0,.slice none 0 0,.slice none 0 0,.int .i64 0,.agg #[.slice none 0 0,.int .i64 0]],[]⟩).memory :=
  laidMet_of_run' 8 (by kernel_rfl) (by kernel_rfl)
theorem reads (os:Os) {H:Type} (enc:TypeId × Value->H):∃ x,DataW.whole enc Tryd.prog ((Du os).forCall (fun _ _=>0) ⟨#[],#[.int .i64 0,.slice none 0 0,.slice none 0 0,.int .i64 0,.agg #[.slice none 0 0,.int .i64 0]],[]⟩).memory Tryd.f8.params.toList Rows.diagramCombineSpec.vars false (#[.int .i64 0,.slice none 0 0,.slice none 0 0,.int .i64 0,.agg #[.slice none 0 0,.int .i64 0]]:Array Value).toList 8=some ([.lit (.int .i64 0),.nil,.nil,.lit (.int .i64 0),.agg [.nil,.lit (.int .i64 0)]],[],x) :=
  ⟨[],by kernel_rfl⟩

set_option maxRecDepth 100000 in
theorem lifted (os : Os) (started : os.Started) (H : Type) (enc : TypeId × Value -> H) (F : Stop.Interp) :
    ReturnsInHanded {} Tryd.checked os 8 .any ((OpenSpec.ofChange Rows.diagramCombineSpec).preRow enc Tryd.prog Tryd.f8 Rows.diagramCombineRow.domain false Rows.diagramCombineRow.laid) (((OpenSpec.ofChange Rows.diagramCombineSpec).at F).post enc Tryd.prog Tryd.f8 false true false false):=by
  obtain⟨places,hx⟩:=reads os enc
  refine returnsInHanded_of_row (C:=Tryd.checked) (s:=(OpenSpec.ofChange Rows.diagramCombineSpec)) own started (by kernel_rfl) Tryd.func8
    (witness_row_at (enc:=enc) (C:=Tryd.checked) false (Du os) #[.int .i64 0,.slice none 0 0,.slice none 0 0,.int .i64 0,.agg #[.slice none 0 0,.int .i64 0]] rfl (by kernel_rfl) (by kernel_rfl) (by kernel_rfl)
      (OpenSpec.preRow_of_cond 8 hx (by kernel_rfl) (λk hk=>by cases hk) (by kernel_rfl) (Wt os))) ?_
  intro W base args ds gs before hval hW _ hcond _ hL hsz _
  exact contract H enc W base args ds gs before hval hW hL

theorem said:Rows.DiagramCombineSaid :=
  OpenClaim.holds_of_cond 8 Tryd.f8 rfl rfl rfl rfl rfl rfl rfl ⟨rfl,rfl,rfl,rfl,rfl⟩ rfl rfl rfl rfl rfl (by kernel_rfl) Tryd.func8 (by kernel_rfl)
    (of_decide_eq_true (by kernel_rfl)) (by unfold Func.isWrapper;first|(rw[if_pos (by decide +kernel)];kernel_rfl)|(rw[if_neg (by decide +kernel)];exact⟨rfl,rfl⟩))
    (λos started H enc _ F=>by rw[OpenClaim.pre_eq_preRow];exact lifted os started H enc F)

theorem plain(f : FuncId)(fn : Func) (hf : Tryd.pinned.checked.prog.funcNamed "treaty/treatylaw13.DiagramCombine" = some f) (hfn : Tryd.pinned.checked.prog.funcs[f]? = some fn) :
    false=Tryd.pinned.checked.prog.looks []/\∀(j:Nat) t,fn.params[j]?=some t->Tryd.pinned.checked.prog.wantsStandIn t=false:=by
  obtain rfl:f=8:=Option.some.inj ((show Tryd.prog.funcNamed "treaty/treatylaw13.DiagramCombine"=some 8 by kernel_rfl).symm.trans hf) |>.symm
  obtain rfl:fn=Tryd.f8:=(Option.some.inj (Tryd.func8.symm.trans hfn)).symm
  refine⟨by kernel_rfl,λj t ht=>?_⟩
  rw[Tryd.params8]at ht
  have hm:t∈[3,37,37,3,28]:=by simpa using Array.mem_of_getElem? ht
  have hall:([3,37,37,3,28].all λu=>!Tryd.prog.wantsStandIn u)=true:=by kernel_rfl
  exact(show Tryd.prog.wantsStandIn t=false by simpa using List.all_eq_true.1 hall t hm)

theorem card:Rows.DiagramCombineCardSaid :=
  Claim7.holds_tied_plain_at .later [] _ _ _ _ said (λ_ h=>by cases h) (by kernel_rfl) (λ_ h=>by cases h) diagramCombine_row_tie rfl ⟨rfl,rfl⟩ (by kernel_rfl) rfl plain (by kernel_rfl)

end Go.Proofs.YtgfnhpadmifiiaaDoor.diagramCombine

