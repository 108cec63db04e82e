/- The card. -/
import Derived.Test.YtnhgeocdffhkjaaGreatDoorZHL
import Derived.LaidSub
import Derived.Test.YtnhgeocdffhkjaaGreatDoorCards
import Derived.Test.YtnhgeocdffhkjaaGreatDoorTie
import Derived.WalkKit
import Derived.ProofKit
import Derived.OpenShut
import Derived.ShutString
import Derived.ChangeOld
import Derived.Below
import Derived.Carry
import Derived.Lib.SmallJoins
import Derived.Deep.DeepHandedRow
import Derived.Lib.LaidTab
namespace Go.Proofs.YtnhgeocdffhkjaaGreatDoor.wordingBack
open Go.ChangeShapes Go.WideShapes Go.ChangeAt Go.RowKit Go.Joins
open Go.ChangeMaps (open_string shut_string)
open Go.Proofs.YtnhgeocdffhkjaaGreatDoor.Abs
set_option linter.unusedVariables false
set_option linter.unusedSimpArgs false

theorem own:ownKnob Tryz.prog.godebug=none:=by kernel_rfl
theorem laidOut:laidOutB Tryz.prog=true:=by kernel_rfl
theorem a9T:rOk Tryz.prog:=λe T h=>by
  unfold JE at h
  split at h
  · rename_i q
    cases h
    have:=Nat.eq_of_beq_eq_true q
    subst this
    exact⟨9,by kernel_rfl⟩
  · split at h
    · rename_i q
      cases h
      have:=Nat.eq_of_beq_eq_true q
      subst this
      exact⟨9,by kernel_rfl⟩
    .cases h
def nmO:String:=Rows.wordingBackRow.named.getD 0 ""
theorem gnC:Tryz.prog.globalNamed "treaty/calendar.lengths"=some 1:=by kernel_rfl
theorem gnO:Tryz.prog.globalNamed nmO=some 0:=by kernel_rfl
theorem gnP:Tryz.prog.globalNamed "internal/strconv.uint64pow10"=some 2:=by kernel_rfl
theorem gtP:(Tryz.prog.globals[2]?).map (·.type)=some 230:=by kernel_rfl
theorem gtC:(Tryz.prog.globals[1]?).map (·.type)=some 204:=by kernel_rfl
theorem gtO:(Tryz.prog.globals[0]?).map (·.type)=some 198:=by kernel_rfl
noncomputable def vsC:List Value:=(cellsD Tryz.prog 6 204 Rows.laid_treaty_calendar_lengths).getD []
noncomputable def vsO:List Value:=(cellsD Tryz.prog 6 198 Rows.laid_treaty_syntax_operators).getD []
noncomputable def vsP:List Value:=(cellsD Tryz.prog 6 230 Rows.laid_internal_strconv_uint64pow10).getD []
def g2C:List AV:=[.v (.int .u64 1),.v (.int .u64 10),.v (.int .u64 100),.v (.int .u64 1000),.v (.int .u64 10000),.v (.int .u64 100000),.v (.int .u64 1000000),.v (.int .u64 10000000),.v (.int .u64 100000000),.v (.int .u64 1000000000),.v (.int .u64 10000000000),.v (.int .u64 100000000000),.v (.int .u64 1000000000000),.v (.int .u64 10000000000000),.v (.int .u64 100000000000000),.v (.int .u64 1000000000000000),.v (.int .u64 10000000000000000),.v (.int .u64 100000000000000000),.v (.int .u64 1000000000000000000),.v (.int .u64 10000000000000000000)]
theorem hcP:cellsD Tryz.prog 6 230 Rows.laid_internal_strconv_uint64pow10=some vsP:=by kernel_rfl
theorem eP:vsP.map .v=g2C:=by kernel_rfl
theorem b40:Rows.wordingBackRow.laid.filter (λx=>x.1== "internal/strconv.uint64pow10")=[("internal/strconv.uint64pow10",Rows.laid_internal_strconv_uint64pow10)]:=by kernel_rfl
noncomputable def g0C:List AV:=(gx fA 1).getD []
theorem hcC:cellsD Tryz.prog 6 204 Rows.laid_treaty_calendar_lengths=some vsC:=by kernel_rfl
theorem hcO:cellsD Tryz.prog 6 198 Rows.laid_treaty_syntax_operators=some vsO:=by kernel_rfl
theorem eC:vsC.map .v=g0C:=by kernel_rfl
theorem eO:vsO.map .v=g1C:=by kernel_rfl
theorem b42:Rows.wordingBackRow.laid.filter (λx=>x.1== "treaty/calendar.lengths")=[("treaty/calendar.lengths",Rows.laid_treaty_calendar_lengths)]:=by kernel_rfl
theorem b41:Rows.wordingBackRow.laid.filter (λx=>x.1==nmO)=[(nmO,Rows.laid_treaty_syntax_operators)]:=by kernel_rfl
theorem a1W{a b:Nat}(h:a≠b):Nat.beq a b=false:=by
  cases q:Nat.beq a b with
  |false=>rfl
  |true=>exact absurd (Nat.eq_of_beq_eq_true q) h
theorem far{g:Nat}(h0:g≠0)(h1:g≠1)(h2:g≠2):fA g=none:=by
  unfold fA
  rw[if_neg (by rw[a1W h0];simp),if_neg (by rw[a1W h1];simp),if_neg (by rw[a1W h2];simp)]
theorem a6G{GX:GXT}{g:Nat}(h1:GX g=none)(h2:GX (g+1000000)=none):gx GX g=none:=by
  unfold gx
  split
  · rw [h1]
    dsimp only
    rw[h2]
  .rfl
theorem gC:gx fA 1=some g0C:=by kernel_rfl
theorem gO:gx fA 0=some g1C:=by kernel_rfl
theorem gP:gx fA 2=some g2C:=by kernel_rfl
theorem a4p{g:Nat}{cs:List AV}(h:gx fA (g+3)=some cs):False:=by
  rw[a6G (GX:=fA) (far (by omega) (by omega) (by omega)) (far (by omega) (by omega) (by omega))]at h
  cases h
theorem table{W:World}(h:laidMetH Tryz.prog Rows.wordingBackRow.laid W):KD (gx fA) (snap W)/\GlW (gx fA) W.heap.size W:=by
  have h0:=laidMetH.filter (λx=>x.1== "treaty/calendar.lengths") h
  rw[b42]at h0
  have h1:=laidMetH.filter (λx=>x.1==nmO) h
  rw[b41]at h1
  have h2:=laidMetH.filter (λx=>x.1== "internal/strconv.uint64pow10") h
  rw[b40]at h2
  have w2:=AP (rest:=[]) gnP gtP hcP h2
  have w0:=AP (rest:=[]) gnC gtC hcC h0
  have w1:=AP (rest:=[]) gnO gtO hcO h1
  refine⟨λg cs hg=>?_,λg cs hg=>?_⟩
  · match g,hg with
    |1,hg=>rw[gC]at hg;cases hg;rw[<- eC];exact Bh gnC w0 (by kernel_rfl)
    |0,hg=>rw[gO]at hg;cases hg;rw[<- eO];exact Bh gnO w1 (by kernel_rfl)
    |2,hg=>rw[gP]at hg;cases hg;rw[<- eP];exact Bh gnP w2 (by kernel_rfl)
    |n+3,hg=>exact(a4p hg).elim
  · match g,hg with
    |1,hg=>rw[gC]at hg;cases hg;rw[<- eC,List.length_map];exact CX gnC w0 (of_decide_eq_true (by kernel_rfl))
    |0,hg=>rw[gO]at hg;cases hg;rw[<- eO,List.length_map];exact CX gnO w1 (of_decide_eq_true (by kernel_rfl))
    |2,hg=>rw[gP]at hg;cases hg;rw[<- eP,List.length_map];exact CX gnP w2 (of_decide_eq_true (by kernel_rfl))
    |n+3,hg=>exact(a4p hg).elim

set_option maxRecDepth 100000 in
theorem contract(H:Type)(enc:TypeId×Value->H)(W:World)(base:Nat)(args:Array Value)(ds gs:List (DataW H))(before:List MemPlace)
    (hval:∀(j:Nat) t v,Tryz.f6.params[j]?=some t->args[j]?=some v->Value.okWide Tryz.prog W .any base t v)
    (hW:DataW.Whole enc Tryz.prog Tryz.f6.params.toList Rows.wordingBackSpec.vars false W args.toList ds gs before) (hL:laidMetH Tryz.prog Rows.wordingBackRow.laid W) :
    Calls Tryz.prog 6 args W λe W'=>∃v,e=.returned v/\Rows.wordingBackSpec.post enc Tryz.prog Tryz.f6 false true false false W args v W':=by
  have hW':=hW
  obtain⟨p,q,hA0,hV,rfl,hfz,hnd⟩:=hW
  have hA:DataW.TrodAll enc Tryz.prog W 0 (λ_=>true) true Tryz.f6.params.toList args.toList ds p:=hA0
  rw[Tryz.params6]at hA hval
  obtain⟨v0,vs0,d0,ds0,p0,q0,hargs,rfl,rfl,h0,r0⟩:=trodAll_cons hA
  obtain⟨rfl,rfl,rfl⟩:=trodAll_nil r0
  obtain rfl:args=#[v0]:=by cases args;simp_all
  obtain⟨rfl,rfl⟩:=trodVars_none hV
  have k0:=h0
  have lt0:∀x∈p0,x.block<W.heap.size:=by obtain⟨m,hm⟩:=k0;exact DataW.trod_lt m _ _ _ hm
  obtain⟨a0,R0,i0⟩:=a1s a9T (d:=8) (T:=(.list (.int .i64))) (by kernel_rfl) (hval 0 23 v0 rfl rfl) h0
  obtain⟨x0,o0,rfl⟩:=a6B i0
  clear hA0

  have walk:Calls Tryz.prog 6 _ W λe w'=>e=.returned (.bool true)/\Below W.heap.size W w':=R9 (w:=W) (l:=[_]) (b9u.2 (x0,()) (true,()) (a2f x0 (a6d (e:=.int .i64) o0).1)) (table hL).1 (table hL).2 (RPL.cons R0 RPL.nil)
  refine walk.mono λe W' ⟨he,bel⟩=>?_
  subst he
  exact⟨_,rfl,_,_,_,[],_,[],hW',trodAll_mk1 (shut_bool Tryz.underlying4 _),(trodAll_cons_mk (Below.trod laidOut (by kernel_rfl) (of_decide_eq_true (by kernel_rfl)) k0 bel lt0) trodAll_mk0),rfl,bel.frame _,λh=>by cases h⟩

def O7(h:Array Obj)(b:Nat)(vs:Array Value):Array Obj:=h.modify b fun
  |.cells _ t frozen=>.cells vs t frozen
  |o=>o
noncomputable def En(os:Os):World :=
  { World.holding Tryz.prog os ⟨#[],#[],[]⟩with heap:=O7 (O7 (O7 (O7 (O7 ((World.holding Tryz.prog os ⟨#[],#[],[]⟩).heap) 0 #[.string ⟨#[]⟩,.bool false,.int .i64 0,.int .i64 0,.int .i64 0,.string ⟨#[116,114,117,101]⟩,.bool false,.int .i64 0,.int .i64 0,.int .i64 0,.string ⟨#[102,97,108,115,101]⟩,.bool false,.int .i64 0,.int .i64 0,.int .i64 0,.string ⟨#[]⟩,.bool true,.int .i64 0,.int .i64 0,.int .i64 0,.string ⟨#[105,110]⟩,.bool true,.int .i64 0,.int .i64 0,.int .i64 0,.string ⟨#[102,114,111,109]⟩,.bool true,.int .i64 0,.int .i64 0,.int .i64 0,.string ⟨#[110,111,116]⟩,.bool false,.int .i64 1,.int .i64 1,.int .i64 3,.string ⟨#[97,110,100]⟩,.bool false,.int .i64 2,.int .i64 300,.int .i64 2,.string ⟨#[111,114]⟩,.bool false,.int .i64 2,.int .i64 300,.int .i64 1]) 1 #[.int .i64 31,.int .i64 28,.int .i64 31,.int .i64 30,.int .i64 31,.int .i64 30,.int .i64 31,.int .i64 31,.int .i64 30,.int .i64 31,.int .i64 30,.int .i64 31]) 3 #[.int .u8 0,.int .u8 1,.int .u8 28,.int .u8 2,.int .u8 29,.int .u8 14,.int .u8 24,.int .u8 3,.int .u8 30,.int .u8 22,.int .u8 20,.int .u8 15,.int .u8 25,.int .u8 17,.int .u8 4,.int .u8 8,.int .u8 31,.int .u8 27,.int .u8 13,.int .u8 23,.int .u8 21,.int .u8 19,.int .u8 16,.int .u8 7,.int .u8 26,.int .u8 12,.int .u8 18,.int .u8 6,.int .u8 11,.int .u8 5,.int .u8 10,.int .u8 9]) 4 #[.int .u8 0,.int .u8 1,.int .u8 56,.int .u8 2,.int .u8 57,.int .u8 49,.int .u8 28,.int .u8 3,.int .u8 61,.int .u8 58,.int .u8 42,.int .u8 50,.int .u8 38,.int .u8 29,.int .u8 17,.int .u8 4,.int .u8 62,.int .u8 47,.int .u8 59,.int .u8 36,.int .u8 45,.int .u8 43,.int .u8 51,.int .u8 22,.int .u8 53,.int .u8 39,.int .u8 33,.int .u8 30,.int .u8 24,.int .u8 18,.int .u8 12,.int .u8 5,.int .u8 63,.int .u8 55,.int .u8 48,.int .u8 27,.int .u8 60,.int .u8 41,.int .u8 37,.int .u8 16,.int .u8 46,.int .u8 35,.int .u8 44,.int .u8 21,.int .u8 52,.int .u8 32,.int .u8 23,.int .u8 11,.int .u8 54,.int .u8 26,.int .u8 40,.int .u8 15,.int .u8 34,.int .u8 20,.int .u8 31,.int .u8 10,.int .u8 25,.int .u8 14,.int .u8 19,.int .u8 9,.int .u8 13,.int .u8 8,.int .u8 7,.int .u8 6]) 2 #[.int .u64 1,.int .u64 10,.int .u64 100,.int .u64 1000,.int .u64 10000,.int .u64 100000,.int .u64 1000000,.int .u64 10000000,.int .u64 100000000,.int .u64 1000000000,.int .u64 10000000000,.int .u64 100000000000,.int .u64 1000000000000,.int .u64 10000000000000,.int .u64 100000000000000,.int .u64 1000000000000000,.int .u64 10000000000000000,.int .u64 100000000000000000,.int .u64 1000000000000000000,.int .u64 10000000000000000000] }
theorem a2g(os:Os):laidMet Tryz.prog Rows.wordingBackRow.laid ((En os).forCall (λ_ _=>0) ⟨#[],#[.slice none 0 0],[]⟩).memory :=
  laidMet_of_run' 8 (by kernel_rfl) (by kernel_rfl)
theorem reads(os:Os){H:Type}(enc:TypeId×Value->H):∃x,DataW.whole enc Tryz.prog ((En os).forCall (λ_ _=>0) ⟨#[],#[.slice none 0 0],[]⟩).memory Tryz.f6.params.toList Rows.wordingBackSpec.vars false (#[.slice none 0 0]:Array Value).toList 8=some ([.nil],[],x) :=
  ⟨[],by kernel_rfl⟩

set_option maxRecDepth 100000 in
theorem lifted(os:Os)(started:os.Started)(H:Type)(enc:TypeId×Value->H)(F:Stop.Interp) :
    ReturnsInHanded {} Tryz.checked os 6 .any ((OpenSpec.ofChange Rows.wordingBackSpec).preRow enc Tryz.prog Tryz.f6 Rows.wordingBackRow.domain false Rows.wordingBackRow.laid) (((OpenSpec.ofChange Rows.wordingBackSpec).at F).post enc Tryz.prog Tryz.f6 false true false false):=by
  obtain⟨places,hx⟩:=reads os enc
  refine returnsInHanded_of_row (C:=Tryz.checked) (s:=(OpenSpec.ofChange Rows.wordingBackSpec)) own started (by kernel_rfl) Tryz.func6
    (witness_row_at (enc:=enc) (C:=Tryz.checked) false (En os) #[.slice none 0 0] rfl (by kernel_rfl) (by kernel_rfl) (by kernel_rfl)
      (OpenSpec.preRow_of_cond 8 hx (by kernel_rfl) (λk hk=>by cases hk) (by kernel_rfl) (a2g os))) ?_
  intro W base args ds gs before hval hW _ hcond _ hL hsz _
  exact contract H enc W base args ds gs before hval hW hL

theorem said:Rows.WordingBackSaid :=
  OpenClaim.holds_of_cond 6 Tryz.f6 rfl rfl rfl rfl rfl rfl rfl ⟨rfl,rfl,rfl,rfl,rfl⟩ rfl rfl rfl rfl rfl (by kernel_rfl) Tryz.func6 (by kernel_rfl)
    (of_decide_eq_true (by kernel_rfl)) (by unfold Func.isWrapper;first|(rw[if_pos (by decide +kernel)];kernel_rfl)|(rw[if_neg (by decide +kernel)];exact⟨rfl,rfl⟩))
    (λos started H enc _ F=>by rw[OpenClaim.pre_eq_preRow];exact lifted os started H enc F)

theorem plain(f:FuncId)(fn:Func) (hf:Tryz.pinned.checked.prog.funcNamed "treaty/treatylaw08.WordingBack"=some f) (hfn:Tryz.pinned.checked.prog.funcs[f]?=some fn) :
    true=Tryz.pinned.checked.prog.looks []/\∀(j:Nat) t,fn.params[j]?=some t->Tryz.pinned.checked.prog.wantsStandIn t=false:=by
  obtain rfl:f=6:=Option.some.inj ((show Tryz.prog.funcNamed "treaty/treatylaw08.WordingBack"=some 6 by kernel_rfl).symm.trans hf) |>.symm
  obtain rfl:fn=Tryz.f6:=(Option.some.inj (Tryz.func6.symm.trans hfn)).symm
  refine⟨by kernel_rfl,λj t ht=>?_⟩
  rw[Tryz.params6]at ht
  have hm:t∈[23]:=by simpa using Array.mem_of_getElem? ht
  have hall:([23].all λu=>!Tryz.prog.wantsStandIn u)=true:=by kernel_rfl
  exact(show Tryz.prog.wantsStandIn t=false by simpa using List.all_eq_true.1 hall t hm)

theorem card:Rows.WordingBackCardSaid :=
  Claim7.holds_tied_plain_at .later [] _ _ _ _ said (λ_ h=>by cases h) (by kernel_rfl) (λ_ h=>by cases h) wordingBack_row_tie rfl ⟨rfl,rfl⟩ (by kernel_rfl) rfl plain (by kernel_rfl)

end Go.Proofs.YtnhgeocdffhkjaaGreatDoor.wordingBack

