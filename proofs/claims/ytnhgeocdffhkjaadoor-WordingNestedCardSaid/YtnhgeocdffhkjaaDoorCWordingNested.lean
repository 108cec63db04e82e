/- The card of the law WordingNested: for every input the law's call returns true and leaves what was there as it was. -/
import Derived.Test.YtnhgeocdffhkjaaDoorEXV
import Derived.Test.YtnhgeocdffhkjaaDoorEXW
import Derived.LaidSub
import Derived.Test.YtnhgeocdffhkjaaDoorCards
import Derived.Test.YtnhgeocdffhkjaaDoorTie
import Derived.WalkKit
import Derived.ProofKit
import Derived.OpenShut
import Derived.ShutString
import Derived.ChangeOld
import Derived.Below
import Derived.Carry
import Derived.Lib.SmallJoins
import Derived.Deep.DeepHandedRow
import Derived.Lib.LaidTab
namespace Go.Proofs.YtnhgeocdffhkjaaDoor.wordingNested
open Go.ChangeShapes Go.WideShapes Go.ChangeAt Go.RowKit Go.Joins
open Go.ChangeMaps (open_string shut_string)
open Go.Proofs.YtnhgeocdffhkjaaDoor.Abs
set_option linter.unusedVariables false
set_option linter.unusedSimpArgs false

theorem own : ownKnob Tryd.prog.godebug = none := by kernel_rfl
theorem laidOut : laidOutB Tryd.prog = true := by kernel_rfl
def nm1 : String := Rows.wordingNestedRow.named.getD 1 ""
theorem gn0 : Tryd.prog.globalNamed "treaty/calendar.lengths" = some 0 := by kernel_rfl
theorem gn1 : Tryd.prog.globalNamed nm1 = some 1 := by kernel_rfl
theorem gt0 : (Tryd.prog.globals[0]?).map (·.type) = some 101 := by kernel_rfl
theorem gt1 : (Tryd.prog.globals[1]?).map (·.type) = some 114 := by kernel_rfl
noncomputable def vs0 : List Value := (cellsD Tryd.prog 6 101 Rows.laid_treaty_calendar_lengths).getD []
noncomputable def vs1 : List Value := (cellsD Tryd.prog 6 114 Rows.laid_treaty_syntax_operators).getD []
theorem hc0 : cellsD Tryd.prog 6 101 Rows.laid_treaty_calendar_lengths = some vs0 := by kernel_rfl
theorem hc1 : cellsD Tryd.prog 6 114 Rows.laid_treaty_syntax_operators = some vs1 := by kernel_rfl
theorem e0 : vs0.map .v = g0C := by kernel_rfl
theorem e1 : vs1.map .v = g1C := by kernel_rfl
theorem only0 : Rows.wordingNestedRow.laid.filter (fun x => x.1 == "treaty/calendar.lengths") = [("treaty/calendar.lengths", Rows.laid_treaty_calendar_lengths)] := by kernel_rfl
theorem only1 : Rows.wordingNestedRow.laid.filter (fun x => x.1 == nm1) = [(nm1, Rows.laid_treaty_syntax_operators)] := by kernel_rfl
/-- What the row's list gives: the tables' cells. -/
theorem table {W : World} (h : laidMetH Tryd.prog Rows.wordingNestedRow.laid W) : GlOk GlD (snap W) ∧ GlW GlD W.heap.size W := by
  have h0 := laidMetH.filter (fun x => x.1 == "treaty/calendar.lengths") h
  rw [only0] at h0
  have h1 := laidMetH.filter (fun x => x.1 == nm1) h
  rw [only1] at h1
  have w0 := var_of_head (rest := []) gn0 gt0 hc0 h0
  have w1 := var_of_head (rest := []) gn1 gt1 hc1 h1
  refine ⟨fun g cs hg => ?_, fun g cs hg => ?_⟩
  · match g, hg with
    | 0, hg => cases hg; rw [← e0]; exact lptr_of_var gn0 w0 (by kernel_rfl)
    | 1, hg => cases hg; rw [← e1]; exact lptr_of_var gn1 w1 (by kernel_rfl)
    | n + 2, hg => cases hg
  · match g, hg with
    | 0, hg => cases hg; rw [← e0, List.length_map]; exact glw_of_var gn0 w0 (of_decide_eq_true (by kernel_rfl))
    | 1, hg => cases hg; rw [← e1, List.length_map]; exact glw_of_var gn1 w1 (of_decide_eq_true (by kernel_rfl))
    | n + 2, hg => cases hg
theorem plainT : rOk Tryd.prog := fun e T h => by cases h
theorem byte {n : Int} (h : (Lit.int .u8 n).wf = true) : ∃ m : Nat, m < 256 ∧ n = Int.ofNat m := by
  simp only [Lit.wf, IntKind.min, IntKind.max, IntKind.signed, IntKind.bits, Bool.and_eq_true, decide_eq_true_eq, if_true, Bool.false_eq_true, if_false] at h
  exact ⟨n.toNat, by omega, by show n = ((n.toNat : Nat) : Int); omega⟩

set_option maxRecDepth 100000 in
theorem contract (H : Type) (enc : TypeId × Value → H) (W : World) (base : Nat) (args : Array Value) (ds gs : List (DataW H)) (before : List MemPlace)
    (hval : ∀ (j : Nat) t v, Tryd.f3.params[j]? = some t → args[j]? = some v → Value.okWide Tryd.prog W .any base t v)
    (hW : DataW.Whole enc Tryd.prog Tryd.f3.params.toList Rows.wordingNestedSpec.vars false W args.toList ds gs before) (hL : laidMetH Tryd.prog Rows.wordingNestedRow.laid W) :
    Calls Tryd.prog 3 args W fun e W' => ∃ v, e = .returned v ∧ Rows.wordingNestedSpec.post enc Tryd.prog Tryd.f3 false true false false W args v W' := by
  have hW' := hW
  obtain ⟨p, q, hA0, hV, rfl, hfz, hnd⟩ := hW
  have hA : DataW.TrodAll enc Tryd.prog W 0 (fun _ => true) true Tryd.f3.params.toList args.toList ds p := hA0
  rw [Tryd.params3] at hA hval
  obtain ⟨v0, vs0, d0, ds0, p0, q0, hargs, rfl, rfl, h0, r0⟩ := trodAll_cons hA
  obtain ⟨v1, vs1, d1, ds1, p1, q1, rfl, rfl, rfl, h1, r1⟩ := trodAll_cons r0
  obtain ⟨rfl, rfl, rfl⟩ := trodAll_nil r1
  obtain rfl : args = #[v0, v1] := by cases args; simp_all
  obtain ⟨rfl, rfl⟩ := trodVars_none hV
  have k0 := h0
  have lt0 : ∀ x ∈ p0, x.block < W.heap.size := by obtain ⟨m, hm⟩ := k0; exact DataW.trod_lt m _ _ _ hm
  have k1 := h1
  have lt1 : ∀ x ∈ p1, x.block < W.heap.size := by obtain ⟨m, hm⟩ := k1; exact DataW.trod_lt m _ _ _ hm
  obtain ⟨a0, R0, i0⟩ := read_arg plainT (d := 8) (T := (.int .u8)) (by kernel_rfl) (hval 0 5 v0 rfl rfl) h0
  obtain ⟨l0, i1, rfl⟩ := i0
  simp only [Is, IsZ] at i1
  obtain ⟨n, rfl, hn⟩ := i1
  obtain ⟨m, hm, rfl⟩ := byte hn
  clear hA0

  have walk : Calls Tryd.prog 3 _ W fun e w' => e = .returned (.bool true) ∧ Below W.heap.size W w' := calls_trueG (w := W) (l := [_, _]) (law_nested hm) (table hL).1 (table hL).2 (RPL.cons R0 (RPL.cons (.any v1) RPL.nil))
  refine walk.mono fun e W' ⟨he, bel⟩ => ?_
  subst he
  exact ⟨_, rfl, _, _, _, [], _, [], hW', trodAll_mk1 (shut_bool Tryd.underlying4 _), (trodAll_cons_mk (Below.trod laidOut (by kernel_rfl) (of_decide_eq_true (by kernel_rfl)) k0 bel lt0) (trodAll_cons_mk (Below.trod laidOut (by kernel_rfl) (of_decide_eq_true (by kernel_rfl)) k1 bel lt1) trodAll_mk0)), rfl, bel.frame _, fun h => by cases h⟩

/-- A block's cells laid anew. -/
def setB (h : Array Obj) (b : Nat) (vs : Array Value) : Array Obj := h.modify b fun
  | .cells _ t frozen => .cells vs t frozen
  | o => o
/-- A world for the witness: the settled one, the listed variables holding what their initialisers lay. -/
noncomputable def laidWorld (os : Os) : World :=
  { World.holding Tryd.prog os ⟨#[], #[], []⟩ with heap := setB (setB ((World.holding Tryd.prog os ⟨#[], #[], []⟩).heap) 0 #[.int .i64 31, .int .i64 28, .int .i64 31, .int .i64 30, .int .i64 31, .int .i64 30, .int .i64 31, .int .i64 31, .int .i64 30, .int .i64 31, .int .i64 30, .int .i64 31]) 1 #[.string ⟨#[]⟩, .bool false, .int .i64 0, .int .i64 0, .int .i64 0, .string ⟨#[116, 114, 117, 101]⟩, .bool false, .int .i64 0, .int .i64 0, .int .i64 0, .string ⟨#[102, 97, 108, 115, 101]⟩, .bool false, .int .i64 0, .int .i64 0, .int .i64 0, .string ⟨#[]⟩, .bool true, .int .i64 0, .int .i64 0, .int .i64 0, .string ⟨#[105, 110]⟩, .bool true, .int .i64 0, .int .i64 0, .int .i64 0, .string ⟨#[102, 114, 111, 109]⟩, .bool true, .int .i64 0, .int .i64 0, .int .i64 0, .string ⟨#[110, 111, 116]⟩, .bool false, .int .i64 1, .int .i64 1, .int .i64 3, .string ⟨#[97, 110, 100]⟩, .bool false, .int .i64 2, .int .i64 300, .int .i64 2, .string ⟨#[111, 114]⟩, .bool false, .int .i64 2, .int .i64 300, .int .i64 1] }
theorem laid_met (os : Os) : laidMet Tryd.prog Rows.wordingNestedRow.laid ((laidWorld os).forCall (fun _ _ => 0) ⟨#[], #[.int .u8 0, .bool false], []⟩).memory :=
  laidMet_of_run' 8 (by kernel_rfl) (by kernel_rfl)
theorem reads (os : Os) {H : Type} (enc : TypeId × Value → H) : ∃ x, DataW.whole enc Tryd.prog ((laidWorld os).forCall (fun _ _ => 0) ⟨#[], #[.int .u8 0, .bool false], []⟩).memory Tryd.f3.params.toList Rows.wordingNestedSpec.vars false (#[.int .u8 0, .bool false] : Array Value).toList 8 = some ([.lit (.int .u8 0), .lit (.bool false)], [], x) :=
  ⟨[], by kernel_rfl⟩

set_option maxRecDepth 100000 in
theorem lifted (os : Os) (started : os.Started) (H : Type) (enc : TypeId × Value → H) (F : Stop.Interp) :
    ReturnsInHanded {} Tryd.checked os 3 .any ((OpenSpec.ofChange Rows.wordingNestedSpec).preRow enc Tryd.prog Tryd.f3 Rows.wordingNestedRow.domain false Rows.wordingNestedRow.laid) (((OpenSpec.ofChange Rows.wordingNestedSpec).at F).post enc Tryd.prog Tryd.f3 false true false false) := by
  obtain ⟨places, hx⟩ := reads os enc
  refine returnsInHanded_of_row (C := Tryd.checked) (s := (OpenSpec.ofChange Rows.wordingNestedSpec)) own started (by kernel_rfl) Tryd.func3
    (witness_row_at (enc := enc) (C := Tryd.checked) false (laidWorld os) #[.int .u8 0, .bool false] rfl (by kernel_rfl) (by kernel_rfl) (by kernel_rfl)
      (OpenSpec.preRow_of_cond 8 hx (by kernel_rfl) (fun k hk => by cases hk) (by kernel_rfl) (laid_met os))) ?_
  intro W base args ds gs before hval hW _ hcond _ hL hsz _
  exact contract H enc W base args ds gs before hval hW hL

theorem said : Rows.WordingNestedSaid :=
  OpenClaim.holds_of_cond 3 Tryd.f3 rfl rfl rfl rfl rfl rfl rfl ⟨rfl, rfl, rfl, rfl, rfl⟩ rfl rfl rfl rfl rfl (by kernel_rfl) Tryd.func3 (by kernel_rfl)
    (of_decide_eq_true (by kernel_rfl)) (by unfold Func.isWrapper; first | (rw [if_pos (by decide +kernel)]; kernel_rfl) | (rw [if_neg (by decide +kernel)]; exact ⟨rfl, rfl⟩))
    (fun os started H enc _ F => by rw [OpenClaim.pre_eq_preRow]; exact lifted os started H enc F)

/-- No parameter wants a stand-in; the program's own looks are off: what the card asks. -/
theorem plain (f : FuncId) (fn : Func) (hf : Tryd.pinned.checked.prog.funcNamed "treaty/treatylaw08.WordingNested" = some f) (hfn : Tryd.pinned.checked.prog.funcs[f]? = some fn) :
    true = Tryd.pinned.checked.prog.looks [] ∧ ∀ (j : Nat) t, fn.params[j]? = some t → Tryd.pinned.checked.prog.wantsStandIn t = false := by
  obtain rfl : f = 3 := Option.some.inj ((show Tryd.prog.funcNamed "treaty/treatylaw08.WordingNested" = some 3 by kernel_rfl).symm.trans hf) |>.symm
  obtain rfl : fn = Tryd.f3 := (Option.some.inj (Tryd.func3.symm.trans hfn)).symm
  refine ⟨by kernel_rfl, fun j t ht => ?_⟩
  rw [Tryd.params3] at ht
  have hm : t ∈ [5, 4] := by simpa using Array.mem_of_getElem? ht
  have hall : ([5, 4].all fun u => !Tryd.prog.wantsStandIn u) = true := by kernel_rfl
  exact (show Tryd.prog.wantsStandIn t = false by simpa using List.all_eq_true.1 hall t hm)

/-- The card. -/
theorem card : Rows.WordingNestedCardSaid :=
  Claim7.holds_tied_plain_at .later [] _ _ _ _ said (fun _ h => by cases h) (by kernel_rfl) (fun _ h => by cases h) wordingNested_row_tie rfl ⟨rfl, rfl⟩ (by kernel_rfl) rfl plain (by kernel_rfl)

end Go.Proofs.YtnhgeocdffhkjaaDoor.wordingNested
