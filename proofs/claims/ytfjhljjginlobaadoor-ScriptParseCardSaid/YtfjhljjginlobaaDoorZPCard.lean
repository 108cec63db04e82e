/- The card. -/
import Derived.Test.YtfjhljjginlobaaDoorZPH
import Derived.LaidSub
import Derived.Stop.LaidErr
import Derived.LaidLaws
import Derived.MakeChecks
import Derived.Shelf.Vars
import Derived.Lay
import Derived.Test.YtfjhljjginlobaaDoorCards
import Derived.Test.YtfjhljjginlobaaDoorTie
import Derived.WalkKit
import Derived.ProofKit
import Derived.OpenShut
import Derived.ShutString
import Derived.ChangeOld
import Derived.Below
import Derived.Carry
import Derived.Lib.SmallJoins
import Derived.Deep.DeepHandedRow
import Derived.Lib.LaidTab
namespace Go.Proofs.YtfjhljjginlobaaDoor.scriptParse
open Go.ChangeShapes Go.WideShapes Go.ChangeAt Go.RowKit Go.Joins
open Go.ChangeMaps (open_string shut_string)
open Go.Proofs.YtfjhljjginlobaaDoor.Abs
set_option linter.unusedVariables false
set_option linter.unusedSimpArgs false

theorem own : ownKnob Tryd.prog.godebug = none := by kernel_rfl
theorem laidOut : laidOutB Tryd.prog = true := by kernel_rfl
theorem deck_ok {l : List Int} (h : OkT (.list (.int .i64)) l) : DeckOk l 0 := ⟨fun x hx => ok_i64 ((ok_list h).2 x hx), by have h1 : List.length (α := Int) l ≤ maxLen := (ok_list h).1; unfold maxLen at h1; omega, by omega⟩
theorem byt_ok {l : List Int} (h : OkT (.list (.int .u8)) l) : ∀ x ∈ l, 0 ≤ x ∧ x ≤ 255 := fun x hx => ok_u8 ((ok_list h).2 x hx)
theorem nbeq {a b : Nat} (h : a ≠ b) : Nat.beq a b = false := by
  cases q : Nat.beq a b with
  | false => rfl
  | true => exact absurd (Nat.eq_of_beq_eq_true q) h
theorem gPowType : (Tryd.prog.globals[2]?).map (·.type) = some 150 := by kernel_rfl
theorem cellsP : Tryd.prog.cellsOf 150 = 20 := by kernel_rfl
theorem cellsU : Tryd.prog.cellsOf 141 = 1 := by kernel_rfl
theorem only2 : Rows.scriptParseRow.laid.filter (fun x => x.1 == "internal/strconv.uint64pow10") = [("internal/strconv.uint64pow10", Rows.laid_internal_strconv_uint64pow10)] := by kernel_rfl
theorem only0 : Rows.scriptParseRow.laid.filter (fun x => x.1 == "treaty/script.forms") = [("treaty/script.forms", Rows.laid_treaty_script_forms)] := by kernel_rfl
theorem datF : (Rows.laid_treaty_script_forms : DataW Unit) = .agg (forms.map Form.dat) := rfl
theorem formsOf {W : World} (h : laidMetH Tryd.prog Rows.scriptParseRow.laid W) : W.var? Tryd.prog "treaty/script.forms" = some (forms.flatMap Form.cells).toArray := by
  have h2 := laidMetH.filter (fun x => x.1 == "treaty/script.forms") h
  rw [only0, datF] at h2
  rw [MakeChecks.laidMetH_plain _ _ _ (by rfl)] at h2
  obtain ⟨ps, ⟨g', t', cs, fuel, p, q, hg', ht', hvar, hd, _, _⟩, _⟩ := h2
  obtain rfl := Option.some.inj (gForms.symm.trans hg')
  obtain rfl := Option.some.inj (gFormsT.symm.trans ht')
  rw [hvar, ← forms_cells (fd := forms) rfl hd]
theorem one_lptr {F : Addr → Option Value} {g : Nat} {x : Value} (h : F ⟨g, 0, none⟩ = some x) (h1 : x.oneCell' = true) : RP F (.pointer (some ⟨g, 0, none⟩)) (.lptr [.v x]) := by
  refine RP.lptr _ _ (fun _ => x) (fun j a hj => ?_) (fun j a hj => ?_)
  · match j, hj with
    | 0, _ => exact ⟨h, h1⟩
  · match j, hj with
    | 0, hj => cases hj; exact .v _
theorem far {G : GP} {g : Nat} (h0 : g ≠ 0) (h1 : g ≠ 1) (h2 : g ≠ 2) (h3 : g ≠ 1000001) : gtab G g = none := by
  unfold gtab
  rw [if_neg (by rw [nbeq h0]; simp), if_neg (by rw [nbeq h1]; simp), if_neg (by rw [nbeq h2]; simp)]
theorem gx_none {GX : GXT} {g : Nat} (h1 : g < 1000000 → GX g = none) (h2 : GX (g + 1000000) = none) : gx GX g = none := by
  unfold gx
  split
  · rename_i hb
    rw [h1 (blt_t hb)]
    dsimp only
    rw [h2]
  · rfl
theorem cases3 {G : GP} {g : Nat} {cs : List AV} (hg : gx (gtab G) g = some cs) : (g = 2 ∧ cs = Lib.pow10Tab.map fun z => .v (.int .u64 z)) ∨ (g = 1 ∧ cs = [.v (.int .i64 G.m)]) ∨ (g = 0 ∧ cs = (forms.flatMap Form.cells).map fun v => .v v) := by
  by_cases h0 : g = 0
  · subst h0
    exact .inr (.inr ⟨rfl, (Option.some.inj (forms_gx.symm.trans hg)).symm⟩)
  by_cases h1 : g = 1
  · subst h1
    exact .inr (.inl ⟨rfl, (Option.some.inj (show some [AV.v (.int .i64 G.m)] = some cs from hg)).symm⟩)
  by_cases h2 : g = 2
  · subst h2
    exact .inl ⟨rfl, (Option.some.inj (show some (Lib.pow10Tab.map fun z => AV.v (.int .u64 z)) = some cs from hg)).symm⟩
  · rw [gx_none (GX := gtab G) (fun h => far h0 h1 h2 (by omega)) (far (by omega) (by omega) (by omega) (by omega))] at hg
    cases hg
theorem table {W : World} (h : laidMetH Tryd.prog Rows.scriptParseRow.laid W) (hS : W.ShapedOpen Tryd.prog) : ∃ G : GP, GlOk (gx (gtab G)) (snap W) ∧ GlW (gx (gtab G)) W.heap.size W := by
  have h2 := laidMetH.filter (fun x => x.1 == "internal/strconv.uint64pow10") h
  rw [only2] at h2
  have t : Lib.TabIs Tryd.prog W "internal/strconv.uint64pow10" .u64 Lib.pow10Tab := Lib.tabIs_of_head (rest := []) gPow gPowType Tryd.underlying150 Tryd.underlying141 cellsU cellsP (by rw [MakeChecks.laidMetH_plain _ _ _ (by rfl)] at h2; exact h2)
  have fv := formsOf h
  obtain ⟨m, hm⟩ := cell_of_shapedOpen_int (g := 1) (zero := #[.int .i64 0]) (t := 3) hS (of_decide_eq_true (by kernel_rfl)) (by kernel_rfl) rfl (by kernel_rfl) (by kernel_rfl) Tryd.underlying3
  obtain ⟨mc, mh, ms, _⟩ := hS.1 1 #[.int .i64 0] 3 (of_decide_eq_true (by kernel_rfl)) (by kernel_rfl)
  have lt : ∀ {g : Nat} {x : Value}, W.cell? ⟨g, 0, none⟩ = some x → g < W.heap.size := fun hc => World.block_lt_of_cell? W _ hc
  have blk : ∀ {n : String} {g : Nat} {xs : Array Value}, Tryd.prog.globalNamed n = some g → W.var? Tryd.prog n = some xs → ∃ vs ty fr, W.heap[g]? = some (.cells vs ty fr) ∧ vs.size = xs.size := by
    intro n g xs hn hv
    unfold World.var? at hv
    rw [hn] at hv
    simp only [Option.bind_some] at hv
    split at hv
    · rename_i vs ty fr hb
      obtain rfl := Option.some.inj hv
      exact ⟨_, ty, fr, hb, rfl⟩
    · cases hv
  have fc : ∀ i v, (forms.flatMap Form.cells)[i]? = some v → W.cell? ⟨0, i, none⟩ = some v := by
    intro i v hv
    rw [World.var?_cell gForms fv i]
    simpa using hv
  refine ⟨⟨m⟩, fun g cs hg => ?_, fun g cs hg => ?_⟩
  · rcases cases3 hg with ⟨rfl, rfl⟩ | ⟨rfl, rfl⟩ | ⟨rfl, rfl⟩
    · exact lptr_ints (zs := Lib.pow10Tab) fun i hi => t.cell gPow i hi
    · exact one_lptr hm rfl
    · exact lptr_vals fc (by decide)
  · rcases cases3 hg with ⟨rfl, rfl⟩ | ⟨rfl, rfl⟩ | ⟨rfl, rfl⟩
    · have c := t.cell gPow 0 (by decide)
      obtain ⟨vs, ty, fr, hb, hs⟩ := blk gPow t
      exact ⟨lt c, vs, ty, fr, hb, by rw [hs]; simp⟩
    · exact ⟨lt hm, _, _, _, mh, ms⟩
    · obtain ⟨vs, ty, fr, hb, hs⟩ := blk gForms fv
      exact ⟨lt (fc 0 _ rfl), vs, ty, fr, hb, by rw [hs]; simp⟩

set_option maxRecDepth 100000 in
theorem contract (H : Type) (enc : TypeId × Value → H) (W : World) (base : Nat) (args : Array Value) (ds gs : List (DataW H)) (before : List MemPlace)
    (hval : ∀ (j : Nat) t v, Tryd.f4.params[j]? = some t → args[j]? = some v → Value.okWide Tryd.prog W .any base t v)
    (hW : DataW.Whole enc Tryd.prog Tryd.f4.params.toList Rows.scriptParseSpec.vars false W args.toList ds gs before) (hL : laidMetH Tryd.prog Rows.scriptParseRow.laid W) (hX : W.ShapedOpen Tryd.prog) :
    Calls Tryd.prog 4 args W fun e W' => ∃ v, e = .returned v ∧ Rows.scriptParseSpec.post enc Tryd.prog Tryd.f4 false true false false W args v W' := by
  have hW' := hW
  obtain ⟨p, q, hA0, hV, rfl, hfz, hnd⟩ := hW
  have hA : DataW.TrodAll enc Tryd.prog W 0 (fun _ => true) true Tryd.f4.params.toList args.toList ds p := hA0
  rw [Tryd.params4] at hA hval
  obtain ⟨v0, vs0, d0, ds0, p0, q0, hargs, rfl, rfl, h0, r0⟩ := trodAll_cons hA
  obtain ⟨v1, vs1, d1, ds1, p1, q1, rfl, rfl, rfl, h1, r1⟩ := trodAll_cons r0
  obtain ⟨v2, vs2, d2, ds2, p2, q2, rfl, rfl, rfl, h2, r2⟩ := trodAll_cons r1
  obtain ⟨v3, vs3, d3, ds3, p3, q3, rfl, rfl, rfl, h3, r3⟩ := trodAll_cons r2
  obtain ⟨v4, vs4, d4, ds4, p4, q4, rfl, rfl, rfl, h4, r4⟩ := trodAll_cons r3
  obtain ⟨rfl, rfl, rfl⟩ := trodAll_nil r4
  obtain rfl : args = #[v0, v1, v2, v3, v4] := by cases args; simp_all
  obtain ⟨rfl, rfl⟩ := trodVars_none hV
  have k0 := h0
  have lt0 : ∀ x ∈ p0, x.block < W.heap.size := by obtain ⟨m, hm⟩ := k0; exact DataW.trod_lt m _ _ _ hm
  have k1 := h1
  have lt1 : ∀ x ∈ p1, x.block < W.heap.size := by obtain ⟨m, hm⟩ := k1; exact DataW.trod_lt m _ _ _ hm
  have k2 := h2
  have lt2 : ∀ x ∈ p2, x.block < W.heap.size := by obtain ⟨m, hm⟩ := k2; exact DataW.trod_lt m _ _ _ hm
  have k3 := h3
  have lt3 : ∀ x ∈ p3, x.block < W.heap.size := by obtain ⟨m, hm⟩ := k3; exact DataW.trod_lt m _ _ _ hm
  have k4 := h4
  have lt4 : ∀ x ∈ p4, x.block < W.heap.size := by obtain ⟨m, hm⟩ := k4; exact DataW.trod_lt m _ _ _ hm
  obtain ⟨a0, R0, i0⟩ := read_arg (d := 8) (T := .str) (by kernel_rfl) (hval 0 9 v0 rfl rfl) h0
  obtain ⟨x0, o0, rfl⟩ := isV_den i0
  obtain ⟨a1, R1, i1⟩ := read_arg (d := 8) (T := (.list (.int .i64))) (by kernel_rfl) (hval 1 23 v1 rfl rfl) h1
  obtain ⟨x1, o1, rfl⟩ := isV_den i1
  obtain ⟨a2, R2, i2⟩ := read_arg (d := 8) (T := (.list (.int .i64))) (by kernel_rfl) (hval 2 23 v2 rfl rfl) h2
  obtain ⟨x2, o2, rfl⟩ := isV_den i2
  obtain ⟨a3, R3, i3⟩ := read_arg (d := 8) (T := (.list (.int .u8))) (by kernel_rfl) (hval 3 40 v3 rfl rfl) h3
  obtain ⟨x3, o3, rfl⟩ := isV_den i3
  obtain ⟨a4, R4, i4⟩ := read_arg (d := 8) (T := (.int .i64)) (by kernel_rfl) (hval 4 3 v4 rfl rfl) h4
  obtain ⟨x4, o4, rfl⟩ := isV_den i4
  clear hA0
  obtain ⟨G, tb⟩ := table hL hX
  have walk : Calls Tryd.prog 4 _ W fun e w' => e = .returned (.bool true) ∧ Below W.heap.size W w' := calls_trueG (w := W) (l := [_, _, _, _, _]) (oki4.2 (x0, x1, x2, x3, x4, ()) (true, ()) (law_parse x0 x1 x2 x3 x4 (deck_ok o1) (byt_ok o3))) (tb).1 (tb).2 (RPL.cons R0 (RPL.cons R1 (RPL.cons R2 (RPL.cons R3 (RPL.cons R4 RPL.nil)))))
  refine walk.mono fun e W' ⟨he, bel⟩ => ?_
  subst he
  exact ⟨_, rfl, _, _, _, [], _, [], hW', trodAll_mk1 (shut_bool Tryd.underlying4 _), (trodAll_cons_mk (Below.trod laidOut (by kernel_rfl) (of_decide_eq_true (by kernel_rfl)) k0 bel lt0) (trodAll_cons_mk (Below.trod laidOut (by kernel_rfl) (of_decide_eq_true (by kernel_rfl)) k1 bel lt1) (trodAll_cons_mk (Below.trod laidOut (by kernel_rfl) (of_decide_eq_true (by kernel_rfl)) k2 bel lt2) (trodAll_cons_mk (Below.trod laidOut (by kernel_rfl) (of_decide_eq_true (by kernel_rfl)) k3 bel lt3) (trodAll_cons_mk (Below.trod laidOut (by kernel_rfl) (of_decide_eq_true (by kernel_rfl)) k4 bel lt4) trodAll_mk0))))), rfl, bel.frame _, fun h => by cases h⟩

noncomputable def laidWorld (os : Os) : World := World.laidAll Tryd.prog os Rows.scriptParseRow.laid
theorem laid_met (os : Os) : laidMet Tryd.prog Rows.scriptParseRow.laid ((laidWorld os).forCall (fun _ _ => 0) ⟨#[], #[.string ⟨#[]⟩, .slice none 0 0, .slice none 0 0, .slice none 0 0, .int .i64 0], []⟩).memory :=
  laidMet_laidAll _ (by kernel_rfl) (by kernel_rfl)
theorem reads (os : Os) {H : Type} (enc : TypeId × Value → H) : ∃ x, DataW.whole enc Tryd.prog ((laidWorld os).forCall (fun _ _ => 0) ⟨#[], #[.string ⟨#[]⟩, .slice none 0 0, .slice none 0 0, .slice none 0 0, .int .i64 0], []⟩).memory Tryd.f4.params.toList Rows.scriptParseSpec.vars false (#[.string ⟨#[]⟩, .slice none 0 0, .slice none 0 0, .slice none 0 0, .int .i64 0] : Array Value).toList 8 = some ([.lit (.string []), .nil, .nil, .nil, .lit (.int .i64 0)], [], x) :=
  ⟨[], by kernel_rfl⟩

set_option maxRecDepth 100000 in
theorem lifted (os : Os) (started : os.Started) (H : Type) (enc : TypeId × Value → H) (F : Stop.Interp) :
    ReturnsInHanded {} Tryd.checked os 4 .any ((OpenSpec.ofChange Rows.scriptParseSpec).preRow enc Tryd.prog Tryd.f4 Rows.scriptParseRow.domain false Rows.scriptParseRow.laid) (((OpenSpec.ofChange Rows.scriptParseSpec).at F).post enc Tryd.prog Tryd.f4 false true false false) := by
  obtain ⟨places, hx⟩ := reads os enc
  refine returnsInHanded_of_row (C := Tryd.checked) (s := (OpenSpec.ofChange Rows.scriptParseSpec)) own started (by kernel_rfl) Tryd.func4
    (witness_row_at (enc := enc) (C := Tryd.checked) false (laidWorld os) #[.string ⟨#[]⟩, .slice none 0 0, .slice none 0 0, .slice none 0 0, .int .i64 0] (World.laidAll_os _ _ _) (by kernel_rfl) (by kernel_rfl) (by kernel_rfl)
      (OpenSpec.preRow_of_cond 8 hx (by kernel_rfl) (fun k hk => by cases hk) (by kernel_rfl) (laid_met os))) ?_
  intro W base args ds gs before hval hW _ hcond _ hL hsz _
  exact contract H enc W base args ds gs before hval hW hL hsz

theorem said : Rows.ScriptParseSaid :=
  OpenClaim.holds_of_cond 4 Tryd.f4 rfl rfl rfl rfl rfl rfl rfl ⟨rfl, rfl, rfl, rfl, rfl⟩ rfl rfl rfl rfl rfl (by kernel_rfl) Tryd.func4 (by kernel_rfl)
    (of_decide_eq_true (by kernel_rfl)) (by unfold Func.isWrapper; first | (rw [if_pos (by decide +kernel)]; kernel_rfl) | (rw [if_neg (by decide +kernel)]; exact ⟨rfl, rfl⟩))
    (fun os started H enc _ F => by rw [OpenClaim.pre_eq_preRow]; exact lifted os started H enc F)

theorem plain (f : FuncId) (fn : Func) (hf : Tryd.pinned.checked.prog.funcNamed "treaty/treatylaw46.ScriptParse" = some f) (hfn : Tryd.pinned.checked.prog.funcs[f]? = some fn) :
    false = Tryd.pinned.checked.prog.looks [] ∧ ∀ (j : Nat) t, fn.params[j]? = some t → Tryd.pinned.checked.prog.wantsStandIn t = false := by
  obtain rfl : f = 4 := Option.some.inj ((show Tryd.prog.funcNamed "treaty/treatylaw46.ScriptParse" = some 4 by kernel_rfl).symm.trans hf) |>.symm
  obtain rfl : fn = Tryd.f4 := (Option.some.inj (Tryd.func4.symm.trans hfn)).symm
  refine ⟨by kernel_rfl, fun j t ht => ?_⟩
  rw [Tryd.params4] at ht
  have hm : t ∈ [9, 23, 23, 40, 3] := by simpa using Array.mem_of_getElem? ht
  have hall : ([9, 23, 23, 40, 3].all fun u => !Tryd.prog.wantsStandIn u) = true := by kernel_rfl
  exact (show Tryd.prog.wantsStandIn t = false by simpa using List.all_eq_true.1 hall t hm)

theorem card : Rows.ScriptParseCardSaid :=
  Claim7.holds_tied_plain_at .later [] _ _ _ _ said (fun _ h => by cases h) (by kernel_rfl) (fun _ h => by cases h) scriptParse_row_tie rfl ⟨rfl, rfl⟩ (by kernel_rfl) rfl plain (by kernel_rfl)

end Go.Proofs.YtfjhljjginlobaaDoor.scriptParse

