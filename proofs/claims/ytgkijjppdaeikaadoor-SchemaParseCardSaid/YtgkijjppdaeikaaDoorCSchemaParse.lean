/- The card of the law SchemaParse: for every input the law's call returns true and leaves what was there as it was. -/
import Derived.Test.YtgkijjppdaeikaaDoorXQ
import Derived.Test.YtgkijjppdaeikaaDoorSB
import Derived.LaidSub
import Derived.Stop.LaidErr
import Derived.LaidLaws
import Derived.MakeChecks
import Derived.Shelf.Vars
import Derived.Lay
import Derived.Test.YtgkijjppdaeikaaDoorCards
import Derived.Test.YtgkijjppdaeikaaDoorTie
import Derived.WalkKit
import Derived.ProofKit
import Derived.OpenShut
import Derived.ShutString
import Derived.ChangeOld
import Derived.Below
import Derived.Carry
import Derived.Lib.SmallJoins
import Derived.Deep.DeepHandedRow
import Derived.Lib.LaidTab
namespace Go.Proofs.YtgkijjppdaeikaaDoor.schemaParse
open Go.ChangeShapes Go.WideShapes Go.ChangeAt Go.RowKit Go.Joins
open Go.ChangeMaps (open_string shut_string)
open Go.Proofs.YtgkijjppdaeikaaDoor.Abs
set_option linter.unusedVariables false
set_option linter.unusedSimpArgs false

theorem own : ownKnob Tryd.prog.godebug = none := by kernel_rfl
theorem laidOut : laidOutB Tryd.prog = true := by kernel_rfl
theorem nbeq {a b : Nat} (h : a ≠ b) : Nat.beq a b = false := by
  cases q : Nat.beq a b with
  | false => rfl
  | true => exact absurd (Nat.eq_of_beq_eq_true q) h
theorem gPowType : (Tryd.prog.globals[3]?).map (·.type) = some 116 := by kernel_rfl
theorem cellsP : Tryd.prog.cellsOf 116 = 20 := by kernel_rfl
theorem cellsU : Tryd.prog.cellsOf 101 = 1 := by kernel_rfl
theorem cellsE : Tryd.prog.cellsOf 122 = 1 := by kernel_rfl
theorem cellsS : Tryd.prog.cellsOf 9 = 1 := by kernel_rfl
theorem star : "*" ++ "errors.errorString" = "*errors.errorString" := by decide
theorem rowE (u : TypeId) (h : Tryd.prog.typeName? 3 u = some "*errors.errorString") : u = 120 :=
  typeName_ptr_named (nm := "errors.errorString") (by rw [star]; kernel_rfl) (by kernel_rfl) (by decide) u (by rw [star]; exact h)
theorem spot_of {W : World} {a : Addr} {x : Value} (h : W.cell? a = some x) : a.spot = none := by
  obtain ⟨b, o, sp⟩ := a
  cases sp with
  | none => rfl
  | some q => simp [World.cell?] at h; split at h <;> simp at h
theorem only2 : Rows.schemaParseRow.laid.filter (fun x => x.1 == "internal/strconv.uint64pow10") = [("internal/strconv.uint64pow10", Rows.laid_internal_strconv_uint64pow10)] := by kernel_rfl
theorem onlyY : Rows.schemaParseRow.laid.filter (fun x => x.1 == "strconv.ErrSyntax") = [("strconv.ErrSyntax", Rows.laid_strconv_ErrSyntax)] := by kernel_rfl
theorem gY : Tryd.prog.globalNamed "strconv.ErrSyntax" = some 1 := by kernel_rfl
theorem gtY : (Tryd.prog.globals[1]?).map (·.type) = some 75 := by kernel_rfl
theorem sentY {W : World} (h : laidMetH Tryd.prog Rows.schemaParseRow.laid W) : ∃ a : Addr, W.var? Tryd.prog "strconv.ErrSyntax" = some #[.iface 120 (.pointer (some a))] ∧ a.spot = none := by
  have h1 := laidMetH.filter (fun x => x.1 == "strconv.ErrSyntax") h
  rw [onlyY] at h1
  rw [MakeChecks.laidMetH_plain _ _ _ (by kernel_rfl)] at h1
  obtain ⟨a, s, h2, h3, _, _⟩ := laid_sentinel h1 gY gtY Tryd.underlying75 rowE Tryd.underlying120 Tryd.underlying122 rfl rfl Tryd.underlying9 cellsE cellsS
  exact ⟨a, h2, spot_of h3⟩
theorem onlyR : Rows.schemaParseRow.laid.filter (fun x => x.1 == "strconv.ErrRange") = [("strconv.ErrRange", Rows.laid_strconv_ErrRange)] := by kernel_rfl
theorem gR : Tryd.prog.globalNamed "strconv.ErrRange" = some 2 := by kernel_rfl
theorem gtR : (Tryd.prog.globals[2]?).map (·.type) = some 75 := by kernel_rfl
theorem sentR {W : World} (h : laidMetH Tryd.prog Rows.schemaParseRow.laid W) : ∃ a : Addr, W.var? Tryd.prog "strconv.ErrRange" = some #[.iface 120 (.pointer (some a))] ∧ a.spot = none := by
  have h1 := laidMetH.filter (fun x => x.1 == "strconv.ErrRange") h
  rw [onlyR] at h1
  rw [MakeChecks.laidMetH_plain _ _ _ (by kernel_rfl)] at h1
  obtain ⟨a, s, h2, h3, _, _⟩ := laid_sentinel h1 gR gtR Tryd.underlying75 rowE Tryd.underlying120 Tryd.underlying122 rfl rfl Tryd.underlying9 cellsE cellsS
  exact ⟨a, h2, spot_of h3⟩
theorem one_lptr {F : Addr → Option Value} {g : Nat} {x : Value} (h : F ⟨g, 0, none⟩ = some x) (h1 : x.oneCell' = true) : RP F (.pointer (some ⟨g, 0, none⟩)) (.lptr [.v x]) := by
  refine RP.lptr _ _ (fun _ => x) (fun j a hj => ?_) (fun j a hj => ?_)
  · match j, hj with
    | 0, _ => exact ⟨h, h1⟩
  · match j, hj with
    | 0, hj => cases hj; exact .v _
theorem far {G : GP} {g : Nat} (h0 : g ≠ 0) (h1 : g ≠ 3) (h2 : g ≠ 1000001) (h3 : g ≠ 1000002) : gtab G g = none := by
  unfold gtab
  rw [if_neg (by rw [nbeq h0]; simp), if_neg (by rw [nbeq h1]; simp), if_neg (by rw [nbeq h2]; simp), if_neg (by rw [nbeq h3]; simp)]
theorem gx_none {GX : GXT} {g : Nat} (h1 : g < 1000000 → GX g = none) (h2 : GX (g + 1000000) = none) : gx GX g = none := by
  unfold gx
  split
  · rename_i hb
    rw [h1 (blt_t hb)]
    dsimp only
    rw [h2]
  · rfl
theorem cases4 {G : GP} {g : Nat} {cs : List AV} (hg : gx (gtab G) g = some cs) : (g = 3 ∧ cs = Lib.pow10Tab.map fun z => .v (.int .u64 z)) ∨ (g = 0 ∧ cs = [.v (.int .i64 G.m)]) ∨ (g = 1 ∧ cs = [.v (.iface G.s1.toNat (.pointer (some ⟨G.s2.toNat, G.s3.toNat, none⟩)))]) ∨ (g = 2 ∧ cs = [.v (.iface G.r1.toNat (.pointer (some ⟨G.r2.toNat, G.r3.toNat, none⟩)))]) := by
  by_cases h0 : g = 0
  · subst h0
    exact .inr (.inl ⟨rfl, (Option.some.inj (show some [AV.v (.int .i64 G.m)] = some cs from hg)).symm⟩)
  by_cases h3 : g = 3
  · subst h3
    exact .inl ⟨rfl, (Option.some.inj (show some (Lib.pow10Tab.map fun z => AV.v (.int .u64 z)) = some cs from hg)).symm⟩
  by_cases h1 : g = 1
  · subst h1
    exact .inr (.inr (.inl ⟨rfl, (Option.some.inj (show some [AV.v (.iface G.s1.toNat (.pointer (some ⟨G.s2.toNat, G.s3.toNat, none⟩)))] = some cs from hg)).symm⟩))
  by_cases h2 : g = 2
  · subst h2
    exact .inr (.inr (.inr ⟨rfl, (Option.some.inj (show some [AV.v (.iface G.r1.toNat (.pointer (some ⟨G.r2.toNat, G.r3.toNat, none⟩)))] = some cs from hg)).symm⟩))
  · rw [gx_none (GX := gtab G) (fun h => far h0 h3 (by omega) (by omega)) (far (by omega) (by omega) (by omega) (by omega))] at hg
    cases hg
/-- What the row's list and the world's shape give: the tables' cells. -/
theorem table {W : World} (h : laidMetH Tryd.prog Rows.schemaParseRow.laid W) (hS : W.ShapedOpen Tryd.prog) : ∃ G : GP, GlOk (gx (gtab G)) (snap W) ∧ GlW (gx (gtab G)) W.heap.size W := by
  have h2 := laidMetH.filter (fun x => x.1 == "internal/strconv.uint64pow10") h
  rw [only2] at h2
  have t : Lib.TabIs Tryd.prog W "internal/strconv.uint64pow10" .u64 Lib.pow10Tab := Lib.tabIs_of_head (rest := []) gPow gPowType Tryd.underlying116 Tryd.underlying101 cellsU cellsP h2
  obtain ⟨a1, y1, y2⟩ := sentY h
  obtain ⟨a2, r1, r2⟩ := sentR h
  obtain ⟨m, hm⟩ := cell_of_shapedOpen_int (g := 0) (zero := #[.int .i64 0]) (t := 3) hS (of_decide_eq_true (by kernel_rfl)) (by kernel_rfl) rfl (by kernel_rfl) (by kernel_rfl) Tryd.underlying3
  obtain ⟨mc, mh, ms, _⟩ := hS.1 0 #[.int .i64 0] 3 (of_decide_eq_true (by kernel_rfl)) (by kernel_rfl)
  have blk : ∀ {n : String} {g : Nat} {x : Value}, Tryd.prog.globalNamed n = some g → W.var? Tryd.prog n = some #[x] → (∃ vs ty fr, W.heap[g]? = some (.cells vs ty fr) ∧ vs.size = 1) ∧ W.cell? ⟨g, 0, none⟩ = some x := by
    intro n g x hn hv
    have hc := World.var?_cell hn hv 0
    refine ⟨?_, by simpa using hc⟩
    unfold World.var? at hv
    rw [hn] at hv
    simp only [Option.bind_some] at hv
    split at hv
    · rename_i vs ty fr hb
      obtain rfl := Option.some.inj hv
      exact ⟨_, ty, fr, hb, rfl⟩
    · cases hv
  obtain ⟨yb, yc⟩ := blk gY y1
  obtain ⟨rb, rc⟩ := blk gR r1
  have ad : ∀ a : Addr, a.spot = none → (⟨((a.block : Int)).toNat, ((a.off : Int)).toNat, none⟩ : Addr) = a := by
    rintro ⟨b, o, sp⟩ hsp
    cases hsp; rfl
  have lt : ∀ {g : Nat} {x : Value}, W.cell? ⟨g, 0, none⟩ = some x → g < W.heap.size := fun hc => World.block_lt_of_cell? W _ hc
  refine ⟨⟨m, 120, a1.block, a1.off, 120, a2.block, a2.off⟩, fun g cs hg => ?_, fun g cs hg => ?_⟩
  · rcases cases4 hg with ⟨rfl, rfl⟩ | ⟨rfl, rfl⟩ | ⟨rfl, rfl⟩ | ⟨rfl, rfl⟩
    · exact lptr_ints (zs := Lib.pow10Tab) fun i hi => t.cell gPow i hi
    · exact one_lptr hm rfl
    · refine one_lptr ?_ rfl
      rw [ad a1 y2]; exact yc
    · refine one_lptr ?_ rfl
      rw [ad a2 r2]; exact rc
  · rcases cases4 hg with ⟨rfl, rfl⟩ | ⟨rfl, rfl⟩ | ⟨rfl, rfl⟩ | ⟨rfl, rfl⟩
    · have c := t.cell gPow 0 (by decide)
      refine ⟨lt c, ?_⟩
      unfold Lib.TabIs World.var? at t
      rw [gPow] at t
      simp only [Option.bind_some] at t
      split at t
      · rename_i vs ty fr hb
        obtain rfl := Option.some.inj t
        exact ⟨_, ty, fr, hb, by simp⟩
      · cases t
    · exact ⟨lt hm, _, _, _, mh, ms⟩
    · exact ⟨lt yc, yb⟩
    · exact ⟨lt rc, rb⟩

set_option maxRecDepth 100000 in
theorem contract (H : Type) (enc : TypeId × Value → H) (W : World) (base : Nat) (args : Array Value) (ds gs : List (DataW H)) (before : List MemPlace)
    (hval : ∀ (j : Nat) t v, Tryd.f7.params[j]? = some t → args[j]? = some v → Value.okWide Tryd.prog W .any base t v)
    (hW : DataW.Whole enc Tryd.prog Tryd.f7.params.toList Rows.schemaParseSpec.vars false W args.toList ds gs before) (hL : laidMetH Tryd.prog Rows.schemaParseRow.laid W) (hX : W.ShapedOpen Tryd.prog) :
    Calls Tryd.prog 7 args W fun e W' => ∃ v, e = .returned v ∧ Rows.schemaParseSpec.post enc Tryd.prog Tryd.f7 false true false false W args v W' := by
  have hW' := hW
  obtain ⟨p, q, hA0, hV, rfl, hfz, hnd⟩ := hW
  have hA : DataW.TrodAll enc Tryd.prog W 0 (fun _ => true) true Tryd.f7.params.toList args.toList ds p := hA0
  rw [Tryd.params7] at hA hval
  obtain ⟨v0, vs0, d0, ds0, p0, q0, hargs, rfl, rfl, h0, r0⟩ := trodAll_cons hA
  obtain ⟨v1, vs1, d1, ds1, p1, q1, rfl, rfl, rfl, h1, r1⟩ := trodAll_cons r0
  obtain ⟨v2, vs2, d2, ds2, p2, q2, rfl, rfl, rfl, h2, r2⟩ := trodAll_cons r1
  obtain ⟨v3, vs3, d3, ds3, p3, q3, rfl, rfl, rfl, h3, r3⟩ := trodAll_cons r2
  obtain ⟨v4, vs4, d4, ds4, p4, q4, rfl, rfl, rfl, h4, r4⟩ := trodAll_cons r3
  obtain ⟨v5, vs5, d5, ds5, p5, q5, rfl, rfl, rfl, h5, r5⟩ := trodAll_cons r4
  obtain ⟨rfl, rfl, rfl⟩ := trodAll_nil r5
  obtain rfl : args = #[v0, v1, v2, v3, v4, v5] := by cases args; simp_all
  obtain ⟨rfl, rfl⟩ := trodVars_none hV
  have k0 := h0
  have lt0 : ∀ x ∈ p0, x.block < W.heap.size := by obtain ⟨m, hm⟩ := k0; exact DataW.trod_lt m _ _ _ hm
  have k1 := h1
  have lt1 : ∀ x ∈ p1, x.block < W.heap.size := by obtain ⟨m, hm⟩ := k1; exact DataW.trod_lt m _ _ _ hm
  have k2 := h2
  have lt2 : ∀ x ∈ p2, x.block < W.heap.size := by obtain ⟨m, hm⟩ := k2; exact DataW.trod_lt m _ _ _ hm
  have k3 := h3
  have lt3 : ∀ x ∈ p3, x.block < W.heap.size := by obtain ⟨m, hm⟩ := k3; exact DataW.trod_lt m _ _ _ hm
  have k4 := h4
  have lt4 : ∀ x ∈ p4, x.block < W.heap.size := by obtain ⟨m, hm⟩ := k4; exact DataW.trod_lt m _ _ _ hm
  have k5 := h5
  have lt5 : ∀ x ∈ p5, x.block < W.heap.size := by obtain ⟨m, hm⟩ := k5; exact DataW.trod_lt m _ _ _ hm
  obtain ⟨a0, R0, i0⟩ := read_arg (d := 8) (T := .str) (by kernel_rfl) (hval 0 9 v0 rfl rfl) h0
  obtain ⟨x0, o0, rfl⟩ := isV_den i0
  obtain ⟨a1, R1, i1⟩ := read_arg (d := 8) (T := (.int .i64)) (by kernel_rfl) (hval 1 3 v1 rfl rfl) h1
  obtain ⟨x1, o1, rfl⟩ := isV_den i1
  obtain ⟨a2, R2, i2⟩ := read_arg (d := 8) (T := (.list (.int .i64))) (by kernel_rfl) (hval 2 28 v2 rfl rfl) h2
  obtain ⟨x2, o2, rfl⟩ := isV_den i2
  obtain ⟨a3, R3, i3⟩ := read_arg (d := 8) (T := (.int .i64)) (by kernel_rfl) (hval 3 3 v3 rfl rfl) h3
  obtain ⟨x3, o3, rfl⟩ := isV_den i3
  obtain ⟨a4, R4, i4⟩ := read_arg (d := 8) (T := (.int .u8)) (by kernel_rfl) (hval 4 5 v4 rfl rfl) h4
  obtain ⟨x4, o4, rfl⟩ := isV_den i4
  obtain ⟨a5, R5, i5⟩ := read_arg (d := 8) (T := (.int .u8)) (by kernel_rfl) (hval 5 5 v5 rfl rfl) h5
  obtain ⟨x5, o5, rfl⟩ := isV_den i5
  clear hA0
  obtain ⟨G, tb⟩ := table hL hX
  have walk : Calls Tryd.prog 7 _ W fun e w' => e = .returned (.bool true) ∧ Below W.heap.size W w' := calls_trueG (w := W) (l := [_, _, _, _, _, _]) (oki7.2 (x0, x1, x2, x3, x4, x5, ()) (true, ()) (law_parse x0 x1 x2 x3 x4 x5 (ok_i64 o1) (deck_ok o2) (ok_i64 o3))) (tb).1 (tb).2 (RPL.cons R0 (RPL.cons R1 (RPL.cons R2 (RPL.cons R3 (RPL.cons R4 (RPL.cons R5 RPL.nil))))))
  refine walk.mono fun e W' ⟨he, bel⟩ => ?_
  subst he
  exact ⟨_, rfl, _, _, _, [], _, [], hW', trodAll_mk1 (shut_bool Tryd.underlying4 _), (trodAll_cons_mk (Below.trod laidOut (by kernel_rfl) (of_decide_eq_true (by kernel_rfl)) k0 bel lt0) (trodAll_cons_mk (Below.trod laidOut (by kernel_rfl) (of_decide_eq_true (by kernel_rfl)) k1 bel lt1) (trodAll_cons_mk (Below.trod laidOut (by kernel_rfl) (of_decide_eq_true (by kernel_rfl)) k2 bel lt2) (trodAll_cons_mk (Below.trod laidOut (by kernel_rfl) (of_decide_eq_true (by kernel_rfl)) k3 bel lt3) (trodAll_cons_mk (Below.trod laidOut (by kernel_rfl) (of_decide_eq_true (by kernel_rfl)) k4 bel lt4) (trodAll_cons_mk (Below.trod laidOut (by kernel_rfl) (of_decide_eq_true (by kernel_rfl)) k5 bel lt5) trodAll_mk0)))))), rfl, bel.frame _, fun h => by cases h⟩

/-- A world for the witness: the listed variables laid. -/
noncomputable def laidWorld (os : Os) : World := World.laidAll Tryd.prog os Rows.schemaParseRow.laid
theorem laid_met (os : Os) : laidMet Tryd.prog Rows.schemaParseRow.laid ((laidWorld os).forCall (fun _ _ => 0) ⟨#[], #[.string ⟨#[]⟩, .int .i64 0, .slice none 0 0, .int .i64 0, .int .u8 0, .int .u8 0], []⟩).memory :=
  laidMet_laidAll _ (by kernel_rfl) (by kernel_rfl)
theorem reads (os : Os) {H : Type} (enc : TypeId × Value → H) : ∃ x, DataW.whole enc Tryd.prog ((laidWorld os).forCall (fun _ _ => 0) ⟨#[], #[.string ⟨#[]⟩, .int .i64 0, .slice none 0 0, .int .i64 0, .int .u8 0, .int .u8 0], []⟩).memory Tryd.f7.params.toList Rows.schemaParseSpec.vars false (#[.string ⟨#[]⟩, .int .i64 0, .slice none 0 0, .int .i64 0, .int .u8 0, .int .u8 0] : Array Value).toList 8 = some ([.lit (.string []), .lit (.int .i64 0), .nil, .lit (.int .i64 0), .lit (.int .u8 0), .lit (.int .u8 0)], [], x) :=
  ⟨[], by kernel_rfl⟩

set_option maxRecDepth 100000 in
theorem lifted (os : Os) (started : os.Started) (H : Type) (enc : TypeId × Value → H) (F : Stop.Interp) :
    ReturnsInHanded {} Tryd.checked os 7 .any ((OpenSpec.ofChange Rows.schemaParseSpec).preRow enc Tryd.prog Tryd.f7 Rows.schemaParseRow.domain false Rows.schemaParseRow.laid) (((OpenSpec.ofChange Rows.schemaParseSpec).at F).post enc Tryd.prog Tryd.f7 false true false false) := by
  obtain ⟨places, hx⟩ := reads os enc
  refine returnsInHanded_of_row (C := Tryd.checked) (s := (OpenSpec.ofChange Rows.schemaParseSpec)) own started (by kernel_rfl) Tryd.func7
    (witness_row_at (enc := enc) (C := Tryd.checked) false (laidWorld os) #[.string ⟨#[]⟩, .int .i64 0, .slice none 0 0, .int .i64 0, .int .u8 0, .int .u8 0] (World.laidAll_os _ _ _) (by kernel_rfl) (by kernel_rfl) (by kernel_rfl)
      (OpenSpec.preRow_of_cond 8 hx (by kernel_rfl) (fun k hk => by cases hk) (by kernel_rfl) (laid_met os))) ?_
  intro W base args ds gs before hval hW _ hcond _ hL hsz _
  exact contract H enc W base args ds gs before hval hW hL hsz

theorem said : Rows.SchemaParseSaid :=
  OpenClaim.holds_of_cond 7 Tryd.f7 rfl rfl rfl rfl rfl rfl rfl ⟨rfl, rfl, rfl, rfl, rfl⟩ rfl rfl rfl rfl rfl (by kernel_rfl) Tryd.func7 (by kernel_rfl)
    (of_decide_eq_true (by kernel_rfl)) (by unfold Func.isWrapper; first | (rw [if_pos (by decide +kernel)]; kernel_rfl) | (rw [if_neg (by decide +kernel)]; exact ⟨rfl, rfl⟩))
    (fun os started H enc _ F => by rw [OpenClaim.pre_eq_preRow]; exact lifted os started H enc F)

/-- No parameter wants a stand-in; the program's own looks are off: what the card asks. -/
theorem plain (f : FuncId) (fn : Func) (hf : Tryd.pinned.checked.prog.funcNamed "treaty/treatylaw06.SchemaParse" = some f) (hfn : Tryd.pinned.checked.prog.funcs[f]? = some fn) :
    true = Tryd.pinned.checked.prog.looks [] ∧ ∀ (j : Nat) t, fn.params[j]? = some t → Tryd.pinned.checked.prog.wantsStandIn t = false := by
  obtain rfl : f = 7 := Option.some.inj ((show Tryd.prog.funcNamed "treaty/treatylaw06.SchemaParse" = some 7 by kernel_rfl).symm.trans hf) |>.symm
  obtain rfl : fn = Tryd.f7 := (Option.some.inj (Tryd.func7.symm.trans hfn)).symm
  refine ⟨by kernel_rfl, fun j t ht => ?_⟩
  rw [Tryd.params7] at ht
  have hm : t ∈ [9, 3, 28, 3, 5, 5] := by simpa using Array.mem_of_getElem? ht
  have hall : ([9, 3, 28, 3, 5, 5].all fun u => !Tryd.prog.wantsStandIn u) = true := by kernel_rfl
  exact (show Tryd.prog.wantsStandIn t = false by simpa using List.all_eq_true.1 hall t hm)

/-- The card. -/
theorem card : Rows.SchemaParseCardSaid :=
  Claim7.holds_tied_plain_at .later [] _ _ _ _ said (fun _ h => by cases h) (by kernel_rfl) (fun _ h => by cases h) schemaParse_row_tie rfl ⟨rfl, rfl⟩ (by kernel_rfl) rfl plain (by kernel_rfl)

end Go.Proofs.YtgkijjppdaeikaaDoor.schemaParse
