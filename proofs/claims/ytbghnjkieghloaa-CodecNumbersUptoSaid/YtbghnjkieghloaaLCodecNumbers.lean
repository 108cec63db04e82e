/- The law CodecNumbers, where what it reads is of bulk at most 1048576: the law's call returns true and leaves what was there as it was. -/
import Derived.Test.YtbghnjkieghloaaXK
import Derived.Test.YtbghnjkieghloaaC3
import Derived.Test.YtbghnjkieghloaaRows
import Derived.Test.YtbghnjkieghloaaAbsR
import Derived.WalkKit
import Derived.ProofKit
import Derived.OpenShut
import Derived.ShutString
import Derived.ChangeOld
import Derived.Below
import Derived.Carry
import Derived.JoinedCond
namespace Go.Proofs.Ytbghnjkieghloaa.codecNumbers
open Go.ChangeShapes Go.WideShapes Go.ChangeAt Go.RowKit Go.Proofs.Ytbghnjkieghloaa.Abs
set_option linter.unusedVariables false
set_option linter.unusedSimpArgs false

theorem own : ownKnob Try.prog.godebug = none := by kernel_rfl
theorem laidOut : laidOutB Try.prog = true := by kernel_rfl
theorem one_le {H : Type} (d : DataW H) : 1 ≤ Rows.uptoBulk d := by
  cases d with
  | lit l => cases l <;> simp [Rows.uptoBulk]
  | nil => simp [Rows.uptoBulk]
  | ptr d => simp [Rows.uptoBulk]
  | slice a b => simp [Rows.uptoBulk]
  | agg a => simp [Rows.uptoBulk]
  | iface a b => simp [Rows.uptoBulk]
  | map a => simp [Rows.uptoBulk]
  | held a => simp [Rows.uptoBulk]
theorem length_le {H : Type} (l : List (DataW H)) : l.length ≤ Rows.uptoBulkAll l := by
  induction l with
  | nil => simp [Rows.uptoBulkAll]
  | cons x r ih => have := one_le x; simp only [Rows.uptoBulkAll, List.length_cons]; omega
/-- A slice's elements count. -/
theorem len_bulk {H : Type} {enc : TypeId × Value → H} {P : Program} {w : World} {F : Addr → Option Value} {t e : TypeId} {v : Value} {D : DataW H} {p : List MemPlace} {sz : Nat} {xs : List AV} (ht : P.underlying t = some (.slice e)) (h : DataW.Trod enc P w 0 (fun _ => true) true t v D p) (hR : RP F v (.list sz xs)) : xs.length + 1 ≤ Rows.uptoBulk D := by
  obtain ⟨fuel, hf⟩ := h
  cases hR with
  | nil => exact one_le D
  | list ad n cap _ _ cv hn hc hz hF hR =>
    rcases Go.Deep.open_slice ht hf with ⟨q, _⟩ | ⟨a, len, cap', m, k, D', Pl, q, _, _, _, _, q', _⟩
    · cases q
    · cases q
      cases q'
      have := length_le ((List.range n).map D')
      simp only [List.length_map, List.length_range] at this
      simp only [Rows.uptoBulk]
      omega
theorem byt_ok {l : List Int} (h : OkT (.list (.int .u8)) l) : Byt l := fun x hx => ok_u8 ((ok_list h).2 x hx)

set_option maxRecDepth 100000 in
theorem contract (H : Type) (enc : TypeId × Value → H) (W : World) (base : Nat) (args : Array Value) (ds gs : List (DataW H)) (before : List MemPlace)
    (hval0 : ∀ (j : Nat) t v, Try.f4.params[j]? = some t → args[j]? = some v → Value.okWide Try.prog W .any base t v)
    (hW : DataW.Whole enc Try.prog Try.f4.params.toList Rows.codecNumbersSpec.vars false W args.toList ds gs before) (hk : Rows.uptoSmall H (ds ++ gs) = true) :
    Calls Try.prog 4 args W fun e W' => ∃ v, e = .returned v ∧ Rows.codecNumbersSpec.post enc Try.prog Try.f4 false true false false W args v W' := by
  have hval : ∀ (j : Nat) t v, Try.f4.params[j]? = some t → args[j]? = some v → Value.okWide Try.prog W .any base t v := hval0
  have hW' := hW
  obtain ⟨p, q, hA0, hV, rfl, hfz, hnd⟩ := hW
  have hA : DataW.TrodAll enc Try.prog W 0 (fun _ => true) true Try.f4.params.toList args.toList ds p := hA0
  rw [Try.params4] at hA hval
  obtain ⟨v0, vs0, d0, ds0, p0, q0, hargs, rfl, rfl, h0, r0⟩ := trodAll_cons hA
  obtain ⟨v1, vs1, d1, ds1, p1, q1, rfl, rfl, rfl, h1, r1⟩ := trodAll_cons r0
  obtain ⟨rfl, rfl, rfl⟩ := trodAll_nil r1
  obtain rfl : args = #[v0, v1] := by cases args; simp_all
  obtain ⟨rfl, rfl⟩ := trodVars_none hV
  have hb : Rows.uptoBulk d0 + Rows.uptoBulk d1 ≤ 1048576 := by simpa [Rows.uptoSmall, Rows.uptoBulkAll, Nat.add_assoc] using hk
  have lt0 : ∀ x ∈ p0, x.block < W.heap.size := by obtain ⟨m, hm⟩ := h0; exact DataW.trod_lt m _ _ _ hm
  obtain ⟨a0, R0, i0⟩ := read_arg (d := 8) (T := (.int .i64)) (by kernel_rfl) (hval 0 3 v0 rfl rfl) h0
  have lt1 : ∀ x ∈ p1, x.block < W.heap.size := by obtain ⟨m, hm⟩ := h1; exact DataW.trod_lt m _ _ _ hm
  obtain ⟨a1, R1, i1⟩ := read_arg (d := 8) (T := (.list (.int .u8))) (by kernel_rfl) (hval 1 22 v1 rfl rfl) h1
  obtain ⟨x0, o0, rfl⟩ := isV_den i0
  obtain ⟨x1, o1, rfl⟩ := isV_den i1
  have n1 : List.length (α := Ty.den (.int .u8)) x1 + 1 ≤ Rows.uptoBulk d1 := by
    have q := len_bulk Try.underlying22 h1 R1
    have e : List.length (List.map (Ty.enc (.int .u8)) x1) = List.length (α := Ty.den (.int .u8)) x1 := List.length_map _
    exact e ▸ q
  refine (calls_true (w := W) (l := [_, _]) (oki4.2 (x0, x1, ()) (true, ()) (law_numbers x0 x1 (byt_ok o1) (by have := one_le d0; have hn : List.length (α := Int) x1 + 1 ≤ Rows.uptoBulk d1 := n1; omega))) (RPL.cons R0 (RPL.cons R1 RPL.nil))).mono fun e W' ⟨he, bel⟩ => ?_
  subst he
  exact ⟨_, rfl, _, _, _, [], _, [], hW', trodAll_mk1 (shut_bool Try.underlying4 _), (trodAll_cons_mk (Below.trod laidOut (by kernel_rfl) (of_decide_eq_true (by kernel_rfl)) h0 bel lt0) (trodAll_cons_mk (Below.trod laidOut (by kernel_rfl) (of_decide_eq_true (by kernel_rfl)) h1 bel lt1) trodAll_mk0)), rfl, bel.frame _, fun h => by cases h⟩
set_option maxRecDepth 100000 in
theorem lifted (os : Os) (started : os.Started) (H : Type) (enc : TypeId × Value → H) (F : Stop.Interp) :
    ReturnsInHanded {} Try.checked os 4 .any ((Rows.OpenSpec.upto Rows.codecNumbersSpec).pre6 enc Try.prog Try.f4 Rows.codecNumbersUptoRow.domain false) (((Rows.OpenSpec.upto Rows.codecNumbersSpec).at F).post enc Try.prog Try.f4 false true false false) := by
  refine returnsInHanded_of_cond (C := Try.checked) (s := Rows.OpenSpec.upto Rows.codecNumbersSpec) (k := Rows.uptoSmall) rfl own started (by kernel_rfl) Try.func4
    (OpenSpec.witness (enc := enc) (C := Try.checked) (s := Rows.OpenSpec.upto Rows.codecNumbersSpec) (k := Rows.uptoSmall) rfl false ⟨#[], #[.int .i64 0, .slice none 0 0], []⟩ 8 (by kernel_rfl) (by kernel_rfl) (by kernel_rfl)
      (x := ([.lit (.int .i64 0), .nil], [], [])) (by kernel_rfl) rfl (by kernel_rfl)) ?_
  intro W base args ds gs before hval hW _ hk _
  exact contract H enc W base args ds gs before hval hW hk
theorem said : Rows.CodecNumbersUptoSaid :=
  OpenClaim.holds_of_cond 4 Try.f4 rfl rfl rfl rfl rfl rfl rfl ⟨rfl, rfl, rfl, rfl, rfl⟩ rfl rfl rfl rfl rfl (by kernel_rfl) Try.func4 (by kernel_rfl)
    (of_decide_eq_true (by kernel_rfl)) (by unfold Func.isWrapper; first | (rw [if_pos (by decide +kernel)]; kernel_rfl) | (rw [if_neg (by decide +kernel)]; exact ⟨rfl, rfl⟩))
    (fun os started H enc _ F => lifted os started H enc F)
end Go.Proofs.Ytbghnjkieghloaa.codecNumbers
