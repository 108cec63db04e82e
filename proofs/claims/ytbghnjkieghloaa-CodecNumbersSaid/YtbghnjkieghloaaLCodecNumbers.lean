/- The law CodecNumbers: for every input the law's call returns true and leaves what was there as it was. -/
import Derived.Test.YtbghnjkieghloaaXK
import Derived.Test.YtbghnjkieghloaaC3
import Derived.Test.YtbghnjkieghloaaRows
import Derived.Test.YtbghnjkieghloaaAbsR
import Derived.WalkKit
import Derived.ProofKit
import Derived.OpenShut
import Derived.ShutString
import Derived.ChangeOld
import Derived.Below
import Derived.Carry
import Derived.SizedLaws
namespace Go.Proofs.Ytbghnjkieghloaa.codecNumbers
open Go.ChangeShapes Go.WideShapes Go.ChangeAt Go.RowKit Go.Proofs.Ytbghnjkieghloaa.Abs
set_option linter.unusedVariables false
set_option linter.unusedSimpArgs false

theorem own : ownKnob Try.prog.godebug = none := by kernel_rfl
theorem laidOut : laidOutB Try.prog = true := by kernel_rfl
/-- A slice's elements fit. -/
theorem len_sized {H : Type} {enc : TypeId × Value → H} {P : Program} {w : World} {F : Addr → Option Value} {ts : List TypeId} {Ds : List (DataW H)} {j : Nat} {t e : TypeId} {v : Value} {D : DataW H} {p : List MemPlace} {sz : Nat} {xs : List AV} (hsz : (DataW.weightsEach P ts Ds).all (· ≤ reachBytes) = true) (hj : ts[j]? = some t) (hD : Ds[j]? = some D) (ht : P.underlying t = some (.slice e)) (h : DataW.Trod enc P w 0 (fun _ => true) true t v D p) (hR : RP F v (.list sz xs)) : xs.length * P.bytesOf e ≤ reachBytes := by
  obtain ⟨fuel, hf⟩ := h
  cases hR with
  | nil => simp
  | list ad n cap _ _ cv hn hc hz hF hR =>
    rcases Go.Deep.open_slice ht hf with ⟨q, _⟩ | ⟨a, len, cap', m, k, D', Pl, q, _, _, _, _, q', _⟩
    · cases q
    · cases q
      cases q'
      have := sized_slice hsz hj hD ht
      simp only [List.length_map, List.length_range] at this
      exact Nat.le_trans (Nat.mul_le_mul_right _ (by omega)) this
theorem byt_ok {l : List Int} (h : OkT (.list (.int .u8)) l) : Byt l := fun x hx => ok_u8 ((ok_list h).2 x hx)

set_option maxRecDepth 100000 in
theorem lifted (os : Os) (started : os.Started) (H : Type) (enc : TypeId × Value → H) :
    ReturnsInHanded {} Try.checked os 4 .any (Rows.codecNumbersSpec.pre6 enc Try.prog Try.f4 Rows.codecNumbersRow.domain false) (Rows.codecNumbersSpec.post enc Try.prog Try.f4 false true false false) := by
  refine returnsInHanded_of_change_sized (C := Try.checked) own started (by kernel_rfl) Try.func4
    (ChangeSpec.witness6 (enc := enc) (C := Try.checked) false ⟨#[], #[.int .i64 0, .slice none 0 0], []⟩ 8 (by kernel_rfl) (by kernel_rfl) (by kernel_rfl) (by kernel_rfl)) ?_
  intro W base args ds gs before hval0 hW hcnd hsz0 _
  have hval : ∀ (j : Nat) t v, Try.f4.params[j]? = some t → args[j]? = some v → Value.okWide Try.prog W .any base t v := hval0
  have hW' := hW
  obtain ⟨p, q, hA0, hV, rfl, hfz, hnd⟩ := hW
  have hA : DataW.TrodAll enc Try.prog W 0 (fun _ => true) true Try.f4.params.toList args.toList ds p := hA0
  rw [Try.params4] at hA hval
  obtain ⟨v0, vs0, d0, ds0, p0, q0, hargs, rfl, rfl, h0, r0⟩ := trodAll_cons hA
  obtain ⟨v1, vs1, d1, ds1, p1, q1, rfl, rfl, rfl, h1, r1⟩ := trodAll_cons r0
  obtain ⟨rfl, rfl, rfl⟩ := trodAll_nil r1
  obtain rfl : args = #[v0, v1] := by cases args; simp_all
  obtain ⟨rfl, rfl⟩ := trodVars_none hV
  have lt0 : ∀ x ∈ p0, x.block < W.heap.size := by obtain ⟨m, hm⟩ := h0; exact DataW.trod_lt m _ _ _ hm
  obtain ⟨a0, R0, i0⟩ := read_arg (d := 8) (T := (.int .i64)) (by kernel_rfl) (hval 0 3 v0 rfl rfl) h0
  have lt1 : ∀ x ∈ p1, x.block < W.heap.size := by obtain ⟨m, hm⟩ := h1; exact DataW.trod_lt m _ _ _ hm
  obtain ⟨a1, R1, i1⟩ := read_arg (d := 8) (T := (.list (.int .u8))) (by kernel_rfl) (hval 1 22 v1 rfl rfl) h1
  have hsz : (DataW.weightsEach Try.prog [3, 22] [d0, d1]).all (· ≤ reachBytes) = true := by
    have q := hsz0
    rw [Try.params4] at q
    exact q
  obtain ⟨x0, o0, rfl⟩ := isV_den i0
  obtain ⟨x1, o1, rfl⟩ := isV_den i1
  have n1 : List.length (α := Ty.den (.int .u8)) x1 * Try.prog.bytesOf 5 ≤ reachBytes := by
    have q := len_sized (j := 1) hsz rfl rfl Try.underlying22 h1 R1
    have e : List.length (List.map (Ty.enc (.int .u8)) x1) = List.length (α := Ty.den (.int .u8)) x1 := List.length_map _
    exact e ▸ q
  refine (calls_true (w := W) (l := [_, _]) (oki4.2 (x0, x1, ()) (true, ()) (law_numbers x0 x1 (byt_ok o1) (by have hn : List.length (α := Int) x1 * 1 ≤ reachBytes := n1; unfold reachBytes at hn; omega))) (RPL.cons R0 (RPL.cons R1 RPL.nil))).mono fun e W' ⟨he, bel⟩ => ?_
  subst he
  exact ⟨_, rfl, _, _, _, [], _, [], hW', trodAll_mk1 (shut_bool Try.underlying4 _), (trodAll_cons_mk (Below.trod laidOut (by kernel_rfl) (of_decide_eq_true (by kernel_rfl)) h0 bel lt0) (trodAll_cons_mk (Below.trod laidOut (by kernel_rfl) (of_decide_eq_true (by kernel_rfl)) h1 bel lt1) trodAll_mk0)), rfl, bel.frame _, fun h => by cases h⟩

theorem said : Rows.CodecNumbersSaid :=
  OpenClaim.holds_of_wide 4 Try.f4 rfl rfl rfl rfl rfl rfl rfl ⟨rfl, rfl, rfl, rfl, rfl⟩ rfl rfl rfl rfl rfl (by kernel_rfl) Try.func4 (by kernel_rfl)
    (of_decide_eq_true (by kernel_rfl)) (by unfold Func.isWrapper; first | (rw [if_pos (by decide +kernel)]; kernel_rfl) | (rw [if_neg (by decide +kernel)]; exact ⟨rfl, rfl⟩))
    (fun os started H enc _ => lifted os started H enc)
end Go.Proofs.Ytbghnjkieghloaa.codecNumbers
