/- strconv.Itoa, strings.Repeat as the typed machine takes them. -/
import Derived.Test.YtamgbanmnededaaDoorXI
import Derived.Test.YtamgbanmnededaaDoorXJ
import Derived.Test.YtamgbanmnededaaDoorShelf
import Derived.Lib.AppendIntMem
import Derived.Lib.LaidTab
namespace Go.Proofs.YtamgbanmnededaaDoor
namespace Abs
open Go.RowKit
set_option linter.unusedVariables false
set_option linter.unusedSimpArgs false
/-- From a walk to a contract. -/
theorem pure_of {P : Program} {F : Addr → Option Value} {w : World} {f : Nat} {xs : Array Value} {v : Value} {res : AV} (hF : ∀ a x, F a = some x → w.cell? a = some x) (hR : RP F v res) (h : Calls P f xs w fun e w' => e = .returned v ∧ Below w.heap.size w w') :
    Calls P f xs w fun e w' => ∃ v F', e = .returned v ∧ (∀ ad y, F ad = some y → F' ad = some y) ∧ (∀ ad y, F' ad = some y → w'.cell? ad = some y) ∧ (∀ ad y, F' ad = some y → F ad = some y ∨ w.heap.size ≤ ad.block) ∧ RP F' v res ∧ Below w.heap.size w w' := by
  refine h.mono ?_
  rintro e w' ⟨rfl, hb⟩
  refine ⟨v, F, rfl, fun _ _ q => q, fun ad y q => ?_, fun _ _ q => .inl q, hR, hb⟩
  rw [World.cell?_of_block (w := w) (hb.block _ (World.block_lt_of_cell? w ad (hF ad y q)))]
  exact hF ad y q
/-- A package-level table, from the machine's facts. -/
theorem tab_of {P : Program} {Gl : Nat → Option (List AV)} {F : Addr → Option Value} {w : World} {g B : Nat} {k : IntKind} {zs : List Int} {name : String} (hF : ∀ a x, F a = some x → w.cell? a = some x) (hG : GlOk Gl F) (hW : GlW Gl B w) (hg : Gl g = some (zs.map fun z => .v (.int k z))) (hn : P.globalNamed name = some g) : Lib.TabIs P w name k zs := by
  obtain ⟨_, vs, ty, fr, h1, h2⟩ := hW g _ hg
  unfold Lib.TabIs World.var?
  rw [hn]
  simp only [Option.bind_some, h1]
  congr 1
  apply Array.ext
  · simpa using h2
  · intro j hj hj2
    have hz : j < zs.length := by simpa using hj2
    have hr := hG g _ hg
    cases hr with
    | lptr _ _ cv c1 c2 =>
      have ha : (zs.map fun z => AV.v (.int k z))[j]? = some (.v (.int k zs[j])) := by rw [List.getElem?_map, List.getElem?_eq_getElem hz]; rfl
      obtain ⟨d1, _⟩ := c1 j _ ha
      have d2 := c2 j _ ha
      have e : cv j = .int k zs[j] := by generalize cv j = q at d2; cases d2; rfl
      have e2 : (Addr.add ⟨g, 0, none⟩ j : Addr) = ⟨g, j, none⟩ := by simp [Addr.add]; intro h; exact h.symm
      rw [e, e2] at d1
      have d3 := hF _ _ d1
      rw [Lib.cell_of_heap h1, Array.getElem?_eq_getElem hj] at d3
      simpa using Option.some.inj d3
/-- strconv.Itoa -/
def itoaB (n : Int) : ByteArray := ⟨(Lib.itoa n).toArray⟩
def mItoa (n : Int) : Option (ByteArray × Unit) := if -9223372036854775808 ≤ n ∧ n ≤ 9223372036854775807 then some (itoaB n, ()) else none
def iItoa : PI := ⟨51, [.int .i64], [.str], fun x => mItoa x.1⟩
theorem gPow : Tryd.prog.globalNamed "internal/strconv.uint64pow10" = some 1 := by kernel_rfl
theorem okhItoa {GX : GXT} (hg : gx GX 1 = some (Lib.pow10Tab.map fun z => .v (.int .u64 z))) : POk Tryd.prog (gx GX) iItoa := by
  refine ⟨by kernel_rfl, ?_⟩
  rintro ⟨n, ⟨⟩⟩ y hy
  have hy : mItoa n = some y := hy
  unfold mItoa at hy
  split at hy
  · rename_i hb
    cases hy
    intro w F xs hF hG hW hxs
    obtain ⟨h1, h2⟩ := hxs
    have hl : xs.size = 1 := h1
    have h0 := h2 0 xs[0] (.v (.int .i64 n)) (Array.getElem?_eq_getElem _) rfl
    have e0 : xs[0] = .int .i64 n := by generalize xs[0] = q at h0; cases h0; rfl
    have ex : xs = #[.int .i64 n] := by
      apply Array.ext
      · exact hl
      · intro i a b; have : i = 0 := by omega
        subst this; exact e0
    rw [ex]
    refine pure_of hF (.v _) ((Tryd.strconv_Itoa n hb.1 hb.2 w (tab_of hF hG hW hg gPow)).mono ?_)
    rintro e w' ⟨he, k, os, hw⟩
    exact ⟨he, by rw [hw]; exact Lib.below_grow _ w (Nat.le_refl _) k os⟩
  · cases hy
/-- strings.Repeat -/
def repB (s : ByteArray) (n : Nat) : ByteArray := ⟨(Lib.repeatL s.data.toList n).toArray⟩
def mRep (s : ByteArray) (n : Int) : Option (ByteArray × Unit) := if 0 ≤ n ∧ n ≤ 9223372036854775807 ∧ s.size * n.toNat ≤ 140737488355328 then some (repB s n.toNat, ()) else none
def iRep : PI := ⟨69, [.str, .int .i64], [.str], fun x => mRep x.1 x.2.1⟩
theorem okhRep {GX : GXT} : POk Tryd.prog (gx GX) iRep := by
  refine ⟨by kernel_rfl, ?_⟩
  rintro ⟨s, n, ⟨⟩⟩ y hy
  have hy : mRep s n = some y := hy
  unfold mRep at hy
  split at hy
  · rename_i hb
    cases hy
    intro w F xs hF hG hW hxs
    obtain ⟨h1, h2⟩ := hxs
    have hl : xs.size = 2 := h1
    have h0 := h2 0 xs[0] (.v (.string s)) (Array.getElem?_eq_getElem _) rfl
    have h1 := h2 1 xs[1] (.v (.int .i64 n)) (Array.getElem?_eq_getElem _) rfl
    have e0 : xs[0] = .string s := by generalize xs[0] = q at h0; cases h0; rfl
    have e1 : xs[1] = .int .i64 n := by generalize xs[1] = q at h1; cases h1; rfl
    have ex : xs = #[.string s, .int .i64 ((n.toNat : Nat) : Int)] := by
      apply Array.ext
      · exact hl
      · intro i a b; have : i = 0 ∨ i = 1 := by omega
        rcases this with rfl | rfl
        · exact e0
        · rw [e1]; show Value.int .i64 n = Value.int .i64 ((n.toNat : Nat) : Int); congr 1; omega
    rw [ex]
    exact pure_of hF (.v _) (Tryd.strings_Repeat s n.toNat w (by omega) hb.2.2)
  · cases hy
end Abs
end Go.Proofs.YtamgbanmnededaaDoor
