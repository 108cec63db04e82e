/- Library functions as the typed machine takes them. -/
import Derived.Test.YtgkijjppdaeikaaDoorXI
import Derived.Test.YtgkijjppdaeikaaDoorXJ
import Derived.Test.YtgkijjppdaeikaaDoorShelf
import Derived.Lib.AppendIntMem
import Derived.Lib.LaidTab
namespace Go.Proofs.YtgkijjppdaeikaaDoor
namespace Abs
open Go.RowKit
set_option linter.unusedVariables false
set_option linter.unusedSimpArgs false
/-- From a walk to a contract. -/
theorem pure_of {P : Program} {F : Addr → Option Value} {w : World} {f : Nat} {xs : Array Value} {v : Value} {res : AV} (hF : ∀ a x, F a = some x → w.cell? a = some x) (hR : RP F v res) (h : Calls P f xs w fun e w' => e = .returned v ∧ Below w.heap.size w w') :
    Calls P f xs w fun e w' => ∃ v F', e = .returned v ∧ (∀ ad y, F ad = some y → F' ad = some y) ∧ (∀ ad y, F' ad = some y → w'.cell? ad = some y) ∧ (∀ ad y, F' ad = some y → F ad = some y ∨ w.heap.size ≤ ad.block) ∧ RP F' v res ∧ Below w.heap.size w w' := by
  refine h.mono ?_
  rintro e w' ⟨rfl, hb⟩
  refine ⟨v, F, rfl, fun _ _ q => q, fun ad y q => ?_, fun _ _ q => .inl q, hR, hb⟩
  rw [World.cell?_of_block (w := w) (hb.block _ (World.block_lt_of_cell? w ad (hF ad y q)))]
  exact hF ad y q
/-- A package-level table, from the machine's facts. -/
theorem tab_of {P : Program} {Gl : Nat → Option (List AV)} {F : Addr → Option Value} {w : World} {g B : Nat} {k : IntKind} {zs : List Int} {name : String} (hF : ∀ a x, F a = some x → w.cell? a = some x) (hG : GlOk Gl F) (hW : GlW Gl B w) (hg : Gl g = some (zs.map fun z => .v (.int k z))) (hn : P.globalNamed name = some g) : Lib.TabIs P w name k zs := by
  obtain ⟨_, vs, ty, fr, h1, h2⟩ := hW g _ hg
  unfold Lib.TabIs World.var?
  rw [hn]
  simp only [Option.bind_some, h1]
  congr 1
  apply Array.ext
  · simpa using h2
  · intro j hj hj2
    have hz : j < zs.length := by simpa using hj2
    have hr := hG g _ hg
    cases hr with
    | lptr _ _ cv c1 c2 =>
      have ha : (zs.map fun z => AV.v (.int k z))[j]? = some (.v (.int k zs[j])) := by rw [List.getElem?_map, List.getElem?_eq_getElem hz]; rfl
      obtain ⟨d1, _⟩ := c1 j _ ha
      have d2 := c2 j _ ha
      have e : cv j = .int k zs[j] := by generalize cv j = q at d2; cases d2; rfl
      have e2 : (Addr.add ⟨g, 0, none⟩ j : Addr) = ⟨g, j, none⟩ := by simp [Addr.add]; intro h; exact h.symm
      rw [e, e2] at d1
      have d3 := hF _ _ d1
      rw [Lib.cell_of_heap h1, Array.getElem?_eq_getElem hj] at d3
      simpa using Option.some.inj d3
/-- strconv.Itoa -/
def itoaB (n : Int) : ByteArray := ⟨(Lib.itoa n).toArray⟩
def mItoa (n : Int) : Option (ByteArray × Unit) := if -9223372036854775808 ≤ n ∧ n ≤ 9223372036854775807 then some (itoaB n, ()) else none
def iItoa : PI := ⟨48, [.int .i64], [.str], fun x => mItoa x.1⟩
theorem gPow : Tryd.prog.globalNamed "internal/strconv.uint64pow10" = some 3 := by kernel_rfl
theorem okhItoa {GX : GXT} (hg : gx GX 3 = some (Lib.pow10Tab.map fun z => .v (.int .u64 z))) : POk Tryd.prog (gx GX) iItoa := by
  refine ⟨by kernel_rfl, ?_⟩
  rintro ⟨n, ⟨⟩⟩ y hy
  have hy : mItoa n = some y := hy
  unfold mItoa at hy
  split at hy
  · rename_i hb
    cases hy
    intro w F xs hF hG hW hxs
    obtain ⟨h1, h2⟩ := hxs
    have hl : xs.size = 1 := h1
    have h0 := h2 0 xs[0] (.v (.int .i64 n)) (Array.getElem?_eq_getElem _) rfl
    have e0 : xs[0] = .int .i64 n := by generalize xs[0] = q at h0; cases h0; rfl
    have ex : xs = #[.int .i64 n] := by
      apply Array.ext
      · exact hl
      · intro i a b; have : i = 0 := by omega
        subst this; exact e0
    rw [ex]
    refine pure_of hF (.v _) ((Tryd.strconv_Itoa n hb.1 hb.2 w (tab_of hF hG hW hg gPow)).mono ?_)
    rintro e w' ⟨he, k, os, hw⟩
    exact ⟨he, by rw [hw]; exact Lib.below_grow _ w (Nat.le_refl _) k os⟩
  · cases hy
/-- strings.Join -/
def joinB (xs : List ByteArray) (sep : ByteArray) : ByteArray := ⟨(Lib.join (xs.map (·.data.toList)) sep.data.toList).toArray⟩
def mJoin (xs : List ByteArray) (sep : ByteArray) : Option (ByteArray × Unit) := if xs.length ≤ 140737488355328 ∧ (joinB xs sep).size ≤ 140737488355328 then some (joinB xs sep, ()) else none
def iJoin : PI := ⟨34, [.list .str, .str], [.str], fun x => mJoin x.1 x.2.1⟩
theorem join_run {F : Addr → Option Value} {w : World} {x : Value} {xs : List ByteArray} {sep : ByteArray} (hF : ∀ a x, F a = some x → w.cell? a = some x) (h1 : xs.length ≤ 140737488355328) (h2 : (joinB xs sep).size ≤ 140737488355328) (hx : RP F x (.list 1 (xs.map fun s => .v (.string s)))) :
    Calls Tryd.prog 34 #[x, .string sep] w fun e w' => e = .returned (.string (joinB xs sep)) ∧ Below w.heap.size w w' := by
  have hlen : (Lib.join (xs.map (·.data.toList)) sep.data.toList).length ≤ 140737488355328 := by
    have e : (joinB xs sep).size = (Lib.join (xs.map (·.data.toList)) sep.data.toList).length := by unfold joinB; show Array.size _ = _; simp
    omega
  have none_ : ∀ (a : Option Addr) (c : Nat), Calls Tryd.prog 34 #[.slice a 0 c, .string sep] w fun e w' => e = .returned (.string (joinB [] sep)) ∧ Below w.heap.size w w' := fun a c =>
    (Tryd.strings_Join_none a c sep w).mono fun e w' ⟨he, hw⟩ => ⟨he, hw ▸ Below.refl _ _⟩
  generalize hz : (xs.map fun s => AV.v (.string s)) = zs at hx
  cases hx with
  | nil =>
    have : xs = [] := List.map_eq_nil_iff.1 hz
    subst this
    exact none_ _ _
  | list ad n cap _ _ cv hn hc hsz hFc hR =>
    subst hz
    rw [List.length_map] at hn
    subst hn
    match xs, hlen, h1 with
    | [], _, _ => exact none_ _ _
    | s :: xs, hlen, h1 =>
      have cell : ∀ (j : Nat) (x : ByteArray), (s :: xs)[j]? = some x → w.cell? (ad.add j) = some (.string x) := by
        intro j x hj
        have ha : ((s :: xs).map fun s => AV.v (.string s))[j]? = some (.v (.string x)) := by rw [List.getElem?_map, hj]; rfl
        have d1 := (hFc j 0 _ _ ha rfl).1
        have d2 := hR j 0 _ _ ha rfl
        rw [Nat.mul_one, Nat.add_zero] at d1 d2
        have e : cv j = .string x := by generalize cv j = q at d2; cases d2; rfl
        rw [e] at d1
        exact hF _ _ d1
      have c0 := cell 0 s rfl
      have hbk : ad.block < w.heap.size := World.block_lt_of_cell? w (ad.add 0) c0
      have hv : ad = ⟨ad.block, ad.off, none⟩ := by
        obtain ⟨b, o, sp⟩ := ad
        cases sp with
        | none => rfl
        | some q => simp [World.cell?, Addr.add] at c0; split at c0 <;> simp at c0
      rw [hv]
      refine Tryd.strings_Join ad.block ad.off cap (s :: xs) sep w (fun j x hj => ?_) hbk h1 hc hlen
      have := cell j x hj
      rw [hv] at this
      have e2 : (Addr.add ⟨ad.block, ad.off, none⟩ j : Addr) = ⟨ad.block, ad.off + j, none⟩ := by simp [Addr.add]; try (intro h; omega)
      rw [e2] at this
      exact this
theorem okhJoin {GX : GXT} : POk Tryd.prog (gx GX) iJoin := by
  refine ⟨by kernel_rfl, ?_⟩
  rintro ⟨l, sep, ⟨⟩⟩ y hy
  have hy : mJoin l sep = some y := hy
  unfold mJoin at hy
  split at hy
  · rename_i hb
    cases hy
    intro w F xs hF hG hW hxs
    obtain ⟨h1, h2⟩ := hxs
    have hl : xs.size = 2 := h1
    have h0 := h2 0 xs[0] _ (Array.getElem?_eq_getElem _) rfl
    have h1 := h2 1 xs[1] (.v (.string sep)) (Array.getElem?_eq_getElem _) rfl
    have e1 : xs[1] = .string sep := by generalize xs[1] = q at h1; cases h1; rfl
    have ex : xs = #[xs[0], .string sep] := by
      apply Array.ext
      · exact hl
      · intro i a b; have : i = 0 ∨ i = 1 := by omega
        rcases this with rfl | rfl
        · rfl
        · exact e1
    rw [ex]
    exact pure_of hF (.v _) (join_run hF hb.1 hb.2 h0)
  · cases hy
end Abs
end Go.Proofs.YtgkijjppdaeikaaDoor
