/- Merged and trimmed by a program: Shelf SPI BD0 BD1 BD2. -/
import Derived.Test.YtfjhljjginlobaaDoorZPD
import Derived.Shelf.Strings.Builder1
import Derived.Shelf.Strings.BuilderF
import Derived.Shelf.Utf8.RuneCount
import Derived.Shelf.Strconv.Itoa0
import Derived.Shelf.Strconv.Itoa1
import Derived.Shelf.LaysM
import Derived.Shelf.Strconv.Itoa2
import Derived.Shelf.Strconv.Itoa3
import Derived.Shelf.Strings.Search1
import Derived.Shelf.Strings.Search2
import Derived.Shelf.Strings.Search3
import Derived.Shelf.Strings.Cut
import Derived.Shelf.Strings.Count
import Derived.Shelf.Strings.Shaped
import Derived.Shelf.Strings.Split
import Derived.Shelf.Strings.RuneCount
import Derived.Test.YtfjhljjginlobaaDoorProg
import Derived.Lib.AppendIntMem
import Derived.Lib.LaidTab
import Derived.Lib.Builder
import Derived.Lib.UnsafeStr
import Derived.WalkKit
import Derived.Below
set_option linter.unusedVariables false
set_option linter.unusedSimpArgs false
section
namespace Go.Proofs
open Go.Shelf
def Tryd.laysM171_ren : Go.Shelf.Ren := ⟨fun | 171 => 36 | 243 => 63 | 246 => 73 | 283 => 78 | 284 => 79 | 285 => 80 | 286 => 81 | 129 => 85 | 317 => 84 | 318 => 86 | 319 => 87 | 320 => 88 | 337 => 89 | 338 => 90 | n => n, fun | 3 => 3 | 9 => 9 | 2 => 2 | 4 => 4 | 171 => 140 | 0 => 0 | 53 => 141 | 37 => 40 | 5 => 5 | 173 => 144 | 212 => 150 | 51 => 146 | 20 => 20 | 213 => 151 | 46 => 32 | 232 => 155 | 233 => 156 | n => n, fun | 17 => 2 | 18 => 3 | 19 => 4 | n => n⟩
theorem Tryd.laysM171 : Go.Proofs.LaysM.n171 Tryd.prog Tryd.laysM171_ren := {
 mixed := by kernel_rfl
 f129 := Tryd.func85.trans (congrArg some (by kernel_rfl))
 f171 := Tryd.func36.trans (congrArg some (by kernel_rfl))
 f243 := Tryd.func63.trans (congrArg some (by kernel_rfl))
 f246 := Tryd.func73.trans (congrArg some (by kernel_rfl))
 f283 := Tryd.func78.trans (congrArg some (by kernel_rfl))
 f284 := Tryd.func79.trans (congrArg some (by kernel_rfl))
 f285 := Tryd.func80.trans (congrArg some (by kernel_rfl))
 f286 := Tryd.func81.trans (congrArg some (by kernel_rfl))
 f317 := Tryd.func84.trans (congrArg some (by kernel_rfl))
 f318 := Tryd.func86.trans (congrArg some (by kernel_rfl))
 f319 := Tryd.func87.trans (congrArg some (by kernel_rfl))
 f320 := Tryd.func88.trans (congrArg some (by kernel_rfl))
 f337 := Tryd.func89.trans (congrArg some (by kernel_rfl))
 f338 := Tryd.func90.trans (congrArg some (by kernel_rfl))
 t0 := Tryd.underlying0
 a0 := Tryd.isAgg0
 z0 := Tryd.sizeOf0
 v0 := Tryd.zeroValue0
 t2 := Tryd.underlying2
 a2 := Tryd.isAgg2
 z2 := Tryd.sizeOf2
 v2 := Tryd.zeroValue2
 t3 := Tryd.underlying3
 a3 := Tryd.isAgg3
 z3 := Tryd.sizeOf3
 v3 := Tryd.zeroValue3
 t4 := Tryd.underlying4
 a4 := Tryd.isAgg4
 z4 := Tryd.sizeOf4
 v4 := Tryd.zeroValue4
 t5 := Tryd.underlying5
 a5 := Tryd.isAgg5
 z5 := Tryd.sizeOf5
 v5 := Tryd.zeroValue5
 t9 := Tryd.underlying9
 a9 := Tryd.isAgg9
 z9 := Tryd.sizeOf9
 v9 := Tryd.zeroValue9
 t20 := Tryd.underlying20
 a20 := Tryd.isAgg20
 z20 := Tryd.sizeOf20
 v20 := Tryd.zeroValue20
 t37 := Tryd.underlying40
 a37 := Tryd.isAgg40
 z37 := Tryd.sizeOf40
 v37 := Tryd.zeroValue40
 t46 := Tryd.underlying32
 a46 := Tryd.isAgg32
 z46 := Tryd.sizeOf32
 v46 := Tryd.zeroValue32
 t51 := Tryd.underlying146
 a51 := Tryd.isAgg146
 z51 := Tryd.sizeOf146
 v51 := Tryd.zeroValue146
 t53 := Tryd.underlying141
 a53 := Tryd.isAgg141
 z53 := Tryd.sizeOf141
 v53 := Tryd.zeroValue141
 t171 := Tryd.underlying140
 a171 := Tryd.isAgg140
 z171 := Tryd.sizeOf140
 v171 := Tryd.zeroValue140
 t173 := Tryd.underlying144
 a173 := Tryd.isAgg144
 z173 := Tryd.sizeOf144
 v173 := Tryd.zeroValue144
 t212 := Tryd.underlying150
 a212 := Tryd.isAgg150
 z212 := Tryd.sizeOf150
 v212 := Tryd.zeroValue150
 t213 := Tryd.underlying151
 a213 := Tryd.isAgg151
 z213 := Tryd.sizeOf151
 t232 := Tryd.underlying155
 a232 := Tryd.isAgg155
 z232 := Tryd.sizeOf155
 v232 := Tryd.zeroValue155
 t233 := Tryd.underlying156
 a233 := Tryd.isAgg156
 z233 := Tryd.sizeOf156
 v233 := Tryd.zeroValue156
 g17 := by kernel_rfl
 g18 := by kernel_rfl
 g19 := by kernel_rfl
 i0 := by kernel_rfl
 i2 := by kernel_rfl
 i3 := by kernel_rfl
 i4 := by kernel_rfl
 i5 := by kernel_rfl
 i9 := by kernel_rfl
 i20 := by kernel_rfl
 i37 := by kernel_rfl
 i46 := by kernel_rfl
 i51 := by kernel_rfl
 i53 := by kernel_rfl
 i171 := by kernel_rfl
 i173 := by kernel_rfl
 i212 := by kernel_rfl
 i232 := by kernel_rfl
 i233 := by kernel_rfl
 m17 := by kernel_rfl
 m18 := by kernel_rfl
 m19 := by kernel_rfl }
open Go.RowKit Go.Sort Go.Lib in
theorem Tryd.strconv_Itoa (n : Int) (h0 : -9223372036854775808 ≤ n) (h1 : n ≤ 9223372036854775807) (w : World) (htab : Lib.TabIs Tryd.prog w "internal/strconv.uint64pow10" .u64 Lib.pow10Tab) :
  Calls Tryd.prog 36 #[.int .i64 n] w fun e w' => e = .returned (.string ⟨(Lib.itoa n).toArray⟩) ∧ ∃ k os, w' = grow (w.drewN k) os := Any.strconv_Itoa Tryd.laysM171 n h0 h1 w htab
def Tryd.lays144_ren : Go.Shelf.Ren := ⟨fun | 144 => 42 | 143 => 65 | 219 => 64 | 217 => 74 | 225 => 75 | 224 => 76 | 267 => 77 | 266 => 82 | 314 => 83 | n => n, fun | 9 => 9 | 4 => 4 | 3 => 3 | 5 => 5 | 46 => 32 | 146 => 147 | 51 => 146 | n => n, fun | 1 => 1 | n => n⟩
theorem Tryd.lays144 : Go.Proofs.Lays.n144 Tryd.prog Tryd.lays144_ren := {
 mixed := by kernel_rfl
 f143 := Tryd.func65.trans (congrArg some (by kernel_rfl))
 f144 := Tryd.func42.trans (congrArg some (by kernel_rfl))
 f217 := Tryd.func74.trans (congrArg some (by kernel_rfl))
 f219 := Tryd.func64.trans (congrArg some (by kernel_rfl))
 f224 := Tryd.func76.trans (congrArg some (by kernel_rfl))
 f225 := Tryd.func75.trans (congrArg some (by kernel_rfl))
 f266 := Tryd.func82.trans (congrArg some (by kernel_rfl))
 f267 := Tryd.func77.trans (congrArg some (by kernel_rfl))
 f314 := Tryd.func83.trans (congrArg some (by kernel_rfl))
 t3 := Tryd.underlying3
 a3 := Tryd.isAgg3
 z3 := Tryd.sizeOf3
 v3 := Tryd.zeroValue3
 t4 := Tryd.underlying4
 a4 := Tryd.isAgg4
 z4 := Tryd.sizeOf4
 v4 := Tryd.zeroValue4
 t5 := Tryd.underlying5
 a5 := Tryd.isAgg5
 z5 := Tryd.sizeOf5
 v5 := Tryd.zeroValue5
 t9 := Tryd.underlying9
 a9 := Tryd.isAgg9
 z9 := Tryd.sizeOf9
 v9 := Tryd.zeroValue9
 t46 := Tryd.underlying32
 a46 := Tryd.isAgg32
 z46 := Tryd.sizeOf32
 v46 := Tryd.zeroValue32
 t51 := Tryd.underlying146
 a51 := Tryd.isAgg146
 z51 := Tryd.sizeOf146
 v51 := Tryd.zeroValue146
 t146 := Tryd.underlying147
 a146 := Tryd.isAgg147
 z146 := Tryd.sizeOf147
 v146 := Tryd.zeroValue147
 g1 := by kernel_rfl }
open Go.RowKit Go.Lib in
theorem Tryd.strings_Contains (s sub : ByteArray) (m : Int) (w : World) (hs : s.size < 4294967281) (hm : w.cell? ⟨1, 0, none⟩ = some (.int .i64 m)) :
  Calls Tryd.prog 42 #[.string s, .string sub] w fun e w' => e = .returned (.bool (Lib.contains s.data.toList sub.data.toList)) ∧ w' = w := Any.strings_Contains Tryd.lays144 s sub m w hs hm
def Tryd.lays145_ren : Go.Shelf.Ren := ⟨fun | 145 => 20 | 220 => 41 | 219 => 64 | 217 => 74 | 225 => 75 | 224 => 76 | 267 => 77 | 266 => 82 | 314 => 83 | n => n, fun | 9 => 9 | 4 => 4 | 59 => 63 | 3 => 3 | 5 => 5 | 46 => 32 | 146 => 147 | 51 => 146 | n => n, fun | 1 => 1 | n => n⟩
theorem Tryd.lays145 : Go.Proofs.Lays.n145 Tryd.prog Tryd.lays145_ren := {
 mixed := by kernel_rfl
 f145 := Tryd.func20.trans (congrArg some (by kernel_rfl))
 f217 := Tryd.func74.trans (congrArg some (by kernel_rfl))
 f219 := Tryd.func64.trans (congrArg some (by kernel_rfl))
 f220 := Tryd.func41.trans (congrArg some (by kernel_rfl))
 f224 := Tryd.func76.trans (congrArg some (by kernel_rfl))
 f225 := Tryd.func75.trans (congrArg some (by kernel_rfl))
 f266 := Tryd.func82.trans (congrArg some (by kernel_rfl))
 f267 := Tryd.func77.trans (congrArg some (by kernel_rfl))
 f314 := Tryd.func83.trans (congrArg some (by kernel_rfl))
 t3 := Tryd.underlying3
 a3 := Tryd.isAgg3
 z3 := Tryd.sizeOf3
 v3 := Tryd.zeroValue3
 t4 := Tryd.underlying4
 a4 := Tryd.isAgg4
 z4 := Tryd.sizeOf4
 v4 := Tryd.zeroValue4
 t5 := Tryd.underlying5
 a5 := Tryd.isAgg5
 z5 := Tryd.sizeOf5
 v5 := Tryd.zeroValue5
 t9 := Tryd.underlying9
 a9 := Tryd.isAgg9
 z9 := Tryd.sizeOf9
 v9 := Tryd.zeroValue9
 t46 := Tryd.underlying32
 a46 := Tryd.isAgg32
 z46 := Tryd.sizeOf32
 v46 := Tryd.zeroValue32
 t51 := Tryd.underlying146
 a51 := Tryd.isAgg146
 z51 := Tryd.sizeOf146
 v51 := Tryd.zeroValue146
 t59 := Tryd.underlying63
 a59 := Tryd.isAgg63
 z59 := Tryd.sizeOf63
 v59 := Tryd.zeroValue63
 t146 := Tryd.underlying147
 a146 := Tryd.isAgg147
 z146 := Tryd.sizeOf147
 v146 := Tryd.zeroValue147
 g1 := by kernel_rfl }
open Go.RowKit Go.Lib in
theorem Tryd.strings_Cut (s sep : ByteArray) (m : Int) (w : World) (hs : s.size < 4294967281) (hm : w.cell? ⟨1, 0, none⟩ = some (.int .i64 m)) :
  Calls Tryd.prog 20 #[.string s, .string sep] w fun e w' => e = .returned (.tuple #[.string ⟨(Lib.cut s.data.toList sep.data.toList).1.toArray⟩, .string ⟨(Lib.cut s.data.toList sep.data.toList).2.1.toArray⟩, .bool (Lib.cut s.data.toList sep.data.toList).2.2]) ∧ ∃ n, w' = w.drewN n := Any.strings_Cut Tryd.lays145 s sep m w hs hm
def Tryd.lays138_ren : Go.Shelf.Ren := ⟨fun | 138 => 44 | 195 => 66 | 218 => 67 | 143 => 65 | 219 => 64 | 217 => 74 | 225 => 75 | 224 => 76 | 267 => 77 | 266 => 82 | 314 => 83 | n => n, fun | 9 => 9 | 3 => 3 | 4 => 4 | 5 => 5 | 0 => 0 | 46 => 32 | 146 => 147 | 51 => 146 | n => n, fun | 1 => 1 | n => n⟩
theorem Tryd.lays138 : Go.Proofs.Lays.n138 Tryd.prog Tryd.lays138_ren := {
 mixed := by kernel_rfl
 f138 := Tryd.func44.trans (congrArg some (by kernel_rfl))
 f143 := Tryd.func65.trans (congrArg some (by kernel_rfl))
 f195 := Tryd.func66.trans (congrArg some (by kernel_rfl))
 f217 := Tryd.func74.trans (congrArg some (by kernel_rfl))
 f218 := Tryd.func67.trans (congrArg some (by kernel_rfl))
 f219 := Tryd.func64.trans (congrArg some (by kernel_rfl))
 f224 := Tryd.func76.trans (congrArg some (by kernel_rfl))
 f225 := Tryd.func75.trans (congrArg some (by kernel_rfl))
 f266 := Tryd.func82.trans (congrArg some (by kernel_rfl))
 f267 := Tryd.func77.trans (congrArg some (by kernel_rfl))
 f314 := Tryd.func83.trans (congrArg some (by kernel_rfl))
 t0 := Tryd.underlying0
 a0 := Tryd.isAgg0
 z0 := Tryd.sizeOf0
 v0 := Tryd.zeroValue0
 t3 := Tryd.underlying3
 a3 := Tryd.isAgg3
 z3 := Tryd.sizeOf3
 v3 := Tryd.zeroValue3
 t4 := Tryd.underlying4
 a4 := Tryd.isAgg4
 z4 := Tryd.sizeOf4
 v4 := Tryd.zeroValue4
 t5 := Tryd.underlying5
 a5 := Tryd.isAgg5
 z5 := Tryd.sizeOf5
 v5 := Tryd.zeroValue5
 t9 := Tryd.underlying9
 a9 := Tryd.isAgg9
 z9 := Tryd.sizeOf9
 v9 := Tryd.zeroValue9
 t46 := Tryd.underlying32
 a46 := Tryd.isAgg32
 z46 := Tryd.sizeOf32
 v46 := Tryd.zeroValue32
 t51 := Tryd.underlying146
 a51 := Tryd.isAgg146
 z51 := Tryd.sizeOf146
 v51 := Tryd.zeroValue146
 t146 := Tryd.underlying147
 a146 := Tryd.isAgg147
 z146 := Tryd.sizeOf147
 v146 := Tryd.zeroValue147
 g1 := by kernel_rfl }
open Go.RowKit Go.Lib in
theorem Tryd.strings_Count_one (s : ByteArray) (c : UInt8) (w : World) :
  Calls Tryd.prog 44 #[.string s, .string ⟨#[c]⟩] w fun e w' => e = .returned (.int .i64 (Lib.countByte s.data.toList c)) ∧ w' = w := Any.strings_Count_one Tryd.lays138 s c w
end Go.Proofs
end
section
namespace Go.Proofs.YtfjhljjginlobaaDoor
namespace Abs
open Go.RowKit
theorem pure_of {P : Program} {F : Addr → Option Value} {w : World} {f : Nat} {xs : Array Value} {v : Value} {res : AV} (hF : ∀ a x, F a = some x → w.cell? a = some x) (hR : RP F v res) (h : Calls P f xs w fun e w' => e = .returned v ∧ Below w.heap.size w w') :
  Calls P f xs w fun e w' => ∃ v F', e = .returned v ∧ (∀ ad y, F ad = some y → F' ad = some y) ∧ (∀ ad y, F' ad = some y → w'.cell? ad = some y) ∧ (∀ ad y, F' ad = some y → F ad = some y ∨ w.heap.size ≤ ad.block) ∧ RP F' v res ∧ Below w.heap.size w w' := by
 refine h.mono ?_
 rintro e w' ⟨rfl, hb⟩
 refine ⟨v, F, rfl, fun _ _ q => q, fun ad y q => ?_, fun _ _ q => .inl q, hR, hb⟩
 rw [World.cell?_of_block (w := w) (hb.block _ (World.block_lt_of_cell? w ad (hF ad y q)))]
 exact hF ad y q
theorem tab_of {P : Program} {Gl : Nat → Option (List AV)} {F : Addr → Option Value} {w : World} {g B : Nat} {k : IntKind} {zs : List Int} {name : String} (hF : ∀ a x, F a = some x → w.cell? a = some x) (hG : GlOk Gl F) (hW : GlW Gl B w) (hg : Gl g = some (zs.map fun z => .v (.int k z))) (hn : P.globalNamed name = some g) : Lib.TabIs P w name k zs := by
 obtain ⟨_, vs, ty, fr, h1, h2⟩ := hW g _ hg
 unfold Lib.TabIs World.var?
 rw [hn]
 simp only [Option.bind_some, h1]
 congr 1
 apply Array.ext
 ·simpa using h2
 ·intro j hj hj2
  have hz : j < zs.length := by simpa using hj2
  have hr := hG g _ hg
  cases hr with
  | lptr _ _ cv c1 c2 =>
   have ha : (zs.map fun z => AV.v (.int k z))[j]? = some (.v (.int k zs[j])) := by rw [List.getElem?_map, List.getElem?_eq_getElem hz]; rfl
   obtain ⟨d1, _⟩ := c1 j _ ha
   have d2 := c2 j _ ha
   have e : cv j = .int k zs[j] := by generalize cv j = q at d2; cases d2; rfl
   have e2 : (Addr.add ⟨g, 0, none⟩ j : Addr) = ⟨g, j, none⟩ := by simp [Addr.add]; intro h; exact h.symm
   rw [e, e2] at d1
   have d3 := hF _ _ d1
   rw [Lib.cell_of_heap h1, Array.getElem?_eq_getElem hj] at d3
   simpa using Option.some.inj d3
def itoaB (n : Int) : ByteArray := ⟨(Lib.itoa n).toArray⟩
def mItoa (n : Int) : Option (ByteArray × Unit) := if -9223372036854775808 ≤ n ∧ n ≤ 9223372036854775807 then some (itoaB n, ()) else none
def iItoa : PI := ⟨36, [.int .i64], [.str], fun x => mItoa x.1⟩
theorem gPow : Tryd.prog.globalNamed "internal/strconv.uint64pow10" = some 2 := by kernel_rfl
theorem okhItoa {GX : GXT} (hg : gx GX 2 = some (Lib.pow10Tab.map fun z => .v (.int .u64 z))) : POk Tryd.prog (gx GX) iItoa := by
 refine ⟨by kernel_rfl, ?_⟩
 rintro ⟨n, ⟨⟩⟩ y hy
 have hy : mItoa n = some y := hy
 unfold mItoa at hy
 split at hy
 ·rename_i hb
  cases hy
  intro w F xs hF hG hW hxs
  obtain ⟨h1, h2⟩ := hxs
  have hl : xs.size = 1 := h1
  have h0 := h2 0 xs[0] (.v (.int .i64 n)) (Array.getElem?_eq_getElem _) rfl
  have e0 : xs[0] = .int .i64 n := by generalize xs[0] = q at h0; cases h0; rfl
  have ex : xs = #[.int .i64 n] := by
   apply Array.ext
   ·exact hl
   ·intro i a b; have : i = 0 := by omega
    subst this; exact e0
  rw [ex]
  refine pure_of hF (.v _) ((Tryd.strconv_Itoa n hb.1 hb.2 w (tab_of hF hG hW hg gPow)).mono ?_)
  rintro e w' ⟨he, k, os, hw⟩
  exact ⟨he, by rw [hw]; exact Lib.below_grow _ w (Nat.le_refl _) k os⟩
 ·cases hy
theorem one_of {Gl : Nat → Option (List AV)} {F : Addr → Option Value} {g : Nat} {x : Value} (hG : GlOk Gl F) (hg : Gl g = some [.v x]) : F ⟨g, 0, none⟩ = some x := by
 have hr := hG g _ hg
 cases hr with
 | lptr _ _ cv c1 c2 =>
  have d1 := (c1 0 _ rfl).1
  have d2 := c2 0 _ rfl
  have e : cv 0 = x := by generalize cv 0 = q at d2; cases d2; rfl
  rw [e] at d1
  exact d1
theorem two_strs {F : Addr → Option Value} {xs : Array Value} {a b : ByteArray} (hxs : RPL F xs [.v (.string a), .v (.string b)]) : xs = #[.string a, .string b] := by
 obtain ⟨h1, h2⟩ := hxs
 have hl : xs.size = 2 := h1
 have h0 := h2 0 xs[0] (.v (.string a)) (Array.getElem?_eq_getElem _) rfl
 have h1 := h2 1 xs[1] (.v (.string b)) (Array.getElem?_eq_getElem _) rfl
 have e0 : xs[0] = .string a := by generalize xs[0] = q at h0; cases h0; rfl
 have e1 : xs[1] = .string b := by generalize xs[1] = q at h1; cases h1; rfl
 apply Array.ext
 ·exact hl
 ·intro i a b; have : i = 0 ∨ i = 1 := by omega
  rcases this with rfl | rfl
  ·exact e0
  ·exact e1
def scutB (s sep : ByteArray) : ByteArray × ByteArray × Bool × Unit := (⟨(Lib.cut s.data.toList sep.data.toList).1.toArray⟩, ⟨(Lib.cut s.data.toList sep.data.toList).2.1.toArray⟩, (Lib.cut s.data.toList sep.data.toList).2.2, ())
def mCut (s sep : ByteArray) : Option (ByteArray × ByteArray × Bool × Unit) := if s.size ≤ 4000000000 then some (scutB s sep) else none
def iCut : PI := ⟨20, [.str, .str], [.str, .str, .bool], fun x => mCut x.1 x.2.1⟩
theorem rp_cut {F : Addr → Option Value} (a b : ByteArray) (c : Bool) : RP F (.tuple #[.string a, .string b, .bool c]) (.tup [.v (.string a), .v (.string b), .v (.bool c)]) := by
 refine RP.tup _ _ rfl fun j x a p q => ?_
 match j, p, q with
 | 0, p, q => cases p; cases q; exact .v _
 | 1, p, q => cases p; cases q; exact .v _
 | 2, p, q => cases p; cases q; exact .v _
theorem cut_core {GX : GXT} {m : Int} (hg : gx GX 1 = some [.v (.int .i64 m)]) (s sep : ByteArray) (y : ByteArray × ByteArray × Bool × Unit) (hy : mCut s sep = some y) : Pure Tryd.prog (gx GX) 20 [.v (.string s), .v (.string sep)] (.tup [.v (.string y.1), .v (.string y.2.1), .v (.bool y.2.2.1)]) := by
 unfold mCut at hy
 split at hy
 ·rename_i hb
  obtain rfl := Option.some.inj hy
  intro w F xs hF hG hW hxs
  rw [two_strs (a := s) (b := sep) hxs]
  refine pure_of hF (rp_cut _ _ _) ((Tryd.strings_Cut s sep m w (by omega) (hF _ _ (one_of hG hg))).mono ?_)
  rintro e w' ⟨he, n, hw⟩
  exact ⟨he, by rw [hw]; exact ((Below.refl _ _).trans ⟨rfl, rfl, rfl, Nat.le_refl _, fun _ _ => rfl⟩)⟩
 ·cases hy
theorem okhCut {GX : GXT} {m : Int} (hg : gx GX 1 = some [.v (.int .i64 m)]) : POk Tryd.prog (gx GX) iCut := ⟨by kernel_rfl, fun x y hy => cut_core hg x.1 x.2.1 y hy⟩
def hasB (s sub : ByteArray) : Bool := Lib.contains s.data.toList sub.data.toList
def mHas (s sub : ByteArray) : Option (Bool × Unit) := if s.size ≤ 4000000000 then some (hasB s sub, ()) else none
def iHas : PI := ⟨42, [.str, .str], [.bool], fun x => mHas x.1 x.2.1⟩
theorem has_core {GX : GXT} {m : Int} (hg : gx GX 1 = some [.v (.int .i64 m)]) (s sub : ByteArray) (y : Bool × Unit) (hy : mHas s sub = some y) : Pure Tryd.prog (gx GX) 42 [.v (.string s), .v (.string sub)] (.v (.bool y.1)) := by
 unfold mHas at hy
 split at hy
 ·rename_i hb
  obtain rfl := Option.some.inj hy
  intro w F xs hF hG hW hxs
  rw [two_strs (a := s) (b := sub) hxs]
  refine pure_of hF (.v _) ((Tryd.strings_Contains s sub m w (by omega) (hF _ _ (one_of hG hg))).mono ?_)
  rintro e w' ⟨he, rfl⟩
  exact ⟨he, Below.refl _ _⟩
 ·cases hy
theorem okhHas {GX : GXT} {m : Int} (hg : gx GX 1 = some [.v (.int .i64 m)]) : POk Tryd.prog (gx GX) iHas := ⟨by kernel_rfl, fun x y hy => has_core hg x.1 x.2.1 y hy⟩
def cntB (s : ByteArray) (c : UInt8) : Int := ((Lib.countByte s.data.toList c : Nat) : Int)
def mCount (s sub : ByteArray) : Option (Int × Unit) := if sub.data.size = 1 then some (cntB s (sub.data.getD 0 0), ()) else none
def iCount : PI := ⟨44, [.str, .str], [.int .i64], fun x => mCount x.1 x.2.1⟩
theorem one_byte {sub : ByteArray} (h : sub.data.size = 1) : sub = ⟨#[sub.data.getD 0 0]⟩ := by
 obtain ⟨d⟩ := sub
 simp only at h ⊢
 congr 1
 apply Array.ext
 ·simpa using h
 ·intro i a b
  have : i = 0 := by simp at b; omega
  subst this
  simp [Array.getD, a]
theorem count_core {GX : GXT} (s sub : ByteArray) (y : Int × Unit) (hy : mCount s sub = some y) : Pure Tryd.prog (gx GX) 44 [.v (.string s), .v (.string sub)] (.v (.int .i64 y.1)) := by
 unfold mCount at hy
 split at hy
 ·rename_i hb
  obtain rfl := Option.some.inj hy
  intro w F xs hF hG hW hxs
  rw [two_strs (a := s) (b := sub) hxs, one_byte hb]
  refine pure_of hF (.v _) ((Tryd.strings_Count_one s _ w).mono ?_)
  rintro e w' ⟨he, rfl⟩
  exact ⟨he, Below.refl _ _⟩
 ·cases hy
theorem okhCount {GX : GXT} : POk Tryd.prog (gx GX) iCount := ⟨by kernel_rfl, fun x y hy => count_core x.1 x.2.1 y hy⟩
end Abs
end Go.Proofs.YtfjhljjginlobaaDoor
end
section
namespace Go.Proofs.YtfjhljjginlobaaDoor
open Go.RowKit
theorem sizeB : (Tryd.prog.info? 59).map (·.size) = some 2 := by kernel_rfl
set_option maxRecDepth 100000 in
theorem copy_used (b : Nat) (w : World) (h0 : w.cell? ⟨b, 0, none⟩ = some (.pointer (some ⟨b, 0, none⟩))) :
  Calls Tryd.prog 62 #[.pointer (some ⟨b, 0, none⟩)] w fun e w' => e = .returned (.tuple #[]) ∧ w' = w := by
 obtain ⟨j, hj, _⟩ := Option.map_eq_some_iff.1 sizeB
 go_enter Tryd.func62, Tryd.ntmps62
 go_wp2
 rw [Lib.run_neq_ptr_same w _ Tryd.underlying57 hj]
 go_wp2
 go_end0
 exact ⟨rfl, rfl⟩
set_option maxRecDepth 100000 in
theorem copy_fresh (b T n : Nat) (w : World) (h0 : w.cell? ⟨b, 0, none⟩ = some (.pointer none)) (hsh : w.shape? b = some (T, n)) (hn : 0 < n) (hfz : w.frozen? ⟨b, 0, none⟩ = false) (hl : liesAt Tryd.prog Tryd.prog.depth T (n / Tryd.prog.cellsOf T) 0 59 1 = true) :
  Calls Tryd.prog 62 #[.pointer (some ⟨b, 0, none⟩)] w fun e w' => e = .returned (.tuple #[]) ∧ w' = w.setCell ⟨b, 0, none⟩ (.pointer (some ⟨b, 0, none⟩)) := by
 obtain ⟨j, hj, hjs⟩ := Option.map_eq_some_iff.1 sizeB
 go_enter Tryd.func62, Tryd.ntmps62
 go_wp2
 rw [Lib.run_to_unsafe w ⟨b, 0, none⟩ Tryd.underlying57 Tryd.underlying137 hj (by rw [hjs]; decide) hsh hn]
 simp only [Result.andThen]
 rw [Oper.upon_value]
 go_wp2
 rw [run_callFunc_extern Tryd.func72 (by kernel_rfl) (by kernel_rfl) (by kernel_rfl) (e := Extern.AbiNoEscape.same) (by kernel_rfl)]
 rw [Lib.run_noEscape]
 simp only [Result.andThen]
 rw [Oper.upon_value]
 go_wp2
 rw [Lib.run_from_unsafe w ⟨b, 0, none⟩ Tryd.underlying137 Tryd.underlying57 hj hsh hl]
 simp only [Result.andThen]
 rw [Oper.upon_value]
 go_wp2
 go_end0
 exact ⟨rfl, rfl⟩
theorem load_ints {P : Program} (w : World) : ∀ (l : List Int) (a : Addr) (acc : ByteArray), (∀ j x, l[j]? = some x → w.cell? (a.add j) = some (.int .u8 x)) →
  (loadBytes a acc l.length).run P w = .ok ⟨acc.data ++ (l.map fun n => UInt8.ofNat n.toNat).toArray⟩ w
 | [], a, acc, _ => by simp [loadBytes]
 | x :: l, a, acc, h => by
  have h0 : w.cell? a = some (.int .u8 x) := by
   have := h 0 x rfl
   simpa [Addr.add] using this
  have ih := load_ints (P := P) w l (a.add 1) (acc.push x.toNat.toUInt8) (fun j y hy => by
   have := h (j + 1) y (by simpa using hy)
   have e : (a.add 1).add j = a.add (j + 1) := by
    unfold Addr.add
    by_cases hj : j = 0
    ·subst hj; simp
    ·simp [hj]; omega
   rw [e]; exact this)
  simp only [List.length_cons, loadBytes, Sem.run_bind, run_load, h0, Result.andThen]
  rw [ih]
  congr 1
  apply ByteArray.ext
  simp [ByteArray.push]
theorem unsafe_ints {P : Program} (w : World) (pt it ty e : TypeId) (hp : P.underlying pt = some (.pointer e)) (hc : P.cellsOf e = 1) (g cells : Nat) (hsh : w.shape? g = some (e, cells)) (l : List Int) (h0 : l ≠ []) (hn : l.length ≤ cells) (h63 : l.length ≤ 9223372036854775807)
  (hcell : ∀ j x, l[j]? = some x → w.cell? ((⟨g, 0, none⟩ : Addr).add j) = some (.int .u8 x)) :
  (Builtin.unsafeString_ #[pt, it] ty #[.pointer (some ⟨g, 0, none⟩), .int .i64 l.length]).run P w = .ok (.string ⟨(l.map fun n => UInt8.ofNat n.toNat).toArray⟩) (w.freeze ⟨g, 0, none⟩ l.length) := by
 have hl : l.length ≠ 0 := by simpa using h0
 have hlb := load_ints (P := P) w l ⟨g, 0, none⟩ .empty hcell
 have hlies := Lib.liesAt_bytes (P := P) hc (cells / P.cellsOf e) l.length (by rw [hc]; simpa using hn)
 have h63' : ¬ (9223372036854775807 : Int) < (l.length : Int) := by omega
 have hdef : Builtin.unsafeString_ #[pt, it] ty #[.pointer (some ⟨g, 0, none⟩), .int .i64 l.length] =
   (do
    let n ← asInt (.int .i64 l.length)
    if n < 0 then runtimePanic (.error "unsafe.String: len out of range")
    if n > IntKind.i64.max then unsupported (.unsafePointer "String: a length above the largest int")
    if n = 0 then pure (.string .empty)
    else if ← variablesAt ⟨g, 0, none⟩ (← elemOf pt) n.toNat then do
     let s ← loadBytes ⟨g, 0, none⟩ .empty n.toNat
     freeze ⟨g, 0, none⟩ n.toNat
     pure (.string s)
    else unsupported (.unsafePointer "String: not so many bytes at ptr")) := rfl
 rw [hdef]
 have hmax : IntKind.i64.max = 9223372036854775807 := rfl
 have hneg : ¬ (l.length : Int) < 0 := by omega
 simp [asInt, asIntOf, hmax, h63', hneg, hl, variablesAt, hsh, elemOf, run_underlying hp, hlies, hlb]
theorem mixedB : Tryd.prog.follows .mixedOrders = true := by kernel_rfl
theorem cellsByte : Tryd.prog.cellsOf 5 = 1 := by kernel_rfl
theorem str_none (W : World) (q : Option Addr) : (Builtin.unsafeString_ #[92, 3] 9 #[.pointer q, .int .i64 0]).run Tryd.prog W = .ok (.string .empty) W := Lib.run_unsafeString_none W _ _ _ q
set_option maxHeartbeats 2000000 in
set_option maxRecDepth 100000 in
theorem str_nil (b c : Nat) (w : World) (h1 : w.cell? ⟨b, 1, none⟩ = some (.slice none 0 c)) :
  Calls Tryd.prog 18 #[.pointer (some ⟨b, 0, none⟩)] w fun e w' => e = .returned (.string ⟨#[]⟩) ∧ Below w.heap.size w w' := by
 have mixed := mixedB
 have hUS := str_none
 have c1 : w.drew.cell? ⟨b, 1, none⟩ = some (.slice none 0 c) := h1
 have hSD : (Builtin.unsafeSliceData_ #[40] 92 #[.slice none 0 c]).run Tryd.prog w.drew = .ok (.pointer none) w.drew := rfl
 go_enter Tryd.func18, Tryd.ntmps18
 go_wp2
 go_region_o
 all_goals (go_wp2; go_ret; exact ⟨rfl, Below.drew (Below.refl _ w)⟩)
set_option maxHeartbeats 2000000 in
set_option maxRecDepth 100000 in
theorem str_room (b g c : Nat) (w : World) (hc : c ≠ 0) (h1 : w.cell? ⟨b, 1, none⟩ = some (.slice (some ⟨g, 0, none⟩) 0 c)) :
  Calls Tryd.prog 18 #[.pointer (some ⟨b, 0, none⟩)] w fun e w' => e = .returned (.string ⟨#[]⟩) ∧ Below w.heap.size w w' := by
 have mixed := mixedB
 have hUS := str_none
 have c1 : w.drew.cell? ⟨b, 1, none⟩ = some (.slice (some ⟨g, 0, none⟩) 0 c) := h1
 have hSD : (Builtin.unsafeSliceData_ #[40] 92 #[.slice (some ⟨g, 0, none⟩) 0 c]).run Tryd.prog w.drew = .ok (.pointer (some ⟨g, 0, none⟩)) w.drew := Lib.run_unsafeSliceData_row _ _ _ _ _ _ hc
 clear hc
 go_enter Tryd.func18, Tryd.ntmps18
 go_wp2
 go_region_o
 all_goals (go_wp2; go_ret; exact ⟨rfl, Below.drew (Below.refl _ w)⟩)
set_option maxHeartbeats 2000000 in
set_option maxRecDepth 100000 in
theorem str_noroom (b g : Nat) (w : World) (hb : b < w.heap.size) (sh : TypeId × Nat) (hg : w.shape? g = some sh) (h1 : w.cell? ⟨b, 1, none⟩ = some (.slice (some ⟨g, 0, none⟩) 0 0)) :
  Calls Tryd.prog 18 #[.pointer (some ⟨b, 0, none⟩)] w fun e w' => e = .returned (.string ⟨#[]⟩) ∧ Below w.heap.size w w' := by
 have mixed := mixedB
 have hUS := str_none
 have c1 : w.drew.cell? ⟨b, 1, none⟩ = some (.slice (some ⟨g, 0, none⟩) 0 0) := h1
 have hSD : (Builtin.unsafeSliceData_ #[40] 92 #[.slice (some ⟨g, 0, none⟩) 0 0]).run Tryd.prog w.drew = .ok (.pointer (some ⟨w.drew.heap.size, 0, none⟩)) (w.drew.alloc (.view ⟨g, 0, none⟩ 5)) :=
  Lib.run_unsafeSliceData_zero w.drew _ _ 5 Tryd.underlying92 ⟨g, 0, none⟩ 0 sh hg
 have c2 : (w.drew.alloc (.view ⟨g, 0, none⟩ 5)).cell? ⟨b, 1, none⟩ = some (.slice (some ⟨g, 0, none⟩) 0 0) := by
  rw [World.cell?_alloc_lt _ _ _ hb]; exact c1
 have c3 : (w.alloc (.view ⟨g, 0, none⟩ 5)).drew.cell? ⟨b, 1, none⟩ = some (.slice (some ⟨g, 0, none⟩) 0 0) := c2
 go_enter Tryd.func18, Tryd.ntmps18
 go_wp2
 go_region_o
 all_goals (go_wp2; go_ret; exact ⟨rfl, (Below.drew (Below.refl _ w)).alloc (Nat.le_refl _) _⟩)
set_option maxHeartbeats 2000000 in
set_option maxRecDepth 100000 in
theorem str_some (b g c cells : Nat) (l : List Int) (w : World) (h0 : l ≠ []) (h1 : w.cell? ⟨b, 1, none⟩ = some (.slice (some ⟨g, 0, none⟩) l.length c)) (hc : l.length ≤ c) (hm : l.length ≤ 9223372036854775807) (hsh : w.shape? g = some (5, cells)) (hn : l.length ≤ cells)
  (hcell : ∀ j x, l[j]? = some x → w.cell? ((⟨g, 0, none⟩ : Addr).add j) = some (.int .u8 x)) :
  Calls Tryd.prog 18 #[.pointer (some ⟨b, 0, none⟩)] w fun e w' => e = .returned (.string ⟨(l.map fun n => UInt8.ofNat n.toNat).toArray⟩) ∧ w' = w.drew.freeze ⟨g, 0, none⟩ l.length := by
 have mixed := mixedB
 have hpos : 0 < l.length := List.length_pos_iff.2 h0
 have c1 : w.drew.cell? ⟨b, 1, none⟩ = some (.slice (some ⟨g, 0, none⟩) l.length c) := h1
 have hSD : (Builtin.unsafeSliceData_ #[40] 92 #[.slice (some ⟨g, 0, none⟩) l.length c]).run Tryd.prog w.drew = .ok (.pointer (some ⟨g, 0, none⟩)) w.drew := Lib.run_unsafeSliceData_row _ _ _ _ _ _ (by omega)
 have hUS : (Builtin.unsafeString_ #[92, 3] 9 #[.pointer (some ⟨g, 0, none⟩), .int .i64 l.length]).run Tryd.prog w.drew = .ok (.string ⟨(l.map fun n => UInt8.ofNat n.toNat).toArray⟩) (w.drew.freeze ⟨g, 0, none⟩ l.length) :=
  unsafe_ints w.drew 92 3 9 5 Tryd.underlying92 cellsByte g cells hsh l h0 hn hm hcell
 go_enter Tryd.func18, Tryd.ntmps18
 go_wp2
 go_region_o
 all_goals (go_wp2; go_ret; exact ⟨rfl, rfl⟩)
end Go.Proofs.YtfjhljjginlobaaDoor
end
section
namespace Go.Proofs.YtfjhljjginlobaaDoor
namespace Abs
open Go.RowKit
def shOb (tB : Nat) (cs : List SC) (fz : Bool) : List SO := [.box tB (.me 0 :: .row 1 :: cs), .row 5 (.int .u8) fz]
def shIn (tB : Nat) (cs : List SC) : Sh := ⟨1, [], [(0, .ptr 0 0 0)], shOb tB cs false⟩
def shCp (tB : Nat) (cs : List SC) : Sh := ⟨0, [], [], shOb tB cs false⟩
def shSt (tB : Nat) (cs : List SC) : Sh := ⟨1, [(0, .str)], [], shOb tB cs true⟩
def bytesX (cs : List SC) (x : Ty.denL (SC.tys cs [.list (.int .u8)])) : List Int := (embC cs [.list (.int .u8)] x).2.1
def iCopy (tB : Nat) (cs : List SC) : HI := ⟨62, shIn tB cs, shCp tB cs, fun x => some x⟩
def iStr (tB : Nat) (cs : List SC) : HI := ⟨18, shIn tB cs, shSt tB cs, fun x => some (bsI (bytesX cs x), x)⟩
section
variable {P : Program} {Gl : Nat → Option (List AV)} {F : Addr → Option Value} {own : List Ent} {B : Nat} {w0 : W0} {σ : St} {act : Act} {w : World}
theorem Inv.shut (h : Inv Gl F own B w0 σ act w) {w' : World} {id : Nat} {e : Ent} {o : AObj} {g : Nat} (he : own[id]? = some e) (ho : σ.h[id]? = some o) (hge : e.g = some g) (hfz : o.fz = o.es.length) (h0 : 0 < o.es.length) (h1 : w'.os = w.os) (h2 : w'.tape = w.tape) (h3 : w'.output = w.output) (hoth : ∀ k, k ≠ g → w'.heap[k]? = w.heap[k]?)
  (hg : ∃ cs ty fr fr', w.heap[g]? = some (.cells cs ty fr) ∧ w'.heap[g]? = some (.cells cs ty fr') ∧ w.heap.size = w'.heap.size) : Inv Gl F own B w0 σ act w' := by
 obtain ⟨cs, ty, fr, fr', e1, e2, e4⟩ := hg
 have hB : B ≤ g := h.base id e g he hge
 have hc : ∀ a, w'.cell? a = w.cell? a := fun a => by
  unfold World.cell?
  by_cases q : a.block = g
  ·rw [q, e1, e2]
  ·rw [hoth _ q]
 refine h.turn (h' := σ.h) (fun _ _ q => q) (Le.refl _) (fun a x q => (hc a).trans (h.sub a x q)) h.hl (fun id2 e' o' p q => ?_) h.inj ?_ h.base
 ·have k := h.objs id2 e' o' p q
  obtain ⟨k1, k2, k3, k4, k5, k6, k7, k8⟩ := k
  refine ⟨k1, k2, k3, k4, k5, k6, k7, ?_⟩
  cases hge2 : e'.g with
  | none => rw [hge2] at k8; exact k8
  | some g' =>
   rw [hge2] at k8
   obtain ⟨cs', ⟨fr1, a1, af⟩, a2, a3, a4⟩ := k8
   by_cases hgg : g' = g
   ·subst hgg
    rw [e1] at a1; cases a1
    have hid := h.inj id2 id e' e g' p he hge2 hge
    subst hid
    have q : σ.h[id2]? = some o' := q
    rw [ho] at q; cases q
    exact ⟨cs, ⟨fr', e2, .inr ⟨hfz, h0⟩⟩, a2, a3, a4⟩
   ·exact ⟨cs', ⟨fr1, by rw [hoth _ hgg]; exact a1, af⟩, a2, a3, a4⟩
 ·exact ⟨h1.trans h.below.os, h2.trans h.below.tape, h3.trans h.below.output, by rw [← e4]; exact h.below.size, fun k hk => by rw [hoth k (by omega)]; exact h.below.block k hk⟩
theorem Inv.beyond (h : Inv Gl F own B w0 σ act w) {w' : World} (hb : Below w.heap.size w w') : Inv Gl F own B w0 σ act w' :=
 h.call (fun _ _ q => q) (fun ad y q => by rw [World.cell?_of_block (w := w) (hb.block _ (h.F_lt q))]; exact h.sub ad y q) (fun _ _ q => .inl q) hb
end
theorem embC_len : ∀ (cs : List SC) (r : List Ty) (x : Ty.denL (SC.tys cs r)), (embC cs r x).1.length = cs.length := by
 intro cs
 induction cs with
 | nil => intro r x; rfl
 | cons c cs ih =>
  intro r x
  cases c <;> exact congrArg Nat.succ (ih r _)
theorem found {Gl : Nat → Option (List AV)} {tB : Nat} {cs : List SC} {x : Ty.denL (SC.tys cs [.list (.int .u8)])} {ρ : List Nat} {av : List AV} {H : List AObj} (hS : Sim ρ (emb (shIn tB cs) x) ⟨av, H⟩)
  {F : Addr → Option Value} {own : List Ent} {B : Nat} {w0 : W0} {t : List AV} {act : Act} {w : World} {xs : Array Value} (hI : Inv Gl F own B w0 ⟨t, H⟩ act w) (hxs : RL F own xs av) :
  ∃ (O0 O1 : AObj) (E0 E1 : Ent) (g : Nat) (c0 c1 : AV) (rest : List AV) (cur : Array Value) (fr : Nat × Nat) (y0 y1 : Value),
   H[ρ.getD 0 0]? = some O0 ∧ H[ρ.getD 1 0]? = some O1 ∧ own[ρ.getD 0 0]? = some E0 ∧ own[ρ.getD 1 0]? = some E1 ∧ E0.g = some g ∧ xs = #[.pointer (some ⟨g, 0, none⟩)] ∧
   O0.ty = tB ∧ O0.sz = 2 + cs.length ∧ O0.pr = false ∧ O0.fz = 0 ∧ O0.es = [.agg (c0 :: c1 :: rest)] ∧ E0.sz = O0.sz ∧
   w.heap[g]? = some (.cells cur tB fr) ∧ NoFz fr cur.size ∧ cur.size = 2 + cs.length ∧ cur[0]? = some y0 ∧ cur[1]? = some y1 ∧
   ((c0 = .v (.pointer none) ∧ y0 = .pointer none) ∨ y0 = .pointer (some ⟨g, 0, none⟩)) ∧ R F own y1 c1 ∧ c1 = .row (ρ.getD 1 0) (bytesX cs x).length 1 0 (bytesX cs x).length ∧
   ObjR F own w E0 O0 ∧ ObjR F own w E1 O1 ∧ All2 (V1 ρ (emb (shIn tB cs) x).h) (.me 0 :: .row 1 :: (embC cs [.list (.int .u8)] x).1) (c0 :: c1 :: rest) := by
 have ht : All2 (VT ρ (emb (shIn tB cs) x).h) [.ptr 0 0 0] av := hS.t
 obtain ⟨a, av2, rfl, ha, ht2⟩ := ht.cons_left
 obtain rfl := ht2.nil_left
 obtain ⟨o, ho, rfl⟩ : ∃ o : XO, (emb (shIn tB cs) x).h[0]? = some o ∧ a = .ptr (ρ.getD 0 0) o.len 0 0 := ha
 obtain rfl : o = .box tB (.me 0 :: .row 1 :: (embC cs [.list (.int .u8)] x).1) := (Option.some.inj ho).symm
 obtain ⟨O0, hO0, b1, b2, b3, b4, e, hes, hc⟩ := hS.h.hr 0 _ rfl
 obtain ⟨O1, hO1, r1, r2, r3, r4, r5⟩ := hS.h.hr 1 (.row 5 (.int .u8) false (bytesX cs x)) rfl
 obtain ⟨E0, hE0, hR0⟩ := hI.obj_own hO0
 obtain ⟨E1, hE1, hR1⟩ := hI.obj_own hO1
 have hsz : xs.size = 1 := hxs.1
 have hx0 := hxs.2 0 xs[0] _ (Array.getElem?_eq_getElem (by omega)) rfl
 obtain ⟨e', he', hG, hst, hx⟩ := hx0.ptr_inv
 rw [hE0] at he'; cases he'
 have hlen0 : O0.es.length = 1 := by rw [hes]; rfl
 obtain ⟨g, hg, ex⟩ := hx (by rw [hR0.1, hlen0]; rfl)
 obtain ⟨cur, fr, hblk, hnf, hcsz, hcell⟩ := hR0.blk hg (.inl b4)
 have hcap : E0.cap = 1 := by rw [hR0.2.2.2.2.1.2 b3, hlen0]
 have hcl := hc.1
 obtain ⟨c0, cr, hcs0, hv0, hc2⟩ := hc.cons_left
 obtain ⟨c1, rest, rfl, hv1, hc3⟩ := hc2.cons_left
 have hagg : e = .agg (c0 :: c1 :: rest) := by
  cases e with
  | agg l => exact congrArg AV.agg hcs0
  | _ => simp [AV.cells] at hcs0
 subst hagg
 have hel : (embC cs [.list (.int .u8)] x).1.length = cs.length := by
  exact embC_len cs _ x
 have hsz0 : O0.sz = 2 + cs.length := by
  have b2' : O0.sz = (XV.me 0 :: XV.row 1 :: (embC cs [.list (.int .u8)] x).1).length := b2
  rw [b2', List.length_cons, List.length_cons, hel]; omega
 obtain ⟨y0, d1, _, d3⟩ := hcell 0 0 _ c0 (by rw [hes]; rfl) rfl
 obtain ⟨y1, f1, _, f3⟩ := hcell 0 1 _ c1 (by rw [hes]; rfl) rfl
 simp only [Nat.zero_mul, Nat.zero_add] at d1 f1
 have d3 := d3.r
 refine ⟨O0, O1, E0, E1, g, c0, c1, rest, cur, fr, y0, y1, hO0, hO1, hE0, hE1, hg, ?_, b1, hsz0, b3, b4, hes, hR0.2.1, by rw [← b1]; exact hblk, hnf, by rw [hcsz, hcap, hsz0]; omega, d1, f1, ?_, f3.r, ?_, hR0, hR1, .cons hv0 (.cons hv1 hc3)⟩
 ·apply Array.ext
  ·rw [hsz]; rfl
  ·intro i h1 h2
   have : i = 0 := by omega
   subst this
   rw [ex]; simp
 ·rcases hv0 with rfl | ⟨o, ho2, rfl⟩
  ·exact .inl ⟨rfl, d3.v_inv⟩
  ·obtain rfl : o = .box tB (.me 0 :: .row 1 :: (embC cs [.list (.int .u8)] x).1) := (Option.some.inj ho2).symm
   obtain ⟨e2, he2, _, _, hx2⟩ := d3.ptr_inv
   rw [hE0] at he2; cases he2
   obtain ⟨g2, hg2, ey⟩ := hx2 (by rw [hR0.1, hlen0]; rfl)
   rw [hg] at hg2; cases hg2
   refine .inr ?_
   rw [ey]; simp
 ·obtain ⟨ty, T, fz, es, he1, rfl⟩ := hv1
  have q := Option.some.inj (show some (XO.row 5 (.int .u8) false (bytesX cs x)) = some (.row ty T fz es) from he1)
  cases q
  rfl
theorem okhCopy {GX : GXT} (tB : Nat) (cs : List SC) (hl : liesAt Tryd.prog Tryd.prog.depth tB ((2 + cs.length) / Tryd.prog.cellsOf tB) 0 59 1 = true) : HOk Tryd.prog (gx GX) (iCopy tB cs) := by
 refine ⟨by kernel_rfl, fun x y hy H ρ av hS => ?_⟩
 obtain rfl : x = y := Option.some.inj hy
 intro F own B w0 t act w xs hI hxs
 obtain ⟨O0, O1, E0, E1, g, c0, c1, rest, cur, fr, y0, y1, hO0, hO1, hE0, hE1, hg, rfl, b1, b2, b3, b4, hes, hsz, hblk, hnf, hcs, d0, d1, hy0, hR1, hc1, hr0, hr1, hall⟩ := found hS hI hxs
 have hcell0 : w.cell? ⟨g, 0, none⟩ = some y0 := by rw [Lib.cell_of_heap hblk]; exact d0
 rcases hy0 with ⟨rfl, rfl⟩ | rfl
 ·refine (copy_fresh g tB (2 + cs.length) w hcell0 (by simp [World.shape?, hblk, hcs]) (by omega) ?_ hl).mono ?_
  ·have := hnf 0 (by omega)
   simp only [World.frozen?, hblk]
   simp
   intro q
   by_cases r : 0 < fr.2
   ·exact absurd ⟨by omega, r⟩ this
   ·omega
  ·rintro e w' ⟨rfl, rfl⟩
   rw [setCell_eq_setRow w g 0 cur tB fr _ hblk]
   have hsz0 : cur.size = E0.cap * O0.sz := by
    have hcap : E0.cap = 1 := by rw [hr0.2.2.2.2.1.2 b3, hes]; rfl
    rw [hcs, hcap, b2]; omega
   have hI2 := hI.set (ob' := { O0 with es := [.agg (.ptr (ρ.getD 0 0) 1 0 0 :: c1 :: rest)] }) hE0 hO0 hg (cur.setIfInBounds 0 (.pointer (some ⟨g, 0, none⟩))) rfl rfl rfl rfl (by rw [hes]; rfl) (fun i z hz => by
     have hz : ([AV.agg (.ptr (ρ.getD 0 0) 1 0 0 :: c1 :: rest)] : List AV)[i]? = some z := hz
     match i, hz with
     | 0, hz =>
      cases hz
      have := hr0.2.2.2.2.2.2.1 0 _ (by rw [hes]; rfl)
      exact this)
    (by rw [Array.size_setIfInBounds]; exact hsz0) (fun j z hj hz => by rw [b4] at hj; omega) (fun i j z a hz hb => by
     have hz : ([AV.agg (.ptr (ρ.getD 0 0) 1 0 0 :: c1 :: rest)] : List AV)[i]? = some z := hz
     match i, hz with
     | 0, hz =>
      cases hz
      obtain ⟨cur2, fr2, q1, q2, q3, hcell⟩ := hr0.blk hg (.inl b4)
      rw [b1, hblk] at q1
      obtain ⟨rfl, _⟩ : cur = cur2 ∧ fr = fr2 := by cases q1; exact ⟨rfl, rfl⟩
      cases j with
      | zero =>
       cases hb
       refine ⟨.pointer (some ⟨g, 0, none⟩), ?_, rfl, ?_⟩
       ·rw [Nat.zero_mul, Array.getElem?_setIfInBounds, if_pos rfl, if_pos (by omega)]
       ·unfold RC
        rw [b3, if_neg (by simp)]
        exact .ptr _ _ _ _ _ E0 hE0 (by rw [hr0.1, hes]; exact Nat.le_refl _) ⟨_, rfl⟩ (fun _ => ⟨g, hg, by simp⟩)
      | succ j =>
       obtain ⟨v, a1, a2, a3⟩ := hcell 0 (j + 1) (.agg (.v (.pointer none) :: c1 :: rest)) a (by rw [hes]; rfl) hb
       refine ⟨v, ?_, a2, a3⟩
       rw [Array.getElem?_setIfInBounds, if_neg (by omega)]; exact a1)
   have he : (emb (shIn tB cs) x).h[0]? = some (.box tB (.me 0 :: .row 1 :: (embC cs [.list (.int .u8)] x).1)) := rfl
   have hlen : (XO.box tB (.me 0 :: .row 1 :: (embC cs [.list (.int .u8)] x).1)).len = 1 := rfl
   have u := Upd.set hS.h (o' := .box tB (.me 0 :: .row 1 :: (embC cs [.list (.int .u8)] x).1)) (O' := { O0 with es := [.agg (.ptr (ρ.getD 0 0) 1 0 0 :: c1 :: rest)] }) he (same2.refl _) (by
    obtain ⟨O0', hO0', p1, p2, p3, p4, _⟩ := hS.h.hr 0 _ he
    rw [hO0] at hO0'; cases hO0'
    exact ⟨p1, p2, p3, p4, _, rfl, .cons (.inr ⟨_, he, rfl⟩) hall.tail⟩)
   refine ⟨.tuple #[], .tup [], _, F, own, rfl, hI2, .pure (.tup #[] [] rfl (fun j x a p _ => by simp at p)), ρ, [], ⟨.nil, ?_⟩, rfl, (Frm.refl H ρ).upd hS.h.rl u⟩
   exact u.hs
 ·refine (copy_used g w hcell0).mono ?_
  rintro e w' ⟨rfl, rfl⟩
  exact ⟨.tuple #[], .tup [], H, F, own, rfl, hI, .pure (.tup #[] [] rfl (fun j x a p _ => by simp at p)), ρ, [], ⟨.nil, hS.h⟩, rfl, Frm.refl H ρ⟩
end Abs
end Go.Proofs.YtfjhljjginlobaaDoor
end
section
namespace Go.Proofs.YtfjhljjginlobaaDoor
namespace Abs
open Go.RowKit
theorem fzw_same (w : World) (g n : Nat) {cs : Array Value} {ty : TypeId} {fr : Nat × Nat} (h : w.heap[g]? = some (.cells cs ty fr)) : ∃ fr', (w.freeze ⟨g, 0, none⟩ n).heap[g]? = some (.cells cs ty fr') := by
 unfold World.freeze
 by_cases hn : n = 0
 ·rw [if_pos hn]; exact ⟨fr, h⟩
 ·rw [if_neg hn]
  obtain ⟨lo, hi⟩ := fr
  refine ⟨if lo == hi then (0, 0 + n) else (min lo 0, max hi (0 + n)), ?_⟩
  show (w.heap.modify g _)[g]? = _
  rw [Array.getElem?_modify, if_pos rfl, h]; rfl
theorem fzw_other (w : World) (g n k : Nat) (hk : k ≠ g) : (w.freeze ⟨g, 0, none⟩ n).heap[k]? = w.heap[k]? := by
 unfold World.freeze
 by_cases hn : n = 0
 ·rw [if_pos hn]
 ·rw [if_neg hn]
  show (w.heap.modify g _)[k]? = _
  rw [Array.getElem?_modify, if_neg (fun q => hk q.symm)]
theorem fzw_rest (w : World) (g n : Nat) : (w.freeze ⟨g, 0, none⟩ n).os = w.os ∧ (w.freeze ⟨g, 0, none⟩ n).tape = w.tape ∧ (w.freeze ⟨g, 0, none⟩ n).output = w.output ∧ (w.freeze ⟨g, 0, none⟩ n).heap.size = w.heap.size := by
 unfold World.freeze
 by_cases hn : n = 0
 ·rw [if_pos hn]; exact ⟨rfl, rfl, rfl, rfl⟩
 ·rw [if_neg hn]; exact ⟨rfl, rfl, rfl, Array.size_modify⟩
theorem okhStr {GX : GXT} (tB : Nat) (cs : List SC) : HOk Tryd.prog (gx GX) (iStr tB cs) := by
 refine ⟨by kernel_rfl, fun x y hy H ρ av hS => ?_⟩
 obtain rfl : (bsI (bytesX cs x), x) = y := Option.some.inj hy
 intro F own B w0 t act w xs hI hxs
 obtain ⟨O0, O1, E0, E1, g, c0, c1, rest, cur, fr, y0, y1, hO0, hO1, hE0, hE1, hg, rfl, b1, b2, b3, b4, hes, hsz, hblk, hnf, hcs, d0, d1, hy0, hR1, rfl, hr0, hr1, hall⟩ := found hS hI hxs
 have hcell1 : w.cell? ⟨g, 1, none⟩ = some y1 := by rw [Lib.cell_of_heap hblk]; exact d1
 obtain ⟨e1, he1, hG, hst, hx⟩ := hR1.row_inv
 rw [hE1] at he1; cases he1
 have hrow : (emb (shIn tB cs) x).h[1]? = some (.row 5 (.int .u8) false (bytesX cs x)) := rfl
 obtain ⟨O1', hO1', r1, r2, r3, r4, r5⟩ := hS.h.hr 1 _ hrow
 rw [hO1] at hO1'; cases hO1'
 have r6 : All2 Wp O1.es (List.map (fun z : Int => AV.v (.int .u8 z)) (bytesX cs x)) := r5
 have hlen1 : O1.es.length = (bytesX cs x).length := by have := r6.1; rw [List.length_map] at this; exact this
 obtain ⟨x1, x2, x3⟩ := hx (by rw [hr1.1, hlen1])
 obtain ⟨cp, q1, q2⟩ := x3 (.inr rfl)
 obtain ⟨a0, cap0, s1, s2, _⟩ := hst
 have hcp : (bytesX cs x).length ≤ cp := by rw [s1] at q2; cases q2; exact s2
 have hes1 : (emb (shSt tB cs) (bsI (bytesX cs x), x)).h = (emb (shIn tB cs) x).h.set 1 (.row 5 (.int .u8) true (bytesX cs x)) := rfl
 have fin : ∀ (O' : AObj) (s : ByteArray), O'.ty = O1.ty → O'.sz = O1.sz → O'.pr = O1.pr → O'.es = O1.es → O'.fz = O1.es.length → s = bsI (bytesX cs x) →
   ∃ ρ' rs, Sim ρ' (emb (shSt tB cs) (bsI (bytesX cs x), x)) ⟨rs, H.set (ρ.getD 1 0) O'⟩ ∧ oneT rs = .v (.string s) ∧ Frm H ρ ρ' (H.set (ρ.getD 1 0) O') := by
  intro O' s p1 p2 p3 p4 p5 p6
  have u := Upd.set hS.h (o' := .row 5 (.int .u8) true (bytesX cs x)) (O' := O') hrow ⟨rfl, rfl, rfl⟩ ⟨by rw [p1]; exact r1, by rw [p2]; exact r2, by rw [p3]; exact r3, by rw [p5, hlen1]; rfl, by rw [p4]; exact r5⟩
  refine ⟨ρ, [.v (.string s)], ⟨.cons ?_ .nil, by rw [hes1]; exact u.hs⟩, rfl, (Frm.refl H ρ).upd hS.h.rl u⟩
  show Wp (.v (.string s)) (Ty.enc .str (bsI (bytesX cs x)))
  rw [p6]; exact .refl _
 have hset : H.set (ρ.getD 1 0) O1 = H := by
  apply List.ext_getElem?
  intro k
  by_cases hk : ρ.getD 1 0 = k
  ·subst hk; rw [List.getElem?_set_self (List.getElem?_eq_some_iff.1 hO1).1]; exact hO1.symm
  ·rw [List.getElem?_set_ne hk]
 have fin0 : bytesX cs x = [] → ∀ (e : Ending) (w' : World), (e = .returned (.string ⟨#[]⟩) ∧ Below w.heap.size w w') → ∃ v res h' F' own', e = .returned v ∧ Inv (gx GX) F' own' B w0 ⟨t, h'⟩ act w' ∧ R F' own' v res ∧ ∃ ρ' rs, Sim ρ' (emb (shSt tB cs) (bsI (bytesX cs x), x)) ⟨rs, h'⟩ ∧ oneT rs = res ∧ Frm H ρ ρ' h' := by
  rintro hb e w' ⟨rfl, hbel⟩
  have h0 : O1.es.length = 0 := by rw [hlen1, hb]; rfl
  obtain ⟨ρ', rs, f1, f2, f3⟩ := fin O1 ⟨#[]⟩ rfl rfl rfl rfl (by rw [r4]; simp [h0]) (by rw [hb]; rfl)
  rw [hset] at f1 f3
  exact ⟨_, .v (.string ⟨#[]⟩), H, F, own, rfl, hI.beyond hbel, .pure (.v _), ρ', rs, f1, f2, f3⟩
 by_cases hb : bytesX cs x = []
 ·have hl0 : (bytesX cs x).length = 0 := by rw [hb]; rfl
  cases hg1 : E1.g with
  | none =>
   rw [hg1, hl0] at q2
   exact (str_nil g cp w (by rw [hcell1, q2]; rfl)).mono (fin0 hb)
  | some g1 =>
   rw [hg1, hl0] at q2
   have q2 : y1 = .slice (some ⟨g1, 0, none⟩) 0 cp := by rw [q2]; simp
   by_cases hc0 : cp = 0
   ·subst hc0
    obtain ⟨cur1, fr1, k1, _⟩ := hr1.blkF hg1
    exact (str_noroom g g1 w (World.block_lt_of_cell? w _ hcell1) (O1.ty, cur1.size) (by simp [World.shape?, k1]) (by rw [hcell1, q2])).mono (fin0 hb)
   ·exact (str_room g g1 cp w hc0 (by rw [hcell1, q2])).mono (fin0 hb)
 ·have hpos : 0 < (bytesX cs x).length := List.length_pos_iff.2 hb
  cases hg1 : E1.g with
  | none =>
   have := hr1.2.2.2.2.2.2.2
   rw [hg1] at this
   have : E1.cap = 0 := this
   omega
  | some g1 =>
   rw [hg1] at q2
   have q2 : y1 = .slice (some ⟨g1, 0, none⟩) (bytesX cs x).length cp := by rw [q2]; simp
   obtain ⟨cur1, fr1, k1, _, k2, k3⟩ := hr1.blkF hg1
   have hsz1 : O1.sz = 1 := r2
   have hcap := hr1.2.2.2.2.1.1
   have hGc := hr1.2.2.2.1
   rw [hr1.1, hlen1] at hGc
   have hmx : (bytesX cs x).length ≤ 9223372036854775807 := by unfold maxLen at hcap; omega
   refine (str_some g g1 cp cur1.size (bytesX cs x) w hb (by rw [hcell1, q2]) hcp hmx (by simp [World.shape?, k1, r1]) (by rw [k2, hsz1]; omega) ?_).mono ?_
   ·intro j z hz
    have hj : j < (bytesX cs x).length := (List.getElem?_eq_some_iff.1 hz).1
    have ha := List.getElem?_eq_getElem (show j < O1.es.length by omega)
    have hw := r6.2 j O1.es[j] (.v (.int .u8 z)) ha (by rw [List.getElem?_map, hz]; rfl)
    have hv : O1.es[j] = .v (.int .u8 z) := hw.v_inv
    rw [hv] at ha
    obtain ⟨y, a1, _, a3⟩ := k3 j 0 _ (.v (.int .u8 z)) ha rfl
    have hy : y = .int .u8 z := a3.r.v_inv
    rw [hsz1, Nat.mul_one, Nat.add_zero, hy] at a1
    have ead : (Addr.add ⟨g1, 0, none⟩ j : Addr) = ⟨g1, j, none⟩ := by simp [Addr.add]; intro h; exact h.symm
    rw [ead, Lib.cell_of_heap k1]; exact a1
   ·rintro e w' ⟨rfl, rfl⟩
    obtain ⟨F', hF, hI2, _⟩ := hI.freeze1 hO1
    have hI3 := hI2.same (w' := w.drew) rfl rfl rfl rfl
    obtain ⟨z1, z2, z3, z4⟩ := fzw_rest w.drew g1 (bytesX cs x).length
    have hI4 := hI3.shut (w' := w.drew.freeze ⟨g1, 0, none⟩ (bytesX cs x).length) hE1 (by
     show (H.set (ρ.getD 1 0) _)[ρ.getD 1 0]? = _
     rw [List.getElem?_set_self (List.getElem?_eq_some_iff.1 hO1).1]) hg1 rfl (by show 0 < O1.es.length; omega) z1 z2 z3 (fun k hk => fzw_other _ _ _ _ hk) (by
     have k1 : w.drew.heap[g1]? = some (.cells cur1 O1.ty fr1) := k1
     obtain ⟨fr', hf⟩ := fzw_same w.drew g1 (bytesX cs x).length k1
     exact ⟨cur1, O1.ty, fr1, fr', k1, hf, z4.symm⟩)
    obtain ⟨ρ', rs, f1, f2, f3⟩ := fin { O1 with fz := O1.es.length } ⟨((bytesX cs x).map fun n => UInt8.ofNat n.toNat).toArray⟩ rfl rfl rfl rfl rfl rfl
    exact ⟨_, _, _, F', own, rfl, hI4, .pure (.v _), ρ', rs, f1, f2, f3⟩
end Abs
end Go.Proofs.YtfjhljjginlobaaDoor
end
