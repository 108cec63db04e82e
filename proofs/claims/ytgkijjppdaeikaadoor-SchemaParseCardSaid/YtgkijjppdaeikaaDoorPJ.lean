/- More library functions as the typed machine takes them: strings.Cut, strings.TrimPrefix; schema.read. -/
import Derived.Test.YtgkijjppdaeikaaDoorPI
import Derived.Test.YtgkijjppdaeikaaDoorR0
import Derived.Test.YtgkijjppdaeikaaDoorIdx
namespace Go.Proofs.YtgkijjppdaeikaaDoor
namespace Abs
open Go.RowKit
set_option linter.unusedVariables false
set_option linter.unusedSimpArgs false
theorem one_of {Gl : Nat → Option (List AV)} {F : Addr → Option Value} {g : Nat} {x : Value} (hG : GlOk Gl F) (hg : Gl g = some [.v x]) : F ⟨g, 0, none⟩ = some x := by
  have hr := hG g _ hg
  cases hr with
  | lptr _ _ cv c1 c2 =>
    have d1 := (c1 0 _ rfl).1
    have d2 := c2 0 _ rfl
    have e : cv 0 = x := by generalize cv 0 = q at d2; cases d2; rfl
    rw [e] at d1
    exact d1
theorem below_F {F : Addr → Option Value} {w w' : World} (hF : ∀ a x, F a = some x → w.cell? a = some x) (hb : Below w.heap.size w w') : ∀ a x, F a = some x → w'.cell? a = some x := fun ad y q => by
  rw [World.cell?_of_block (w := w) (hb.block _ (World.block_lt_of_cell? w ad (hF ad y q)))]
  exact hF ad y q
theorem two_strs {F : Addr → Option Value} {xs : Array Value} {a b : ByteArray} (hxs : RPL F xs [.v (.string a), .v (.string b)]) : xs = #[.string a, .string b] := by
  obtain ⟨h1, h2⟩ := hxs
  have hl : xs.size = 2 := h1
  have h0 := h2 0 xs[0] (.v (.string a)) (Array.getElem?_eq_getElem _) rfl
  have h1 := h2 1 xs[1] (.v (.string b)) (Array.getElem?_eq_getElem _) rfl
  have e0 : xs[0] = .string a := by generalize xs[0] = q at h0; cases h0; rfl
  have e1 : xs[1] = .string b := by generalize xs[1] = q at h1; cases h1; rfl
  apply Array.ext
  · exact hl
  · intro i a b; have : i = 0 ∨ i = 1 := by omega
    rcases this with rfl | rfl
    · exact e0
    · exact e1
/-- strings.Cut -/
def scutB (s sep : ByteArray) : ByteArray × ByteArray × Bool × Unit := (⟨(Lib.cut s.data.toList sep.data.toList).1.toArray⟩, ⟨(Lib.cut s.data.toList sep.data.toList).2.1.toArray⟩, (Lib.cut s.data.toList sep.data.toList).2.2, ())
def mCut (s sep : ByteArray) : Option (ByteArray × ByteArray × Bool × Unit) := if s.size ≤ 4000000000 then some (scutB s sep) else none
def iCut : PI := ⟨36, [.str, .str], [.str, .str, .bool], fun x => mCut x.1 x.2.1⟩
theorem rp_cut {F : Addr → Option Value} (a b : ByteArray) (c : Bool) : RP F (.tuple #[.string a, .string b, .bool c]) (.tup [.v (.string a), .v (.string b), .v (.bool c)]) := by
  refine RP.tup _ _ rfl fun j x a p q => ?_
  match j, p, q with
  | 0, p, q => cases p; cases q; exact .v _
  | 1, p, q => cases p; cases q; exact .v _
  | 2, p, q => cases p; cases q; exact .v _
theorem cut_core {GX : GXT} {m : Int} (hg : gx GX 0 = some [.v (.int .i64 m)]) (s sep : ByteArray) (y : ByteArray × ByteArray × Bool × Unit) (hy : mCut s sep = some y) : Pure Tryd.prog (gx GX) 36 [.v (.string s), .v (.string sep)] (.tup [.v (.string y.1), .v (.string y.2.1), .v (.bool y.2.2.1)]) := by
  unfold mCut at hy
  split at hy
  · rename_i hb
    obtain rfl := Option.some.inj hy
    intro w F xs hF hG hW hxs
    rw [two_strs (a := s) (b := sep) hxs]
    refine pure_of hF (rp_cut _ _ _) ((Tryd.strings_Cut s sep m w (by omega) (hF _ _ (one_of hG hg))).mono ?_)
    rintro e w' ⟨he, n, hw⟩
    exact ⟨he, by rw [hw]; exact ((Below.refl _ _).trans ⟨rfl, rfl, rfl, Nat.le_refl _, fun _ _ => rfl⟩)⟩
  · cases hy
theorem okhCut {GX : GXT} {m : Int} (hg : gx GX 0 = some [.v (.int .i64 m)]) : POk Tryd.prog (gx GX) iCut := ⟨by kernel_rfl, fun x y hy => cut_core hg x.1 x.2.1 y hy⟩
/-- strings.TrimPrefix -/
def trimB (s p : ByteArray) : ByteArray := ⟨(Lib.trimPrefix s.data.toList p.data.toList).toArray⟩
def iTrim : PI := ⟨38, [.str, .str], [.str], fun x => some (trimB x.1 x.2.1, ())⟩
def mTrim (s p : ByteArray) : Option (ByteArray × Unit) := some (trimB s p, ())
theorem okhTrim {GX : GXT} : POk Tryd.prog (gx GX) iTrim := by
  refine ⟨by kernel_rfl, ?_⟩
  rintro ⟨s, p, ⟨⟩⟩ y hy
  cases hy
  intro w F xs hF hG hW hxs
  rw [two_strs (a := s) (b := p) hxs]
  refine pure_of hF (.v _) ((Tryd.strings_TrimPrefix s p w).mono ?_)
  rintro e w' ⟨he, hw⟩
  exact ⟨he, hw ▸ Below.refl _ _⟩
/-- schema.read -/
def numB (s : ByteArray) : Int × Bool := match Lib.atoiAll s.data.toList with
  | .ok v => (v, true)
  | .range => (Lib.atoiSat s.data.toList, false)
  | _ => (0, false)
noncomputable def mRead (a : ByteArray × Int × List ByteArray × Int × Int × Unit) (s : ByteArray) : Option (Int × Bool × Unit) :=
  if a.2.1 = 1 then (Idx.m54 a.2.2.1 s).map (fun y => (y.1, decide (0 ≤ y.1), ()))
  else if a.2.1 = 2 then (if s.size ≤ 4000000000 then some ((numB s).1, (numB s).2, ()) else none)
  else if (s.toList == [121, 101, 115]) = true then some (1, true, ()) else some (0, s.toList == [110, 111], ())
noncomputable def iRead : PI := ⟨37, [.tup [.str, .int .i64, .list .str, .int .i64, .int .i64], .str], [.int .i64, .bool], fun (x : (ByteArray × Int × List ByteArray × Int × Int × Unit) × ByteArray × Unit) => mRead x.1 x.2.1⟩
theorem idx_none (g : Nat) : gx Idx.gtab g = none := by unfold gx; split <;> rfl
theorem rp_two {F : Addr → Option Value} (n : Int) (b : Bool) : RP F (.tuple #[.int .i64 n, .bool b]) (.tup [.v (.int .i64 n), .v (.bool b)]) := by
  refine RP.tup _ _ rfl fun j x a p q => ?_
  match j, p, q with
  | 0, p, q => cases p; cases q; exact .v _
  | 1, p, q => cases p; cases q; exact .v _
theorem read_core {GX : GXT} {t1 t2 : Nat} {p1 p2 : Addr} (g1 : gx GX 1 = some [.v (.iface t1 (.pointer (some p1)))]) (g2 : gx GX 2 = some [.v (.iface t2 (.pointer (some p2)))]) (nm : ByteArray) (k : Int) (ws : List ByteArray) (lo hi : Int) (s : ByteArray) (y : Int × Bool × Unit) (hy : mRead (nm, k, ws, lo, hi, ()) s = some y) : Pure Tryd.prog (gx GX) 37 [.agg [.v (.string nm), .v (.int .i64 k), .list 1 (ws.map fun s => .v (.string s)), .v (.int .i64 lo), .v (.int .i64 hi)], .v (.string s)] (.tup [.v (.int .i64 y.1), .v (.bool y.2.1)]) := by
  intro w F xs hF hG hW hxs
  obtain ⟨q1, q2⟩ := hxs
  have hl : xs.size = 2 := q1
  have h0 := q2 0 xs[0] (.agg [.v (.string nm), .v (.int .i64 k), .list 1 (ws.map fun s => .v (.string s)), .v (.int .i64 lo), .v (.int .i64 hi)]) (Array.getElem?_eq_getElem _) rfl
  have h1 := q2 1 xs[1] (.v (.string s)) (Array.getElem?_eq_getElem _) rfl
  have e1 : xs[1] = .string s := by generalize xs[1] = q at h1; cases h1; rfl
  obtain ⟨wv, e0, o0, hwv⟩ : ∃ wv, xs[0] = .agg #[.string nm, .int .i64 k, wv, .int .i64 lo, .int .i64 hi] ∧ wv.oneCell' = true ∧ RP F wv (.list 1 (ws.map fun s => .v (.string s))) := by
    generalize xs[0] = q at h0
    cases h0 with
    | agg zs cs hl h1 hR =>
      have hl : zs.size = 5 := hl
      have r0 := hR 0 zs[0] _ (Array.getElem?_eq_getElem _) rfl
      have r1 := hR 1 zs[1] _ (Array.getElem?_eq_getElem _) rfl
      have r2 := hR 2 zs[2] _ (Array.getElem?_eq_getElem _) rfl
      have r3 := hR 3 zs[3] _ (Array.getElem?_eq_getElem _) rfl
      have r4 := hR 4 zs[4] _ (Array.getElem?_eq_getElem _) rfl
      refine ⟨zs[2], ?_, h1 2 zs[2] (Array.getElem?_eq_getElem _), r2⟩
      have e0 : zs[0] = .string nm := by generalize zs[0] = q at r0; cases r0; rfl
      have e1 : zs[1] = .int .i64 k := by generalize zs[1] = q at r1; cases r1; rfl
      have e3 : zs[3] = .int .i64 lo := by generalize zs[3] = q at r3; cases r3; rfl
      have e4 : zs[4] = .int .i64 hi := by generalize zs[4] = q at r4; cases r4; rfl
      congr 1
      apply Array.ext
      · exact hl
      · intro i a b; have : i = 0 ∨ i = 1 ∨ i = 2 ∨ i = 3 ∨ i = 4 := by omega
        rcases this with rfl | rfl | rfl | rfl | rfl
        · exact e0
        · exact e1
        · rfl
        · exact e3
        · exact e4
  have ex : xs = #[.agg #[.string nm, .int .i64 k, wv, .int .i64 lo, .int .i64 hi], .string s] := by
    apply Array.ext
    · exact hl
    · intro i a b; have : i = 0 ∨ i = 1 := by omega
      rcases this with rfl | rfl
      · exact e0
      · exact e1
  rw [ex]
  unfold mRead at hy
  dsimp only at hy
  split at hy
  · rename_i hk
    subst hk
    cases hm : Idx.m54 ws s with
    | none => rw [hm] at hy; cases hy
    | some r =>
      rw [hm] at hy
      obtain rfl := Option.some.inj hy
      obtain ⟨n, ⟨⟩⟩ := r
      refine pure_of hF (rp_two n (decide (0 ≤ n))) (read_word (.string nm) wv lo hi n s w (fun w' hb => ?_) o0)
      refine (Idx.oki54.2 (ws, s, ()) (n, ()) hm w' F #[wv, .string s] (below_F hF hb) (fun g cs hg => by rw [idx_none] at hg; cases hg) (fun g cs hg => by rw [idx_none] at hg; cases hg) ⟨rfl, fun i x a p q => ?_⟩).mono ?_
      · match i, p, q with
        | 0, p, q => cases p; cases q; exact hwv
        | 1, p, q => cases p; cases q; exact .v _
      · rintro e w'' ⟨v, F', rfl, _, _, _, hR, hb'⟩
        have hR : RP F' v (.v (.int .i64 n)) := hR
        cases hR
        exact ⟨rfl, hb'⟩
  · rename_i hk
    have hk1 : (k == 1) = false := by simpa using hk
    split at hy
    · rename_i hk2
      subst hk2
      split at hy
      · rename_i hs
        obtain rfl := Option.some.inj hy
        have c1 := hF _ _ (one_of hG g1)
        have c2 := hF _ _ (one_of hG g2)
        unfold numB
        cases ha : Lib.atoiAll s.data.toList with
        | ok v =>
          refine pure_of hF (rp_two v true) (read_num (.string nm) wv lo hi v s w fun w' hb => ?_)
          refine (Tryd.strconv_Atoi_ok s (by omega) v ha w').mono ?_
          rintro e w'' ⟨he, hw⟩
          refine ⟨he, ?_⟩
          rcases hw with rfl | ⟨t, rfl⟩
          · exact Below.refl _ _
          · exact Lib.bytesWorld_below _ _ _
        | range =>
          refine pure_of hF (rp_two _ false) (read_err (.string nm) wv lo hi (Lib.atoiSat s.data.toList) s w fun w' hb => ?_)
          refine (Any.strconv_Atoi_range Tryd.laysC172 s (by omega) ha _ w' (below_F (F := F) hF hb _ _ (one_of hG g2)) (.inr ⟨_, _, rfl⟩)).mono ?_
          rintro e w'' ⟨N, he, _, _, hb'⟩
          exact ⟨⟨_, _, he⟩, hb'⟩
        | _ =>
          refine pure_of hF (rp_two _ false) (read_err (.string nm) wv lo hi 0 s w fun w' hb => ?_)
          refine (Any.strconv_Atoi_syntax Tryd.laysC172 s (by omega) ha _ w' (below_F (F := F) hF hb _ _ (one_of hG g1)) (.inr ⟨_, _, rfl⟩)).mono ?_
          rintro e w'' ⟨N, he, _, _, hb'⟩
          exact ⟨⟨_, _, he⟩, hb'⟩
      · cases hy
    · rename_i hk2
      have hk2 : (k == 2) = false := by simpa using hk2
      split at hy
      · rename_i h
        obtain rfl := Option.some.inj hy
        exact pure_of hF (rp_two 1 true) (read_yes _ wv k lo hi s w hk1 hk2 h)
      · rename_i h
        obtain rfl := Option.some.inj hy
        exact pure_of hF (rp_two 0 _) (read_no _ wv k lo hi s w hk1 hk2 (by simpa using h))
theorem okhRead {GX : GXT} {t1 t2 : Nat} {p1 p2 : Addr} (g1 : gx GX 1 = some [.v (.iface t1 (.pointer (some p1)))]) (g2 : gx GX 2 = some [.v (.iface t2 (.pointer (some p2)))]) : POk Tryd.prog (gx GX) iRead := ⟨by kernel_rfl, fun x y hy => read_core g1 g2 x.1.1 x.1.2.1 x.1.2.2.1 x.1.2.2.2.1 x.1.2.2.2.2.1 x.2.1 y hy⟩
end Abs
end Go.Proofs.YtgkijjppdaeikaaDoor
