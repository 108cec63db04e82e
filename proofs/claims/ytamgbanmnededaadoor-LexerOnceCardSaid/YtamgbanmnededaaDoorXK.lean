/- The typed machine: arguments that came in, as native values. -/
import Derived.Test.YtamgbanmnededaaDoorXJ
namespace Go.Proofs.YtamgbanmnededaaDoor
namespace Abs
open Go.RowKit
set_option linter.unusedVariables false
set_option linter.unusedSimpArgs false
mutual
/-- A native value that an argument may have. -/
def OkT : (T : Ty) → T.den → Prop
  | .int k, n => (Lit.int k n).wf = true
  | .bool, _ => True
  | .str, s => ByteArray.size s ≤ maxLen
  | .list e, xs => List.length (α := e.den) xs ≤ maxLen ∧ ∀ x, x ∈ (show List e.den from xs) → OkT e x
  | .tup fs, x => OkL fs x
  | .fnc _, _ => True
  | .listF _, _ => True
def OkL : (fs : List Ty) → Ty.denL fs → Prop
  | [], _ => True
  | t :: ts, x => OkT t x.1 ∧ OkL ts x.2
end
theorem pack_enc {T : Ty} (x : T.den) : pack T (Ty.enc T x).cells = Ty.enc T x := by
  rcases enc_agg (x := x) with ⟨ht, cs, he⟩ | ⟨ht, hp⟩
  · unfold pack; rw [if_pos ht, he]; rfl
  · unfold pack; rw [ht, hp.cells]; rfl
theorem is_den (T : Ty) : ∀ l : List AV, Is T l → ∃ x : T.den, OkT T x ∧ l = (Ty.enc T x).cells := by
  refine Ty.rec (motive_1 := fun T => ∀ l : List AV, Is T l → ∃ x : T.den, OkT T x ∧ l = (Ty.enc T x).cells) (motive_2 := fun fs => ∀ l : List AV, IsL fs l → ∃ x : Ty.denL fs, OkL fs x ∧ l = Ty.encL fs x) ?_ ?_ ?_ ?_ ?_ ?_ ?_ ?_ ?_ T
  · intro k l h; simp only [Is] at h; obtain ⟨n, rfl, hw⟩ := h; exact ⟨n, hw, rfl⟩
  · intro l h; simp only [Is] at h; obtain ⟨b, rfl⟩ := h; exact ⟨b, trivial, rfl⟩
  · intro l h; simp only [Is] at h; obtain ⟨s, rfl, hs⟩ := h; exact ⟨s, hs, rfl⟩
  · intro e ih l h
    simp only [Is] at h
    obtain ⟨xss, rfl, hl, hx⟩ := h
    have key : ∀ xss : List (List AV), (∀ xs ∈ xss, Is e xs) → ∃ ys : List e.den, (∀ y ∈ ys, OkT e y) ∧ xss.map (pack e) = ys.map (Ty.enc e) := by
      intro xss
      induction xss with
      | nil => intro _; exact ⟨[], by simp, rfl⟩
      | cons a xss ihx =>
        intro h
        obtain ⟨ys, h1, h2⟩ := ihx fun xs hxs => h xs (by simp [hxs])
        obtain ⟨y, hy, rfl⟩ := ih a (h a (by simp))
        refine ⟨y :: ys, fun z hz => ?_, by rw [List.map_cons, List.map_cons, pack_enc, h2]⟩
        rcases List.mem_cons.1 hz with rfl | hz
        · exact hy
        · exact h1 z hz
    obtain ⟨ys, h1, h2⟩ := key xss hx
    refine ⟨ys, ⟨?_, h1⟩, by show _ = [AV.list e.size (List.map (Ty.enc e) ys)]; rw [h2]⟩
    have := congrArg List.length h2
    simp only [List.length_map] at this
    show List.length ys ≤ maxLen
    omega
  · intro fs ih l h; simp only [Is] at h; exact ih l h
  · intro f l h; simp only [Is] at h; exact ⟨(), trivial, h⟩
  · intro e _ l h; simp only [Is] at h; exact ⟨none, trivial, h⟩
  · intro l h; simp only [IsL] at h; exact ⟨(), trivial, h⟩
  · intro t ts h1 h2 l h
    simp only [IsL] at h
    obtain ⟨a, b, rfl, ha, hb⟩ := h
    obtain ⟨x, ox, rfl⟩ := h1 a ha
    obtain ⟨y, oy, rfl⟩ := h2 b hb
    exact ⟨(x, y), ⟨ox, oy⟩, rfl⟩
theorem isV_den {T : Ty} {a : AV} (h : IsV T a) : ∃ x : T.den, OkT T x ∧ a = Ty.enc T x := by
  obtain ⟨l, hl, rfl⟩ := h
  obtain ⟨x, ox, rfl⟩ := is_den T l hl
  exact ⟨x, ox, pack_enc x⟩
theorem ok_u8 {n : Int} (h : OkT (.int .u8) n) : 0 ≤ n ∧ n ≤ 255 := by
  have h : (Lit.int .u8 n).wf = true := h
  simp only [Lit.wf, IntKind.min, IntKind.max, IntKind.signed, IntKind.bits, Bool.and_eq_true, decide_eq_true_eq, if_true, Bool.false_eq_true, if_false] at h; omega
theorem ok_u16 {n : Int} (h : OkT (.int .u16) n) : 0 ≤ n ∧ n ≤ 65535 := by
  have h : (Lit.int .u16 n).wf = true := h
  simp only [Lit.wf, IntKind.min, IntKind.max, IntKind.signed, IntKind.bits, Bool.and_eq_true, decide_eq_true_eq, if_true, Bool.false_eq_true, if_false] at h; omega
theorem ok_u32 {n : Int} (h : OkT (.int .u32) n) : 0 ≤ n ∧ n ≤ 4294967295 := by
  have h : (Lit.int .u32 n).wf = true := h
  simp only [Lit.wf, IntKind.min, IntKind.max, IntKind.signed, IntKind.bits, Bool.and_eq_true, decide_eq_true_eq, if_true, Bool.false_eq_true, if_false] at h; omega
theorem ok_i64 {n : Int} (h : OkT (.int .i64) n) : -9223372036854775808 ≤ n ∧ n ≤ 9223372036854775807 := by
  have h : (Lit.int .i64 n).wf = true := h
  simp only [Lit.wf, IntKind.min, IntKind.max, IntKind.signed, IntKind.bits, Bool.and_eq_true, decide_eq_true_eq, if_true, Bool.false_eq_true, if_false] at h; omega
theorem ok_list {e : Ty} {xs : List e.den} (h : OkT (.list e) xs) : xs.length ≤ maxLen ∧ ∀ x ∈ xs, OkT e x := h
end Abs
end Go.Proofs.YtamgbanmnededaaDoor
