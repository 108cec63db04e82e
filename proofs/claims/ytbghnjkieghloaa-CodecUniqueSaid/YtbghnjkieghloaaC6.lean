/- Codec: bordereaux as they are read. -/
import Derived.Test.YtbghnjkieghloaaC5
namespace Go.Proofs.Ytbghnjkieghloaa
namespace Abs
set_option linter.unusedVariables false
set_option linter.unusedSimpArgs false
/-- Bytes that can be read. -/
def BytL (bs : List Int) : Prop := Byt bs ∧ bs.length ≤ 140737488356000
theorem BytL.next {bs : List Int} (h : BytL bs) (e : Int) : BytL (nextS bs e).2.1 := by
  unfold nextS
  split
  · exact h
  · split
    · exact h
    · exact ⟨fun x hx => h.1 x (List.mem_of_mem_drop hx), by simp only [List.length_drop]; have := h.2; omega⟩
theorem next_err (bs : List Int) {e : Int} (h : e ≠ 0) : nextS bs e = (0, bs, e, ()) := by unfold nextS; rw [if_pos h]
/-- What a reader's count answers. -/
def countS (n : Int) (bs : List Int) (e : Int) : Int × List Int × Int × Unit :=
  if (nextS bs e).2.2.1 = 0 then (if (nextS bs e).1 < 0 ∨ n < (nextS bs e).1 then (0, (nextS bs e).2.1, 4, ()) else nextS bs e) else (0, (nextS bs e).2.1, (nextS bs e).2.2.1, ())
/-- How a reader ends. -/
def endS (bs : List Int) (e : Int) : Int := if e = 0 ∧ 0 < bs.length then 5 else e
/-- A row's six numbers. -/
def sixS (p : Int) (bs : List Int) (e : Int) : DS6 × List Int × Int :=
  let a := nextS bs e
  let b := nextS a.2.1 a.2.2.1
  let c := nextS b.2.1 b.2.2.1
  let d := nextS c.2.1 c.2.2.1
  let f := nextS d.2.1 d.2.2.1
  let g := nextS f.2.1 f.2.2.1
  ((a.1, b.1, (c.1, d.1, p, f.1, g.1, ()), ()), g.2.1, g.2.2.1)
def finB (n p c : Int) (bs : List Int) (e : Int) (rows : List DS6) : DS7 × Int × Unit :=
  if endS bs e ≠ 0 then ((0, 0, 0, [], ()), endS bs e, ()) else ((n, p, c, rows, ()), 0, ())
def rowsS (n p c : Int) : Nat → List Int → Int → List DS6 → DS7 × Int × Unit
  | 0, bs, e, rows => finB n p c bs e rows
  | k + 1, bs, e, rows => if e ≠ 0 then finB n p c bs e rows else rowsS n p c k (sixS p bs e).2.1 (sixS p bs e).2.2 (rows ++ [(sixS p bs e).1])
theorem finB_err (n p c : Int) (bs : List Int) {e : Int} (h : e ≠ 0) (rows : List DS6) : finB n p c bs e rows = ((0, 0, 0, [], ()), e, ()) := by
  have he : endS bs e = e := by unfold endS; rw [if_neg (fun q => h q.1)]
  unfold finB; rw [he, if_pos h]
theorem rows_err (n p c : Int) (k : Nat) (bs : List Int) {e : Int} (h : e ≠ 0) (rows : List DS6) : rowsS n p c k bs e rows = ((0, 0, 0, [], ()), e, ()) := by
  cases k with
  | zero => exact finB_err n p c bs h rows
  | succ k => unfold rowsS; rw [if_pos h]; exact finB_err n p c bs h rows
theorem six_err (p : Int) (bs : List Int) {e : Int} (h : e ≠ 0) : (sixS p bs e).2 = (bs, e) := by
  unfold sixS
  simp only [next_err bs h]
/-- What DecodeBordereau answers. -/
def decB (bs : List Int) : DS7 × Int × Unit :=
  let a := nextS bs 0
  let b := nextS a.2.1 a.2.2.1
  let c := nextS b.2.1 b.2.2.1
  let d := countS 64 c.2.1 c.2.2.1
  rowsS a.1 b.1 c.1 d.1.toNat d.2.1 d.2.2.1 []
theorem six_bytl {bs : List Int} (h : BytL bs) (p e : Int) : BytL (sixS p bs e).2.1 := by
  unfold sixS
  exact (((((h.next e).next _).next _).next _).next _).next _
theorem count_rng (bs : List Int) (e : Int) (h : BytL bs) : 0 ≤ (countS 64 bs e).1 ∧ (countS 64 bs e).1 ≤ 64 ∧ BytL (countS 64 bs e).2.1 := by
  have hn := h.next e
  unfold countS
  split
  · split
    · exact ⟨by simp, by simp, hn⟩
    · rename_i q; exact ⟨by omega, by omega, hn⟩
  · exact ⟨by simp, by simp, hn⟩
theorem count_m (bs : List Int) (e : Int) (h : BytL bs) : m53 64 bs e = some (countS 64 bs e) := by
  unfold m53 countS
  rw [next_m bs e h.1 h.2]
  simp only [Option.bind_some]
  by_cases h0 : (nextS bs e).2.2.1 = 0
  · rw [iEq_t h0, if_pos h0]
    simp only [cond_true]
    by_cases h1 : (nextS bs e).1 < 0 ∨ 64 < (nextS bs e).1
    · rw [if_pos h1]
      have : (cond (iLt (nextS bs e).1 0) true (iLt 64 (nextS bs e).1)) = true := by
        rcases h1 with q | q
        · rw [iLt_t q]; rfl
        · rw [iLt_t q]; cases iLt (nextS bs e).1 0 <;> rfl
      rw [this]; rfl
    · rw [if_neg h1, iLt_f (by omega), iLt_f (by omega), iNe_f h0]; rfl
  · rw [iEq_f h0, if_neg h0, iNe_t h0]; rfl
theorem count_r (bs : List Int) (e : Int) (h : BytL bs) : m48 64 bs e = some (countS 64 bs e) := by
  unfold m48 countS
  rw [next_r bs e h.1 h.2]
  simp only [Option.bind_some]
  by_cases h0 : (nextS bs e).2.2.1 = 0
  · rw [iEq_t h0, if_pos h0]
    simp only [cond_true]
    by_cases h1 : (nextS bs e).1 < 0 ∨ 64 < (nextS bs e).1
    · rw [if_pos h1]
      have : (cond (iLt (nextS bs e).1 0) true (iLt 64 (nextS bs e).1)) = true := by
        rcases h1 with q | q
        · rw [iLt_t q]; rfl
        · rw [iLt_t q]; cases iLt (nextS bs e).1 0 <;> rfl
      rw [this]; rfl
    · rw [if_neg h1, iLt_f (by omega), iLt_f (by omega), iNe_f h0]; rfl
  · rw [iEq_f h0, if_neg h0, iNe_t h0]; rfl
theorem end_m (bs : List Int) (e : Int) : (m46 bs e).map (fun y => y.1) = some (endS bs e) ∧ ∃ y, m46 bs e = some y := by
  unfold m46 endS
  by_cases h0 : e = 0
  · by_cases hl : 0 < bs.length
    · rw [iEq_t h0, iLt_t (by rw [lenI_eq]; omega), if_pos ⟨h0, hl⟩]; exact ⟨rfl, _, rfl⟩
    · rw [iEq_t h0, iLt_f (by rw [lenI_eq]; omega), if_neg (fun q => hl q.2)]; exact ⟨rfl, _, rfl⟩
  · rw [iEq_f h0, if_neg (fun q => h0 q.1)]; exact ⟨rfl, _, rfl⟩
theorem end_r (bs : List Int) (e : Int) : (m50 bs e).map (fun y => y.1) = some (endS bs e) ∧ ∃ y, m50 bs e = some y := by
  unfold m50 endS
  by_cases h0 : e = 0
  · by_cases hl : 0 < bs.length
    · rw [iEq_t h0, iLt_t (by rw [lenI_eq]; omega), if_pos ⟨h0, hl⟩]; exact ⟨rfl, _, rfl⟩
    · rw [iEq_t h0, iLt_f (by rw [lenI_eq]; omega), if_neg (fun q => hl q.2)]; exact ⟨rfl, _, rfl⟩
  · rw [iEq_f h0, if_neg (fun q => h0 q.1)]; exact ⟨rfl, _, rfl⟩
end Abs
end Go.Proofs.Ytbghnjkieghloaa
