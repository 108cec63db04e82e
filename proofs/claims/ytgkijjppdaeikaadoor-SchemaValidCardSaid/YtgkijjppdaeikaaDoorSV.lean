/- Merged: S11. -/
import Derived.Test.YtgkijjppdaeikaaDoorSA
/- Schema: SchemaValid. -/
namespace Go.Proofs.YtgkijjppdaeikaaDoor
namespace Abs
set_option linter.unusedVariables false
set_option linter.unusedSimpArgs false
def I64 (n : Int) : Prop := -9223372036854775808 ≤ n ∧ n ≤ 9223372036854775807
theorem deck_ok {L : List Int} (h : OkT (.list (.int .i64)) L) : DeckOk L 0 := ⟨fun x hx => ok_i64 ((ok_list (e := .int .i64) h).2 x hx), (ok_list (e := .int .i64) h).1, by omega⟩
theorem words_le {a : DS0} (h : attrS a = 0) : a.2.2.1.length ≤ 12 := by
  rcases attr_ok h with ⟨k, h1, h2, h3⟩ | ⟨k, _⟩ | k
  · exact h2
  · unfold attrS at h
    rw [if_neg (by omega), if_pos k] at h
    by_cases q : 0 < a.2.2.1.length
    · rw [if_pos q] at h; cases h
    · omega
  · unfold attrS at h
    rw [if_neg (by omega), if_neg (by omega), if_pos k] at h
    by_cases q : 0 < a.2.2.1.length ∨ a.2.2.2.1 ≠ 0 ∨ a.2.2.2.2.1 ≠ 0
    · rw [if_pos q] at h; cases h
    · omega
theorem range_T {L : List Int} {a : Int} (h : DeckOk L a) : T (m13 (-2) 2 L a) (fun y => DeckOk y.2.1 y.2.2.1) := by
  unfold m13
  refine T.call (next_T h (n := iAdd .i64 (iSub .i64 2 (-2)) 1) (by decide) (by decide)) (fun y hy => T.ret hy.1)
theorem law_valid (s : DS1) (k at_ : Int) (a : DS0) (L : List Int) (hk : I64 k) (ha : I64 at_) (hd : DeckOk L 0) : m3 s k at_ a L = some (true, ()) := by
  refine T.eq ?_
  unfold m3
  rw [awake_ok]
  refine T.cnd (fun _ => T.bind (T.ret (T.ret rfl))) (fun _ => ?_)
  obtain ⟨j, hj, e9⟩ := sch_m k hk
  have hv := sch_val j hj
  obtain ⟨v1, v2, v3⟩ := val_ok hv
  refine T.callE e9 ?_
  dsimp only
  generalize sch j = l at hv v1 v2 v3
  simp only [List.nil_append, List.length_nil, Nat.zero_add]
  have hL := lenI_eq l
  refine T.grd (by rw [fits_T]; omega) ?_
  refine T.call (within_T at_ (lenI l) ha (by omega) (by omega)) ?_
  rintro ⟨v, _⟩ ⟨w1, w2⟩
  dsimp only at w1 w2 ⊢
  have hv2 : v.toNat < l.length := by omega
  have gb : bnd v (lenI l) = true := by rw [bnd_T]; omega
  have gi : inB v.toNat l = true := by rw [inB_T]; omega
  have hw : (List.getD l v.toNat (ByteArray.empty, 0, [], 0, 0, ())).2.2.1.length ≤ 12 := by
    have := words_le (v3 _ (List.getElem_mem hv2)).2
    rw [show (List.getD l v.toNat (ByteArray.empty, 0, [], 0, 0, ())) = l[v.toNat] from getD_eq l v.toNat zA hv2]; exact this
  generalize (List.getD l v.toNat (ByteArray.empty, 0, [], 0, 0, ())) = x at hw ⊢
  have hX := lenI_eq x.2.2.1
  refine T.grd (by rw [fits_T]; omega) (T.grd gb (T.grd gi ?_))
  refine T.callE (show m11 L = some (L, 0, ()) from rfl) ?_
  refine T.grd gb (T.grd gi ?_)
  refine T.call (next_T hd (by omega) (by omega)) (fun y ⟨n1, n2, n3⟩ => ?_)
  refine T.cnd (fun _ => ?_) (fun _ => ?_)
  · refine T.call (next_T n1 (by omega) (by omega)) (fun z ⟨z1, z2, z3⟩ => ?_)
    refine T.grd gb (T.grd gi ?_)
    refine T.callE (val_m _) ?_
    refine T.callE (val_r _) ?_
    refine T.ct (by rw [iEq_T]) ?_
    refine T.callE (val_m _) ?_
    refine T.callE (val_r _) ?_
    refine T.ct (by rw [iEq_T]) ?_
    refine T.callE (val_m _) ?_
    refine T.callE (val_r _) ?_
    refine T.ct (by rw [iEq_T]) ?_
    exact T.bind (T.ret (T.ret rfl))
  refine T.cnd (fun _ => ?_) (fun _ => ?_)
  · refine T.call (range_T n1) (fun z z1 => ?_)
    refine T.call (range_T z1) (fun u u1 => ?_)
    refine T.grd gb (T.grd gi ?_)
    refine T.callE (val_m _) ?_
    refine T.callE (val_r _) ?_
    refine T.ct (by rw [iEq_T]) ?_
    refine T.callE (val_m _) ?_
    refine T.callE (val_r _) ?_
    refine T.ct (by rw [iEq_T]) ?_
    refine T.callE (val_m _) ?_
    refine T.callE (val_r _) ?_
    refine T.ct (by rw [iEq_T]) ?_
    exact T.bind (T.ret (T.ret rfl))
  refine T.cnd (fun _ => ?_) (fun _ => ?_)
  · refine T.grd (by rw [fits_T]; omega) ?_
    refine T.call (next_T n1 (by omega) (by omega)) (fun z ⟨z1, z2, z3⟩ => ?_)
    refine T.grd (by rw [bnd_T, lenI_eq]; exact ⟨z2, z3⟩) (T.grd (by rw [inB_T]; show z.1.toNat < 4; omega) ?_)
    refine T.grd (by rw [fits_T, List.length_singleton]; omega) ?_
    refine T.grd gb (T.grd gi ?_)
    refine T.callE (val_m _) ?_
    refine T.callE (val_r _) ?_
    refine T.ct (by rw [iEq_T]) ?_
    refine T.callE (val_m _) ?_
    refine T.callE (val_r _) ?_
    refine T.ct (by rw [iEq_T]) ?_
    refine T.callE (val_m _) ?_
    refine T.callE (val_r _) ?_
    refine T.ct (by rw [iEq_T]) ?_
    exact T.bind (T.ret (T.ret rfl))
  refine T.cnd (fun _ => ?_) (fun _ => ?_)
  · refine T.call (next_T n1 (by omega) (by omega)) (fun z ⟨z1, z2, z3⟩ => ?_)
    refine T.grd (by rw [bnd_T, lenI_eq]; exact ⟨z2, z3⟩) (T.grd (by rw [inB_T]; show z.1.toNat < 5; omega) ?_)
    refine T.grd gb (T.grd gi ?_)
    refine T.callE (val_m _) ?_
    refine T.callE (val_r _) ?_
    refine T.ct (by rw [iEq_T]) ?_
    refine T.callE (val_m _) ?_
    refine T.callE (val_r _) ?_
    refine T.ct (by rw [iEq_T]) ?_
    refine T.callE (val_m _) ?_
    refine T.callE (val_r _) ?_
    refine T.ct (by rw [iEq_T]) ?_
    exact T.bind (T.ret (T.ret rfl))
  refine T.cnd (fun _ => ?_) (fun _ => ?_)
  · refine T.grd gb (T.grd gi ?_)
    refine T.callE (val_m _) ?_
    refine T.callE (val_r _) ?_
    refine T.ct (by rw [iEq_T]) ?_
    refine T.callE (val_m _) ?_
    refine T.callE (val_r _) ?_
    refine T.ct (by rw [iEq_T]) ?_
    refine T.callE (val_m _) ?_
    refine T.callE (val_r _) ?_
    refine T.ct (by rw [iEq_T]) ?_
    exact T.bind (T.ret (T.ret rfl))
  refine T.cnd (fun _ => ?_) (fun _ => ?_)
  · refine T.grd (by rw [cutOk_T]; unfold iMin; omega) ?_
    refine T.grd gb (T.grd gi ?_)
    refine T.callE (val_m _) ?_
    refine T.callE (val_r _) ?_
    refine T.ct (by rw [iEq_T]) ?_
    refine T.callE (val_m _) ?_
    refine T.callE (val_r _) ?_
    refine T.ct (by rw [iEq_T]) ?_
    refine T.callE (val_m _) ?_
    refine T.callE (val_r _) ?_
    refine T.ct (by rw [iEq_T]) ?_
    exact T.bind (T.ret (T.ret rfl))
  refine T.cnd (fun _ => ?_) (fun _ => ?_)
  · refine T.grd gb (T.grd gi ?_)
    refine T.callE (val_m _) ?_
    refine T.callE (val_r _) ?_
    refine T.ct (by rw [iEq_T]) ?_
    refine T.callE (val_m _) ?_
    refine T.callE (val_r _) ?_
    refine T.ct (by rw [iEq_T]) ?_
    refine T.callE (val_m _) ?_
    refine T.callE (val_r _) ?_
    refine T.ct (by rw [iEq_T]) ?_
    exact T.bind (T.ret (T.ret rfl))
  · refine T.grd gb (T.grd gi ?_)
    refine T.callE (val_m _) ?_
    refine T.callE (val_r _) ?_
    refine T.ct (by rw [iEq_T]) ?_
    refine T.callE (val_m _) ?_
    refine T.callE (val_r _) ?_
    refine T.ct (by rw [iEq_T]) ?_
    refine T.callE (val_m _) ?_
    refine T.callE (val_r _) ?_
    refine T.ct (by rw [iEq_T]) ?_
    exact T.bind (T.ret (T.ret rfl))
end Abs
end Go.Proofs.YtgkijjppdaeikaaDoor
