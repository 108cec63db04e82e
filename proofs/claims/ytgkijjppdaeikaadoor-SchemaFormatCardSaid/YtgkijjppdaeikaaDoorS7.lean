/- Schema: SchemaFacts, SchemaFormat. -/
import Derived.Test.YtgkijjppdaeikaaDoorS6
namespace Go.Proofs.YtgkijjppdaeikaaDoor
namespace Abs
set_option linter.unusedVariables false
set_option linter.unusedSimpArgs false
def I64 (n : Int) : Prop := -9223372036854775808 ≤ n ∧ n ≤ 9223372036854775807
theorem law_facts (s : DS1) (f : List Int) (k : Int) (L : List Int) (at_ n : Int) (hk : I64 k) (hd : DeckOk L 0) (ha : I64 at_) : m4 s f k L at_ n = some (true, ()) := by
  refine T.eq ?_
  unfold m4
  rw [awake_ok]
  refine T.cnd (fun hc => T.ret rfl) (fun hc => ?_)
  rw [corT_F, iLt_F, iLt_F, lenI_eq, lenI_eq] at hc
  obtain ⟨j, hj, e9⟩ := sch_m k hk
  have hv := sch_val j hj
  obtain ⟨v1, v2, v3⟩ := val_ok hv
  refine T.callE e9 ?_
  dsimp only
  generalize sch j = l at hv v1 v2 v3
  refine T.callE (show m11 L = some (L, 0, ()) from rfl) ?_
  refine T.call (facts_T l hv hd) ?_
  rintro ⟨K, a, x, _⟩ hx
  dsimp only at hx ⊢
  obtain ⟨_, hxl, _⟩ := valid_ok hx
  have hLx := lenI_eq x
  refine T.callE (valid_m (l, ()) x (by omega)) ?_
  dsimp only
  refine T.cf (by rw [hx]; rfl) ?_
  refine T.callE (valid_m (s.1, ()) f (by omega)) ?_
  refine T.callE (valid_r (s.1, ()) f (by omega)) ?_
  dsimp only
  refine T.cf (by rw [not_F, bEq_self]) ?_
  simp only [List.nil_append, List.length_nil, Nat.zero_add]
  refine T.grd (by rw [fits_T]; omega) ?_
  refine T.call (within_T at_ (lenI x) ha (by omega) (by omega)) ?_
  rintro ⟨v, _⟩ ⟨w1, w2⟩
  dsimp only at w1 w2 ⊢
  refine T.grd (by rw [bnd_T]; omega) (T.grd (by rw [inB_T]; omega) (T.grd (by rw [fits_T]; omega) (T.grd (by rw [fits_T, List.length_singleton]; omega) ?_)))
  refine T.callE (valid_m (l, ()) _ (by rw [List.length_set]; omega)) ?_
  refine T.callE (valid_r (l, ()) _ (by rw [List.length_set]; omega)) ?_
  dsimp only
  refine T.ct (bEq_self _) ?_
  have no : ∀ y : List Int, y.length ≠ l.length → validS l y = false := by
    intro y hy; unfold validS; rw [decide_eq_false hy, Bool.and_false]; rfl
  refine T.callE (valid_m (l, ()) _ (by rw [List.length_append, List.length_singleton]; omega)) ?_
  dsimp only
  rw [no (x ++ [0]) (by rw [List.length_append, List.length_singleton]; omega)]
  rw [iSub64 (by omega) (by omega)]
  refine T.grd (by rw [or_T, cutOk_T]; left; omega) (T.ct rfl ?_)
  refine T.callE (valid_m (l, ()) _ (by rw [List.length_take, List.length_drop]; omega)) ?_
  dsimp only
  rw [no _ (by rw [List.length_take, List.length_drop]; omega)]
  exact T.ct rfl (T.ret rfl)
theorem law_format (s : DS1) (f : List Int) (k : Int) (L : List Int) (at_ n : Int) (hk : I64 k) (hd : DeckOk L 0) (ha : I64 at_) : m5 s f k L at_ n = some (true, ()) := by
  refine T.eq ?_
  unfold m5
  rw [awake_ok]
  refine T.cnd (fun hc => T.ret rfl) (fun hc => ?_)
  rw [corT_F, iLt_F, iLt_F, lenI_eq, lenI_eq] at hc
  refine T.callE (fmt_m (s.1, ()) f (by omega)) ?_
  refine T.callE (fmt_r (s.1, ()) f (by omega)) ?_
  obtain ⟨j, hj, e9⟩ := sch_m k hk
  have hv := sch_val j hj
  obtain ⟨v1, v2, v3⟩ := val_ok hv
  refine T.callE e9 ?_
  dsimp only
  generalize sch j = l at hv v1 v2 v3
  refine T.callE (show m11 L = some (L, 0, ()) from rfl) ?_
  refine T.call (facts_T l hv hd) ?_
  rintro ⟨K, a, x, _⟩ hx
  dsimp only at hx ⊢
  obtain ⟨_, hxl, _⟩ := valid_ok hx
  have hLx := lenI_eq x
  have q1 : ∀ b : ByteArray, sEq b b = true := fun b => by rw [sEq_T]
  have q2 : ∀ b : Int, iEq b b = true := fun b => by rw [iEq_T]
  refine T.grd rfl ?_
  refine T.cnd (fun hc2 => ?_) (fun hc2 => ?_)
  · refine T.call (within_T at_ (lenI x) ha (by omega) (by omega)) ?_
    rintro ⟨v, _⟩ ⟨w1, w2⟩
    dsimp only at w1 w2 ⊢
    refine T.grd (by rw [bnd_T]; omega) (T.grd (by rw [inB_T]; omega) ?_)
    refine T.callE (fmt_m (l, ()) _ (by rw [List.length_set]; omega)) ?_
    refine T.callE (fmt_r (l, ()) _ (by rw [List.length_set]; omega)) ?_
    refine T.ct (by rw [q1, q1, q2, q2]; rfl) (T.ret rfl)
  · refine T.callE (fmt_m (l, ()) _ (by omega)) ?_
    refine T.callE (fmt_r (l, ()) _ (by omega)) ?_
    refine T.ct (by rw [q1, q1, q2, q2]; rfl) (T.ret rfl)
theorem deck_ok {L : List Int} (h : OkT (.list (.int .i64)) L) : DeckOk L 0 := ⟨fun x hx => ok_i64 ((ok_list (e := .int .i64) h).2 x hx), (ok_list (e := .int .i64) h).1, by omega⟩
end Abs
end Go.Proofs.YtgkijjppdaeikaaDoor
