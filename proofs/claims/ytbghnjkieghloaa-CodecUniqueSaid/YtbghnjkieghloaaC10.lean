/- Codec: the law on bordereaux. -/
import Derived.Test.YtbghnjkieghloaaC8
namespace Go.Proofs.Ytbghnjkieghloaa
namespace Abs
set_option linter.unusedVariables false
set_option linter.unusedSimpArgs false
theorem and_i64 (a : Int) (b : Nat) (hb : b < 9223372036854775808) : ∃ n : Nat, n ≤ b ∧ iAnd .i64 a (b : Int) = (n : Int) := by
  refine ⟨(BitVec.ofInt 64 a &&& BitVec.ofInt 64 (b : Int)).toNat, ?_, ?_⟩
  · rw [BitVec.toNat_and, ofInt_nat, Nat.mod_eq_of_lt (show b < 2 ^ 64 by omega)]; exact Nat.and_le_right
  · have : (BitVec.ofInt 64 a &&& BitVec.ofInt 64 (b : Int)).toNat ≤ b := by
      rw [BitVec.toNat_and, ofInt_nat, Nat.mod_eq_of_lt (show b < 2 ^ 64 by omega)]; exact Nat.and_le_right
    show IntKind.wrap .i64 (((BitVec.ofInt 64 a &&& BitVec.ofInt 64 (b : Int)).toNat : Nat) : Int) = _
    exact wrap64 (by omega) (by omega)
theorem byt_take {l : List Int} (h : Byt l) (n : Nat) : Byt (l.take n) := fun x hx => h x (List.mem_of_mem_take hx)
theorem byt_drop {l : List Int} (h : Byt l) (n : Nat) : Byt (l.drop n) := fun x hx => h x (List.mem_of_mem_drop hx)
theorem byt_app {l m : List Int} (h : Byt l) (h' : Byt m) : Byt (l ++ m) := fun x hx => (List.mem_append.1 hx).elim (h x) (h' x)
theorem byt_one {b : Int} (h : 0 ≤ b ∧ b ≤ 255) : Byt [b] := fun x hx => by rw [List.mem_singleton.1 hx]; exact h
theorem byt_set {l : List Int} (h : Byt l) (n : Nat) {b : Int} (hb : 0 ≤ b ∧ b ≤ 255) : Byt (l.set n b) := fun x hx => (List.mem_or_eq_of_mem_set hx).elim (h x) (fun e => by rw [e]; exact hb)
/-- A byte changed, put in or left out. -/
theorem spoilt_T (bs : List Int) (at_ by_ : Int) (hB : Byt bs) (hl : bs.length ≤ 100000) (hb : 0 ≤ by_ ∧ by_ ≤ 255) : T (m21 bs at_ by_) (fun y => Byt y.1 ∧ y.1.length ≤ 100001) := by
  unfold m21
  simp only [List.nil_append]
  refine T.grd (by first | (simp (disch := omega) only [iLt_T, iLt_F, iLe_T, iLe_F, iEq_T, iEq_F, iNe_T, iNe_F, bnd_T, bnd_F, inB_T, inB_F, fits_T, fitsI_T, cutOk_T, someE_T, someE_F, leN_T, not_T, not_F, and_T, and_F, or_T, or_F, candF_T, candF_F, corT_T, corT_F, bEqT_T, bEqT_F, bEqF_T, bEqF_F, eq_self, or_true, true_or, and_true, true_and, or_false, false_or, and_false, false_and, not_true_eq_false, not_false_eq_true, Bool.true_eq_false, Bool.false_eq_true, iAdd64, iSub64, iMul64, lenI_eq, List.length_append, List.length_cons, List.length_nil, List.length_set, List.length_take, List.length_drop, List.length_replicate]; omega) | (simp (disch := omega) only [iLt_T, iLt_F, iLe_T, iLe_F, iEq_T, iEq_F, iNe_T, iNe_F, bnd_T, bnd_F, inB_T, inB_F, fits_T, fitsI_T, cutOk_T, someE_T, someE_F, leN_T, not_T, not_F, and_T, and_F, or_T, or_F, candF_T, candF_F, corT_T, corT_F, bEqT_T, bEqT_F, bEqF_T, bEqF_F, eq_self, or_true, true_or, and_true, true_and, or_false, false_or, and_false, false_and, not_true_eq_false, not_false_eq_true, Bool.true_eq_false, Bool.false_eq_true, iAdd64, iSub64, iMul64, lenI_eq, List.length_append, List.length_cons, List.length_nil, List.length_set, List.length_take, List.length_drop, List.length_replicate]; done)) ?_
  refine T.cnd (fun _ => T.ret ⟨byt_one hb, by simp⟩) (fun hc => ?_)
  simp only [iEq_F, lenI_eq] at hc
  obtain ⟨n, _, e⟩ := and_i64 (iShr .i64 at_ 2) 255 (by omega)
  have e : iAnd .i64 (iShr .i64 at_ 2) 255 = (n : Int) := e
  rw [e, iRem_pos (by omega), lenI_eq]
  have q0 : 0 ≤ (n : Int) % (bs.length : Int) := Int.emod_nonneg _ (by omega)
  have q1 : (n : Int) % (bs.length : Int) < (bs.length : Int) := Int.emod_lt_of_pos _ (by omega)
  generalize (n : Int) % (bs.length : Int) = i at q0 q1
  repeat' (first | (refine T.grd ?_ ?_) | (refine T.cnd (fun hc => ?_) (fun hc => ?_) <;> try simp only [iLt_T, iLt_F, iLe_T, iLe_F, iEq_T, iEq_F, iNe_T, iNe_F, bnd_T, bnd_F, inB_T, inB_F, fits_T, fitsI_T, cutOk_T, someE_T, someE_F, leN_T, not_T, not_F, and_T, and_F, or_T, or_F, candF_T, candF_F, corT_T, corT_F, bEqT_T, bEqT_F, bEqF_T, bEqF_F, eq_self, or_true, true_or, and_true, true_and, or_false, false_or, and_false, false_and, not_true_eq_false, not_false_eq_true, Bool.true_eq_false, Bool.false_eq_true] at hc) | (refine T.mapL ?_) | (refine T.mapJ ?_) | (refine T.go ?_ ?_) | (refine T.out ?_) | (refine T.jgo ?_) | (refine T.jout ?_) | (refine T.ret ?_))
  all_goals try (first | (simp (disch := omega) only [iLt_T, iLt_F, iLe_T, iLe_F, iEq_T, iEq_F, iNe_T, iNe_F, bnd_T, bnd_F, inB_T, inB_F, fits_T, fitsI_T, cutOk_T, someE_T, someE_F, leN_T, not_T, not_F, and_T, and_F, or_T, or_F, candF_T, candF_F, corT_T, corT_F, bEqT_T, bEqT_F, bEqF_T, bEqF_F, eq_self, or_true, true_or, and_true, true_and, or_false, false_or, and_false, false_and, not_true_eq_false, not_false_eq_true, Bool.true_eq_false, Bool.false_eq_true, iAdd64, iSub64, iMul64, lenI_eq, List.length_append, List.length_cons, List.length_nil, List.length_set, List.length_take, List.length_drop, List.length_replicate]; omega) | (simp (disch := omega) only [iLt_T, iLt_F, iLe_T, iLe_F, iEq_T, iEq_F, iNe_T, iNe_F, bnd_T, bnd_F, inB_T, inB_F, fits_T, fitsI_T, cutOk_T, someE_T, someE_F, leN_T, not_T, not_F, and_T, and_F, or_T, or_F, candF_T, candF_F, corT_T, corT_F, bEqT_T, bEqT_F, bEqF_T, bEqF_F, eq_self, or_true, true_or, and_true, true_and, or_false, false_or, and_false, false_and, not_true_eq_false, not_false_eq_true, Bool.true_eq_false, Bool.false_eq_true, iAdd64, iSub64, iMul64, lenI_eq, List.length_append, List.length_cons, List.length_nil, List.length_set, List.length_take, List.length_drop, List.length_replicate]; done))
  · exact ⟨byt_set hB _ hb, by simp; omega⟩
  · refine ⟨byt_app (byt_app (byt_take (byt_drop hB _) _) (byt_one hb)) (byt_take (byt_drop hB _) _), ?_⟩
    simp only [List.length_append, List.length_take, List.length_drop, List.length_cons, List.length_nil]; omega
  · refine ⟨byt_app (byt_take hB _) (byt_take (byt_drop hB _) _), ?_⟩
    simp (disch := omega) only [iAdd64, List.length_append, List.length_take, List.length_drop]; omega
  · exact ⟨byt_take (byt_drop hB _) _, by simp only [List.length_take, List.length_drop]; omega⟩
  · exact ⟨byt_take (byt_drop hB _) _, by simp only [List.length_take, List.length_drop]; omega⟩
theorem sameB_refl (y : DS7) (hl : List.length (α := DS6) y.2.2.2.1 ≤ 1000000) : m30 y y = some (true, ()) := by
  unfold m30
  rw [iNe_f rfl, iNe_f rfl, iNe_f rfl, iNe_f rfl]
  simp only [cond_false]
  refine loop_to (fun k => (lenI y.2.2.2.1, (k : Int), y.1, y.2.1, y.2.2.1, y.2.2.2.1, y.1, y.2.1, y.2.2.1, y.2.2.2.1, ())) (List.length (α := DS6) y.2.2.2.1) (fun k hk => ?_) ?_
  · dsimp only
    rw [iLt_t (by rw [lenI_eq]; omega), bnd_t (by omega) (by rw [lenI_eq]; omega), iEq_t rfl, iEq_t rfl, iEq_t rfl, iEq_t rfl, iEq_t rfl, iEq_t rfl, iEq_t rfl, iAdd64 (by omega) (by omega)]; rfl
  · dsimp only
    rw [iLt_f (by rw [lenI_eq]; omega)]; rfl
theorem encNs_byt (xs : List Int) : Byt (encNs xs) := by
  intro x hx
  obtain ⟨y, _, hy⟩ := List.mem_flatMap.1 hx
  exact enc_byt _ x hy
theorem encodeS_byt (xs : List Int) : Byt (encodeS xs).1 := by
  unfold encodeS
  split
  · exact encNs_byt xs
  · intro x hx; simp at hx
theorem encodeS_len (xs : List Int) : (encodeS xs).1.length ≤ 7 * xs.length := by
  unfold encodeS
  split
  · exact encNs_len xs (List.all_eq_true.1 (by assumption))
  · simp
theorem encB_byt (y : DS7) : Byt (encB y).1 ∧ (encB y).1.length ≤ 2716 := by
  unfold encB
  split
  · exact ⟨fun x hx => by simp at hx, by simp⟩
  · rename_i h
    split
    · refine ⟨encodeS_byt _, ?_⟩
      have := encodeS_len (bordN y ++ List.flatMap (α := DS6) rowN y.2.2.2.1)
      have h2 := rows_len y.2.2.2.1
      have h4 : (bordN y).length = 4 := rfl
      rw [List.length_append, h4, h2] at this
      omega
    · exact ⟨fun x hx => by simp at hx, by simp⟩
theorem rowsS_len (n p c : Int) : ∀ (k : Nat) (bs : List Int) (e : Int) (rows : List DS6), rows.length + k ≤ 100 → List.length (α := DS6) (rowsS n p c k bs e rows).1.2.2.2.1 ≤ 100 := by
  have fin : ∀ (bs : List Int) (e : Int) (rows : List DS6), rows.length ≤ 100 → List.length (α := DS6) (finB n p c bs e rows).1.2.2.2.1 ≤ 100 := by
    intro bs e rows h
    unfold finB
    split
    · simp
    · exact h
  intro k
  induction k with
  | zero => intro bs e rows h; exact fin bs e rows (by omega)
  | succ k ih =>
    intro bs e rows h
    unfold rowsS
    split
    · exact fin bs e rows (by omega)
    · exact ih _ _ _ (by simp; omega)
theorem decB_len (bs : List Int) (h : BytL bs) : List.length (α := DS6) (decB bs).1.2.2.2.1 ≤ 100 := by
  unfold decB
  have := count_rng (nextS (nextS (nextS bs 0).2.1 (nextS bs 0).2.2.1).2.1 (nextS (nextS bs 0).2.1 (nextS bs 0).2.2.1).2.2.1).2.1 (nextS (nextS (nextS bs 0).2.1 (nextS bs 0).2.2.1).2.1 (nextS (nextS bs 0).2.1 (nextS bs 0).2.2.1).2.2.1).2.2.1 (((h.next _).next _).next _)
  exact rowsS_len _ _ _ _ _ _ _ (by simp; omega)
/-- A deck's bordereau can be written. -/
theorem encB_deck (a b c : Int) (rs : List DS6) (ha : 0 ≤ a ∧ a < 300) (hb : 0 ≤ b ∧ b < 16) (hc : 0 ≤ c ∧ c < 200) (hl : rs.length ≤ 10) (hr : ∀ x ∈ rs, RowOk b x) : (encB (a, b, c, rs, ())).2.1 = 0 := by
  unfold encB
  dsimp only
  rw [if_neg (by omega), if_pos (List.all_eq_true.2 fun r hm => decide_eq_true (hr r hm).1)]
  unfold encodeS
  rw [if_pos]
  rw [List.all_append, Bool.and_eq_true]
  refine ⟨?_, ?_⟩
  · simp only [bordN, List.all_cons, List.all_nil, lenI_eq, Bool.and_eq_true]
    exact ⟨vAmt_t (by omega) (by omega), vAmt_t (by omega) (by omega), vAmt_t (by omega) (by omega), vAmt_t (by omega) (by omega), trivial⟩
  · rw [List.all_eq_true]
    intro v hv
    obtain ⟨r, h1, h2⟩ := List.mem_flatMap.1 hv
    exact (hr r h1).2 v h2
theorem law_bord (c : DS7) (raw deck : List Int) (at_ by_ : Int) (hraw : Byt raw) (hd : DeckOk deck 0) (hb : 0 ≤ by_ ∧ by_ ≤ 255) : m6 c raw deck at_ by_ = some (true, ()) := by
  refine T.eq ?_
  unfold m6
  refine T.cnd (fun _ => T.callE awake_ok (T.ret rfl)) (fun hc => ?_)
  simp only [iLt_T, iLt_F, iLe_T, iLe_F, iEq_T, iEq_F, iNe_T, iNe_F, bnd_T, bnd_F, inB_T, inB_F, fits_T, fitsI_T, cutOk_T, someE_T, someE_F, leN_T, not_T, not_F, and_T, and_F, or_T, or_F, candF_T, candF_F, corT_T, corT_F, bEqT_T, bEqT_F, bEqF_T, bEqF_F, eq_self, or_true, true_or, and_true, true_and, or_false, false_or, and_false, false_and, not_true_eq_false, not_false_eq_true, Bool.true_eq_false, Bool.false_eq_true, lenI_eq] at hc
  refine T.callE (show m10 deck = some (deck, 0, ()) from rfl) ?_
  refine T.call (bord_T hd) (fun u ⟨_, u1, u2, u3, u4, u5⟩ => ?_)
  have hx := encB_deck u.1 u.2.1 u.2.2.1 u.2.2.2.2.2.1 u1 u2 u3 u4 u5
  generalize hxs : ([(c.1, c.2.1, c.2.2.1, c.2.2.2.1, ()), (u.1, u.2.1, u.2.2.1, u.2.2.2.2.2.1, ())] : List DS7) = xs
  have hxl : xs.length = 2 := by rw [← hxs]; rfl
  refine T.along xs.length (fun k => (raw, at_, by_, lenI xs, (k : Int), u.1, u.2.1, u.2.2.1, xs, u.2.2.2.2.2.1, ())) (fun k hk => ?_) ?_
  · dsimp only
    refine T.ct (iLt_t (by rw [lenI_eq]; omega)) ?_
    refine T.grd (bnd_t (by omega) (by rw [lenI_eq]; omega)) ?_
    refine T.grd (inB_t (by simpa using hk)) ?_
    refine T.callE (encB_m _) (T.callE (encB_r _) ?_)
    refine T.callE (same_refl _ (by have := (encB_byt ((List.getD xs (Int.toNat (k : Int)) (0, 0, 0, [], ())).1, (List.getD xs (Int.toNat (k : Int)) (0, 0, 0, [], ())).2.1, (List.getD xs (Int.toNat (k : Int)) (0, 0, 0, [], ())).2.2.1, (List.getD xs (Int.toNat (k : Int)) (0, 0, 0, [], ())).2.2.2.1, ())).2; omega)) ?_
    refine T.cf (by rw [iNe_f rfl]; rfl) ?_
    exact T.go (by rw [iAdd64 (by omega) (by omega)]; rfl) (by simp)
  · dsimp only
    refine T.cf (iLt_f (by rw [lenI_eq]; omega)) ?_
    refine T.mapL ?_
    refine T.callE (encB_r _) ?_
    have hbb := encB_byt (u.1, u.2.1, u.2.2.1, u.2.2.2.2.2.1, ())
    refine T.cf (iNe_f hx) ?_
    refine T.call (spoilt_T _ _ _ hbb.1 (by omega) hb) (fun v ⟨v1, v2⟩ => ?_)
    generalize hys : ([raw, (encB (u.1, u.2.1, u.2.2.1, u.2.2.2.2.2.1, ())).1, v.1] : List (List Int)) = ys
    have hyl : ys.length = 3 := by rw [← hys]; rfl
    have hyb : ∀ y ∈ ys, BytL y := by
      rw [← hys]
      intro y hy
      simp only [List.mem_cons, List.not_mem_nil, or_false] at hy
      rcases hy with rfl | rfl | rfl
      · exact ⟨hraw, by omega⟩
      · exact ⟨hbb.1, by omega⟩
      · exact ⟨v1, by omega⟩
    refine T.along ys.length (fun k => (lenI ys, (k : Int), ys, ())) (fun k hk => ?_) ?_
    · dsimp only
      refine T.ct (iLt_t (by rw [lenI_eq]; omega)) ?_
      refine T.grd (bnd_t (by omega) (by rw [lenI_eq]; omega)) ?_
      refine T.grd (inB_t (by simpa using hk)) ?_
      have hk' : (Int.toNat (k : Int)) < ys.length := by omega
      rw [getD_get _ hk']
      have hy := hyb _ (List.getElem_mem hk')
      refine T.callE (decB_m _ hy) (T.callE (decB_r _ hy) ?_)
      refine T.callE (sameB_refl _ (by have := decB_len _ hy; dsimp only; omega)) ?_
      refine T.cf (by rw [iNe_f rfl]; rfl) ?_
      exact T.go (by rw [iAdd64 (by omega) (by omega)]; rfl) (by simp)
    · dsimp only
      refine T.cf (iLt_f (by rw [lenI_eq]; omega)) ?_
      exact T.mapL (T.callE awake_ok (T.ret rfl))
end Abs
end Go.Proofs.Ytbghnjkieghloaa
