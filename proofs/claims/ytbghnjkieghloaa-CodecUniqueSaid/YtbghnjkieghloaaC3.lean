/- Codec: the laws about numbers. -/
import Derived.Test.YtbghnjkieghloaaC2
namespace Go.Proofs.Ytbghnjkieghloaa
namespace Abs
set_option linter.unusedVariables false
set_option linter.unusedSimpArgs false
def DeckOk (L : List Int) (a : Int) : Prop := (∀ x ∈ L, -9223372036854775808 ≤ x ∧ x ≤ 9223372036854775807) ∧ L.length ≤ 9223372036854775807 ∧ 0 ≤ a
theorem next_ok {L : List Int} {a n : Int} (h : DeckOk L a) (hn : 0 < n) (hn2 : n ≤ 4611686018427387904) : ∃ v a', m32 n L a = some (v, L, a', ()) ∧ 0 ≤ v ∧ v < n ∧ DeckOk L a' := by
  obtain ⟨h1, h2, h3⟩ := h
  unfold m32
  by_cases hl : (L.length : Int) ≤ a
  · refine ⟨0, a, ?_, by omega, hn, h1, h2, h3⟩
    rw [iLe_t (by simpa [lenI] using hl)]; rfl
  · have hlt : a.toNat < L.length := by omega
    have ha : a = (a.toNat : Int) := by omega
    have hx := h1 L[a.toNat] (List.getElem_mem _)
    have e1 : iSub .i64 (iAdd .i64 a 1) 1 = (a.toNat : Int) := by rw [iAdd64 (by omega) (by omega), iSub64 (by omega) (by omega)]; omega
    have b1 := Int.tmod_lt_of_pos L[a.toNat] hn
    have b2 : -n < L[a.toNat].tmod n := by have := Int.lt_tmod_of_pos L[a.toNat] hn; omega
    have e2 : iAdd .i64 (iRem L[a.toNat] n) n = L[a.toNat].tmod n + n := iAdd64 (by simp only [iRem]; omega) (by simp only [iRem]; omega)
    refine ⟨(L[a.toNat].tmod n + n) % n, a + 1, ?_, Int.emod_nonneg _ (by omega), Int.emod_lt_of_pos _ hn, h1, h2, by omega⟩
    rw [iLe_f (by simp only [lenI]; omega), e1]
    simp (disch := omega) only [cond_false, bnd_t, lenI, cond_true, iNe_t, atI_get, e2, iAdd64, iRem_pos]
theorem upto_ok {L : List Int} {a n : Int} (h : DeckOk L a) (h0 : 0 ≤ n) (h1 : n ≤ 4611686018427387903) : ∃ v a', m11 n L a = some (v, L, a', ()) ∧ 0 ≤ v ∧ v ≤ n ∧ DeckOk L a' := by
  unfold m11
  obtain ⟨v0, a0, e0, p0, q0, d0⟩ := next_ok (n := 6) h (by omega) (by omega)
  rw [e0]
  simp only [Option.bind_some]
  by_cases c0 : v0 = 0
  · obtain ⟨v, a', e, p, q, d⟩ := next_ok (n := 4) d0 (by omega) (by omega)
    rw [iEq_t c0, e]
    exact ⟨min v n, a', rfl, by omega, by omega, d⟩
  rw [iEq_f c0]
  simp only [cond_false]
  by_cases c1 : v0 = 1
  · obtain ⟨v, a', e, p, q, d⟩ := next_ok (n := 100) d0 (by omega) (by omega)
    rw [iEq_t c1, e]
    exact ⟨min v n, a', rfl, by omega, by omega, d⟩
  rw [iEq_f c1]
  simp only [cond_false]
  by_cases c2 : v0 = 2
  · obtain ⟨v, a', e, p, q, d⟩ := next_ok (n := 1048576) d0 (by omega) (by omega)
    rw [iEq_t c2, e]
    exact ⟨min v n, a', rfl, by omega, by omega, d⟩
  rw [iEq_f c2]
  simp only [cond_false]
  have e1 : iAdd .i64 n 1 = n + 1 := iAdd64 (by omega) (by omega)
  rw [e1]
  by_cases c3 : v0 = 3
  · have e2 : iMin 3 (n + 1) = min 3 (n + 1) := rfl
    obtain ⟨v, a', e, p, q, d⟩ := next_ok (n := min 3 (n + 1)) d0 (by omega) (by omega)
    rw [iEq_t c3, e2, e]
    exact ⟨n - v, a', by simp only [cond_true, Option.bind_some]; rw [iSub64 (by omega) (by omega)], by omega, by omega, d⟩
  rw [iEq_f c3]
  obtain ⟨v, a', e, p, q, d⟩ := next_ok (n := n + 1) d0 (by omega) (by omega)
  rw [e]
  exact ⟨v, a', rfl, by omega, by omega, d⟩
def encNs (xs : List Int) : List Int := xs.flatMap fun x => enc (zz x)
theorem enc7 {x : Int} (h : vAmt x = true) : (enc (zz x)).length ≤ 7 := enc_len 6 _ (by have := zz_lt h; omega)
theorem encNs_len : ∀ (xs : List Int), (∀ x ∈ xs, vAmt x = true) → (encNs xs).length ≤ 7 * xs.length := by
  intro xs
  induction xs with
  | nil => intro _; simp [encNs]
  | cons x xs ih =>
    intro h
    have h1 := ih fun y hy => h y (by simp [hy])
    have h2 := enc7 (h x (by simp))
    simp only [encNs, List.flatMap_cons, List.length_append, List.length_cons] at h1 ⊢
    omega
/-- Numbers as the codec writes them. -/
def encodeS (xs : List Int) : List Int × Int × Unit := if xs.all vAmt = true then (encNs xs, 0, ()) else ([], 1, ())
theorem encode_m (xs : List Int) (hl : xs.length ≤ 10000) : m41 xs = some (encodeS xs) := by
  unfold m41
  refine loop_goal (fun o => o = some (encodeS xs)) (fun s => ∃ k : Nat, k ≤ xs.length ∧ (∀ x ∈ xs.take k, vAmt x = true) ∧ s = (xs, lenI xs, (k : Int), encNs (xs.take k), ())) (fun s => xs.length - s.2.2.1.toNat) ?_ _ ⟨0, by omega, by simp, by simp [encNs]⟩
  rintro _ ⟨k, hk, hv, rfl⟩
  dsimp only
  have hlen := encNs_len _ hv
  have hlen : (encNs (xs.take k)).length ≤ 7 * k := by rw [List.length_take] at hlen; omega
  by_cases hkl : k < xs.length
  · rw [iLt_t (by rw [lenI_eq]; omega), bnd_t (by omega) (by rw [lenI_eq]; omega), atI_get _ hkl, valid_m]
    simp only [cond_true, Option.bind_some]
    cases hx : vAmt xs[k] with
    | false =>
      right
      refine ⟨([], 1, ()), rfl, ?_⟩
      unfold encodeS
      rw [if_neg]
      intro q
      rw [List.all_eq_true.1 q xs[k] (List.getElem_mem _)] at hx; cases hx
    | true =>
      left
      rw [append_m _ _ hx (by omega)]
      have ht : xs.take (k + 1) = xs.take k ++ [xs[k]] := by rw [List.take_append_getElem]
      refine ⟨(xs, lenI xs, ((k + 1 : Nat) : Int), encNs (xs.take (k + 1)), ()), ?_, ⟨k + 1, by omega, fun x hm => ?_, rfl⟩, by show xs.length - (k + 1) < xs.length - k; omega⟩
      · simp only [Bool.not_true, cond_false, Option.bind_some]
        have he : encNs (xs.take (k + 1)) = encNs (xs.take k) ++ enc (zz xs[k]) := by rw [ht]; unfold encNs; rw [List.flatMap_append]; simp only [List.flatMap_cons, List.flatMap_nil, List.append_nil]
        rw [iAdd64 (by omega) (by omega), he]; rfl
      · rw [ht] at hm
        rcases List.mem_append.1 hm with q | q
        · exact hv x q
        · simp at q; rw [q]; exact hx
  · right
    have hkk : k = xs.length := by omega
    subst hkk
    rw [List.take_length] at hv ⊢
    rw [iLt_f (by rw [lenI_eq]; omega)]
    refine ⟨(encNs xs, 0, ()), rfl, ?_⟩
    unfold encodeS
    rw [if_pos (List.all_eq_true.2 hv)]
theorem next0 (bs : List Int) (hB : Byt bs) (hl : bs.length ≤ 140737488356000) (v : Int) (k : Nat) (h : numS bs = (v, (k : Int), 0, ())) (hk : k ≤ bs.length) : m44 bs 0 = some (v, bs.drop k, 0, ()) := by
  unfold m44
  rw [iNe_f rfl, dec_m bs hB hl, h]
  simp only [cond_false, Option.bind_some]
  rw [iNe_f rfl]
  simp only [cond_false]
  rw [cutOk_t (by omega) (by omega) (by omega)]
  simp only [cond_true]
  congr 2
  show ((bs.take (bs.length)).drop k, (0 : Int), ()) = _
  rw [List.take_length]
theorem byt_of (bs : List Int) (h : bs.all (fun x => decide (0 ≤ x ∧ x ≤ 255)) = true) : Byt bs := fun x hx => of_decide_eq_true (List.all_eq_true.1 h x hx)
theorem awake_ok : m9 = some (true, ()) := by
  unfold m9
  have z1 : enc 128 = [128, 1] := by rw [enc_hi (by omega), enc_lo (by omega)]; rfl
  have a1 : m13 [] 64 = some ([128, 1], 0, ()) := by
    rw [number_m [] 64 (by simp)]
    show some (appN [] 64) = _
    unfold appN
    rw [if_pos (by decide)]
    show some ([] ++ enc 128, (0 : Int), ()) = _
    rw [z1]; rfl
  have a2 : m19 (3, [], 5, 0, 2, 0, ()) = some ([6, 10, 4], 0, ()) := by
    have b1 : m39 3 = some (true, ()) := rfl
    have b2 : m40 (3, [], 5, 0, 2, 0, ()) = some ([5, 2], (3, [], 5, 0, 2, 0, ()), ()) := rfl
    have b3 : m41 [3, 5, 2] = some ([6, 10, 4], 0, ()) := by
      rw [encode_m _ (by decide)]
      unfold encodeS
      rw [if_pos (by decide)]
      show some (enc 6 ++ (enc 10 ++ (enc 4 ++ [])), (0 : Int), ()) = _
      rw [enc_lo (by omega), enc_lo (by omega), enc_lo (by omega)]; rfl
    unfold m19
    simp only []
    rw [b1]
    simp only [Option.bind_some, Bool.not_true, cond_false]
    rw [b2]
    simp only [Option.bind_some]
    show Option.bind (m41 ([3] ++ [5, 2])) _ = _
    show Option.bind (m41 [3, 5, 2]) _ = _
    rw [b3]; rfl
  have c1 : m44 [6, 10, 4] 0 = some (3, [10, 4], 0, ()) := next0 _ (byt_of _ (by decide)) (by decide) 3 1 (by decide) (by decide)
  have c2 : m44 [10, 4] 0 = some (5, [4], 0, ()) := next0 _ (byt_of _ (by decide)) (by decide) 5 1 (by decide) (by decide)
  have c3 : m44 [4] 0 = some (2, [], 0, ()) := next0 _ (byt_of _ (by decide)) (by decide) 2 1 (by decide) (by decide)
  have a3 : m22 [6, 10, 4] = some ((3, [], 5, 0, 2, 0, ()), 0, ()) := by
    unfold m22
    rw [c1]
    show Option.bind (m44 [10, 4] 0) _ = _
    rw [c2]
    show Option.bind (m44 [4] 0) _ = _
    rw [c3]
    rfl
  rw [a1]
  simp only [Option.bind_some]
  rw [a2]
  simp only [Option.bind_some]
  rw [a3]
  simp only [Option.bind_some]
  show Option.bind (m15 [128, 1] [128, 1]) _ = _
  rw [same_refl _ (by decide)]
  show Option.bind (m15 [6, 10, 4] [6, 10, 4]) _ = _
  rw [same_refl _ (by decide)]
  rfl
theorem clamp_ok (n : Int) : ∃ c, m12 n = some (c, ()) ∧ vAmt c = true := by
  unfold m12
  by_cases h1 : 17592186044416 < n
  · rw [iLt_t h1]; exact ⟨_, rfl, by decide⟩
  · rw [iLt_f (by omega)]
    by_cases h2 : n < -17592186044416
    · rw [iLt_t h2]; exact ⟨_, rfl, by decide⟩
    · rw [iLt_f (by omega)]; exact ⟨n, rfl, by unfold vAmt; exact decide_eq_true ⟨by omega, by omega⟩⟩
theorem law_number (b : List Int) (n : Int) (deck : List Int) (hB : Byt b) (hd : DeckOk deck 0) : m3 b n deck = some (true, ()) := by
  unfold m3
  by_cases hl : 100 < b.length
  · rw [iLt_t (by rw [lenI_eq]; omega), awake_ok]; rfl
  rw [iLt_f (by rw [lenI_eq]; omega)]
  simp only [cond_false]
  have e10 : m10 deck = some (deck, 0, ()) := rfl
  rw [e10]
  simp only [Option.bind_some]
  obtain ⟨k, a', e11, _, _, _⟩ := upto_ok (n := 17592186044416) hd (by omega) (by omega)
  rw [e11]
  simp only [Option.bind_some]
  obtain ⟨c, e12, _⟩ := clamp_ok n
  rw [e12]
  simp only [Option.bind_some]
  generalize hxs : ([n, c, k, iNeg .i64 k] : List Int) = xs
  have hxl : xs.length = 4 := by rw [← hxs]; rfl
  refine loop_to (fun j => (b, lenI xs, (j : Int), xs, ())) xs.length (fun j hj => ?_) ?_
  · dsimp only
    have hnl : ∀ x, (appN b x).1.length ≤ 1000000 := fun x => by
      unfold appN
      cases hx : vAmt x with
      | true => simp only [if_true, List.length_append]; have := enc7 hx; omega
      | false => simp
    rw [iLt_t (by rw [lenI_eq]; omega), bnd_t (by omega) (by rw [lenI_eq]; omega), inB_t (by simpa using hj), number_m _ _ (by omega), number_r _ _ (by omega)]
    simp only [cond_true, Option.bind_some]
    rw [same_refl _ (hnl _), iNe_f rfl, iAdd64 (by omega) (by omega)]; rfl
  · dsimp only
    rw [iLt_f (by rw [lenI_eq]; omega)]
    simp only [cond_false]
    apply map_inr
    rw [dec_m b hB (by omega), dec_r b hB (by omega)]
    simp only [Option.bind_some]
    rw [iEq_t rfl, iEq_t rfl, iEq_t rfl, awake_ok]; rfl
theorem tw_enc : ∀ (u : Nat) (r : List Int), tw (enc u ++ r) + 1 = (enc u).length := by
  intro u
  induction u using Nat.strongRecOn with
  | _ u ih =>
    intro r
    by_cases h : u < 128
    · rw [enc_lo h]
      simp only [List.singleton_append, tw, List.length_singleton]
      rw [if_neg (by omega)]
    · rw [enc_hi (by omega)]
      have := ih (u / 128) (by omega) r
      simp only [List.cons_append, tw, List.length_cons]
      rw [if_pos (by omega)]; omega
theorem val_enc : ∀ (u : Nat), val (enc u) = u := by
  intro u
  induction u using Nat.strongRecOn with
  | _ u ih =>
    by_cases h : u < 128
    · rw [enc_lo h]
      simp only [val]
      omega
    · rw [enc_hi (by omega)]
      have := ih (u / 128) (by omega)
      simp only [val, this]
      omega
theorem enc_last : ∀ (u : Nat), 128 ≤ u → ∀ (r : List Int), (enc u ++ r).getD (tw (enc u ++ r)) 0 ≠ 0 := by
  intro u
  induction u using Nat.strongRecOn with
  | _ u ih =>
    intro hu r
    rw [enc_hi hu]
    have ht : tw ((((u % 128 + 128 : Nat) : Int) :: enc (u / 128)) ++ r) = tw (enc (u / 128) ++ r) + 1 := by
      simp only [List.cons_append, tw]; rw [if_pos (by omega)]
    rw [ht]
    simp only [List.cons_append, List.getD_cons_succ]
    by_cases h : u / 128 < 128
    · rw [enc_lo h]
      have : tw ([((u / 128 : Nat) : Int)] ++ r) = 0 := by simp only [List.singleton_append, tw]; rw [if_neg (by omega)]
      rw [this]
      simp only [List.singleton_append, List.getD_cons_zero]
      omega
    · exact ih (u / 128) (by omega) (by omega) r
theorem enc_byt : ∀ (u : Nat), Byt (enc u) := by
  intro u
  induction u using Nat.strongRecOn with
  | _ u ih =>
    by_cases h : u < 128
    · rw [enc_lo h]; intro x hx; simp at hx; omega
    · rw [enc_hi (by omega)]
      intro x hx
      rcases List.mem_cons.1 hx with q | q
      · omega
      · exact ih (u / 128) (by omega) x q
theorem dz_zz (n : Int) : dz (zz n) = n := by
  unfold dz zz
  by_cases h : n < 0
  · rw [if_pos h, if_pos (by omega)]; omega
  · rw [if_neg h, if_neg (by omega)]; omega
/-- A number is read back. -/
theorem num_back (n : Int) (r : List Int) (h : vAmt n = true) : numS (enc (zz n) ++ r) = (n, ((enc (zz n)).length : Int), 0, ()) := by
  have ht := tw_enc (zz n) r
  have h7 := enc7 h
  have hz := zz_lt h
  have htk : (enc (zz n) ++ r).take (tw (enc (zz n) ++ r) + 1) = enc (zz n) := by rw [ht]; simp
  unfold numS
  rw [htk, val_enc, if_neg (by simp only [List.length_append]; omega), if_neg, if_neg (by omega), dz_zz, ht]
  rintro ⟨q1, q2⟩
  by_cases hu : zz n < 128
  · rw [enc_lo hu] at ht; simp at ht; rw [enc_lo hu] at q1; simp at q1; omega
  · exact enc_last _ (by omega) r q2
/-- The second law, where the bytes fit in memory. -/
theorem law_numbers (n : Int) (after : List Int) (hB : Byt after) (hl : after.length ≤ 140737488351232) : m4 n after = some (true, ()) := by
  unfold m4
  obtain ⟨c, e12, hc⟩ := clamp_ok n
  have h7 := enc7 hc
  have h1 := enc_pos (zz c)
  rw [e12]
  simp only [Option.bind_some]
  rw [number_m _ _ (by simp)]
  have ea : appN [] c = (enc (zz c), 0, ()) := by unfold appN; rw [if_pos hc]; rfl
  simp only [Option.bind_some]
  rw [ea]
  simp only [List.nil_append]
  rw [fits_t (by simp; omega) (by simp; omega), fits_t (by omega) (by omega)]
  simp only [cond_true]
  rw [dec_m _ (fun x hx => (List.mem_append.1 hx).elim (enc_byt _ x) (hB x)) (by simp only [List.length_append]; omega), num_back c after hc]
  simp only [Option.bind_some]
  rw [lenI_eq, iEq_t rfl, iEq_t rfl, iEq_t rfl, iLe_t (by omega), iLe_t (by omega), awake_ok]
  rfl
end Abs
end Go.Proofs.Ytbghnjkieghloaa
