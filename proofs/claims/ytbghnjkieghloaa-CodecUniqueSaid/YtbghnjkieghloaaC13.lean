/- Codec: what is written is read as it was; there is one encoding only. -/
import Derived.Test.YtbghnjkieghloaaC12
namespace Go.Proofs.Ytbghnjkieghloaa
namespace Abs
set_option linter.unusedVariables false
set_option linter.unusedSimpArgs false
theorem next_back (n : Int) (r : List Int) (h : vAmt n = true) : nextS (enc (zz n) ++ r) 0 = (n, r, 0, ()) := by
  unfold nextS
  rw [num_back n r h, if_neg (by simp), if_neg (by simp)]
  have ht := tw_enc (zz n) r
  rw [ht]
  simp
theorem encNs_cons (x : Int) (xs : List Int) : encNs (x :: xs) = enc (zz x) ++ encNs xs := by simp [encNs]
theorem encNs_app (xs ys : List Int) : encNs (xs ++ ys) = encNs xs ++ encNs ys := by simp [encNs]
theorem nxN_back : ∀ (xs r : List Int), (∀ v ∈ xs, vAmt v = true) → nxN xs.length (encNs xs ++ r) 0 = (xs, r, 0) := by
  intro xs
  induction xs with
  | nil => intro r _; rfl
  | cons x xs ih =>
    intro r h
    rw [encNs_cons, List.append_assoc]
    show nxN (xs.length + 1) _ _ = _
    unfold nxN
    rw [next_back x _ (h x (by simp))]
    dsimp only
    rw [ih r (fun v hv => h v (by simp [hv]))]
/-- A number's bytes are the only ones. -/
theorem enc_val : ∀ (l : List Int), tw l + 1 = l.length → Byt l → (l.length = 1 ∨ l.getD (l.length - 1) 0 ≠ 0) → enc (val l) = l ∧ (l.getD (l.length - 1) 0 ≠ 0 → 0 < val l) := by
  intro l
  induction l with
  | nil => intro h; simp at h
  | cons b l ih =>
    intro ht hb hl
    have hb0 := hb b (by simp)
    cases l with
    | nil =>
      have : b < 128 := by
        by_cases q : 128 ≤ b
        · simp [tw, q] at ht
        · omega
      have ev : val [b] = b.toNat := by simp only [val]; omega
      refine ⟨?_, fun q => ?_⟩
      · rw [ev, enc_lo (by omega)]; congr 1; omega
      · rw [ev]
        have : b ≠ 0 := by simpa using q
        omega
    | cons c l =>
      have h128 : 128 ≤ b := by
        by_cases q : 128 ≤ b
        · exact q
        · simp [tw, q] at ht
      have ht' : tw (c :: l) + 1 = (c :: l).length := by
        have e : tw (b :: c :: l) = tw (c :: l) + 1 := by conv => lhs; unfold tw
                                                          rw [if_pos h128]
        rw [e] at ht; simpa using ht
      have hne : (c :: l).getD ((c :: l).length - 1) 0 ≠ 0 := by
        rcases hl with q | q
        · simp at q
        · simpa using q
      obtain ⟨i1, i2⟩ := ih ht' (fun x hx => hb x (by simp [hx])) (.inr hne)
      have hv := i2 hne
      have ev : val (b :: c :: l) = b.toNat % 128 + 128 * val (c :: l) := rfl
      refine ⟨?_, fun _ => by omega⟩
      rw [ev, enc_hi (by omega), show (b.toNat % 128 + 128 * val (c :: l)) / 128 = val (c :: l) by omega, i1]
      congr 1; omega
theorem zz_dz (u : Nat) : zz (dz u) = u := by
  unfold zz dz
  split <;> split <;> omega
theorem num_uniq (bs : List Int) (hB : Byt bs) (h : (numS bs).2.2.1 = 0) : vAmt (numS bs).1 = true ∧ enc (zz (numS bs).1) = bs.take (tw bs + 1) := by
  have hle := tw_le bs
  by_cases h1 : 10 ≤ tw bs ∨ tw bs = bs.length
  · unfold numS at h; rw [if_pos h1] at h; cases h
  by_cases h2 : 0 < tw bs ∧ bs.getD (tw bs) 0 = 0
  · unfold numS at h; rw [if_neg h1, if_pos h2] at h; cases h
  by_cases h3 : 35184372088832 < val (bs.take (tw bs + 1))
  · unfold numS at h; rw [if_neg h1, if_neg h2, if_pos h3] at h; cases h
  have e : (numS bs).1 = dz (val (bs.take (tw bs + 1))) := by unfold numS; rw [if_neg h1, if_neg h2, if_neg h3]
  rw [e, zz_dz]
  have hl : (bs.take (tw bs + 1)).length = tw bs + 1 := by rw [List.length_take]; omega
  have htw : tw (bs.take (tw bs + 1)) = tw bs := by
    have key : ∀ (l : List Int), tw l < l.length → tw (l.take (tw l + 1)) = tw l := by
      intro l
      induction l with
      | nil => intro q; simp at q
      | cons x l ih =>
        intro q
        by_cases hx : 128 ≤ x
        · have e : tw (x :: l) = tw l + 1 := by simp [tw, hx]
          rw [e] at q ⊢
          rw [List.take_succ_cons]
          have := ih (by simpa using q)
          simp [tw, hx, this]
        · have e : tw (x :: l) = 0 := by simp [tw, hx]
          rw [e]; simp [tw, hx]
    exact key bs (by omega)
  have hlast : (bs.take (tw bs + 1)).getD ((bs.take (tw bs + 1)).length - 1) 0 = bs.getD (tw bs) 0 := by
    rw [hl, Nat.add_sub_cancel]
    simp only [List.getD, List.getElem?_take]
    rw [if_pos (by omega)]
  refine ⟨?_, (enc_val _ (by rw [htw, hl]) (byt_take hB _) ?_).1⟩
  · refine vAmt_t ?_ ?_ <;> unfold dz <;> split <;> omega
  · rw [hlast, hl]
    by_cases q : tw bs = 0
    · left; omega
    · right; intro q2; exact h2 ⟨by omega, q2⟩
theorem next_e0 {bs : List Int} {e : Int} (h : (nextS bs e).2.2.1 = 0) : e = 0 := by
  by_cases q : e = 0
  · exact q
  · rw [next_err bs q] at h; exact h
theorem next_uniq {bs : List Int} (hB : Byt bs) (h : (nextS bs 0).2.2.1 = 0) : vAmt (nextS bs 0).1 = true ∧ bs = enc (zz (nextS bs 0).1) ++ (nextS bs 0).2.1 := by
  unfold nextS at h ⊢
  rw [if_neg (by simp)] at h ⊢
  by_cases q : (numS bs).2.2.1 ≠ 0
  · rw [if_pos q] at h; exact absurd h q
  · have q' : (numS bs).2.2.1 = 0 := by simpa using q
    rw [if_neg q]
    obtain ⟨h1, h2⟩ := num_uniq bs hB q'
    refine ⟨h1, ?_⟩
    dsimp only
    rw [h2, List.take_append_drop]
theorem nxN_uniq : ∀ (k : Nat) (bs : List Int) (e : Int), BytL bs → (nxN k bs e).2.2 = 0 → e = 0 ∧ (∀ v ∈ (nxN k bs e).1, vAmt v = true) ∧ bs = encNs (nxN k bs e).1 ++ (nxN k bs e).2.1 := by
  intro k
  induction k with
  | zero => intro bs e hB h; exact ⟨h, by simp [nxN], by simp [nxN, encNs]⟩
  | succ k ih =>
    intro bs e hB h
    obtain ⟨h1, h2, h3⟩ := ih _ _ (hB.next e) h
    have he := next_e0 h1
    subst he
    obtain ⟨q1, q2⟩ := next_uniq hB.1 h1
    refine ⟨rfl, ?_, ?_⟩
    · intro v hv
      rcases List.mem_cons.1 hv with rfl | hv
      · exact q1
      · exact h2 v hv
    · show bs = encNs (_ :: (nxN k (nextS bs 0).2.1 (nextS bs 0).2.2.1).1) ++ (nxN k (nextS bs 0).2.1 (nextS bs 0).2.2.1).2.1
      rw [encNs_cons, List.append_assoc, ← h3, ← q2]
theorem end_e0 {bs : List Int} {e : Int} (h : endS bs e = 0) : e = 0 ∧ bs = [] := by
  unfold endS at h
  split at h
  · cases h
  · rename_i q
    exact ⟨h, List.length_eq_zero_iff.1 (by omega)⟩
theorem end_0 : endS [] 0 = 0 := rfl
/-- Losses are read back. -/
theorem mkLo_losN (x : DS0) : mkLo (losN x) = x := rfl
theorem loS_back : ∀ (ls : List DS0) (r : List Int) (rows : List DS0), (∀ x ∈ ls, ∀ v ∈ losN x, vAmt v = true) → loS ls.length (encNs (ls.flatMap losN) ++ r) 0 rows = (r, 0, rows ++ ls) := by
  intro ls
  induction ls with
  | nil => intro r rows _; simp [loS, encNs]
  | cons x ls ih =>
    intro r rows h
    show loS (ls.length + 1) _ _ _ = _
    rw [loS_go, List.flatMap_cons, encNs_app, List.append_assoc]
    have hb := nxN_back (losN x) (encNs (ls.flatMap losN) ++ r) (h x (by simp))
    have hb : nxN 10 (encNs (losN x) ++ (encNs (ls.flatMap losN) ++ r)) 0 = _ := hb
    rw [hb]
    dsimp only
    rw [ih r _ (fun y hy => h y (by simp [hy])), mkLo_losN, List.append_assoc]; rfl
theorem count_back (n : Nat) (r : List Int) (h : n ≤ 64) : countS 64 (enc (zz (n : Int)) ++ r) 0 = ((n : Int), r, 0, ()) := by
  unfold countS
  rw [next_back (n : Int) r (vAmt_t (by omega) (by omega)), if_pos rfl, if_neg (by dsimp only; omega)]
theorem finC_ok (c : DS1) : finC c [] 0 = (c, 0, ()) := by unfold finC; rw [end_0, if_neg (by simp)]
/-- What can be encoded. -/
theorem encC_ok {c : DS1} (h : (encC c).2.1 = 0) : (1 ≤ c.1 ∧ c.1 ≤ 5) ∧ zC c ∧ List.length (α := DS0) c.2.1 ≤ 64 ∧ (∀ v ∈ numsC c, vAmt v = true) ∧ (encC c).1 = encNs (numsC c) := by
  unfold encC at h ⊢
  by_cases h1 : 1 ≤ c.1 ∧ c.1 ≤ 5
  case neg => rw [if_pos h1] at h; cases h
  rw [if_neg (fun q => q h1)] at h ⊢
  by_cases h2 : zC c
  case neg => rw [if_pos h2] at h; cases h
  rw [if_neg (fun q => q h2)] at h ⊢
  by_cases h3 : 64 < List.length (α := DS0) c.2.1
  · rw [if_pos h3] at h; cases h
  rw [if_neg h3] at h ⊢
  unfold encodeS at h ⊢
  by_cases h4 : (numsC c).all vAmt = true
  · rw [if_pos h4]
    exact ⟨h1, h2, by omega, List.all_eq_true.1 h4, rfl⟩
  · rw [if_neg h4] at h; cases h
theorem nxN2 (a b : Int) (ha : vAmt a = true) (hb : vAmt b = true) : nxN 2 (encNs [a, b]) 0 = ([a, b], [], 0) := by
  have := nxN_back [a, b] [] (by intro v hv; simp only [List.mem_cons, List.not_mem_nil, or_false] at hv; rcases hv with rfl | rfl <;> assumption)
  rwa [List.append_nil] at this
theorem nxN3 (a b c : Int) (ha : vAmt a = true) (hb : vAmt b = true) (hc : vAmt c = true) : nxN 3 (encNs [a, b, c]) 0 = ([a, b, c], [], 0) := by
  have := nxN_back [a, b, c] [] (by intro v hv; simp only [List.mem_cons, List.not_mem_nil, or_false] at hv; rcases hv with rfl | rfl | rfl <;> assumption)
  rwa [List.append_nil] at this
theorem backC (c : DS1) (h : (encC c).2.1 = 0) : decC (encC c).1 = (c, 0, ()) := by
  obtain ⟨hk, hz, hl, hv, he⟩ := encC_ok h
  rw [he]
  obtain ⟨k, ls, t, o, p, a, u⟩ := c
  change List DS0 at ls
  cases u
  unfold zC at hz
  dsimp only at hk hz hl
  have hvk : vAmt k = true := vAmt_t (by omega) (by omega)
  unfold decC
  rcases (show k = 1 ∨ k = 2 ∨ k = 3 ∨ k = 4 ∨ k = 5 by omega) with rfl | rfl | rfl | rfl | rfl
  · have en : numsC (1, ls, t, o, p, a, ()) = 1 :: (lenI ls :: ls.flatMap losN) := rfl
    rw [en] at hv ⊢
    rw [encNs_cons, next_back 1 _ hvk]
    dsimp only
    rw [if_neg (by simp), if_pos rfl, encNs_cons, lenI_eq, count_back _ _ hl]
    dsimp only
    have hb := loS_back ls [] [] (fun x hx v hv' => hv v (by simp only [List.mem_cons, List.mem_flatMap]; exact .inr (.inr ⟨x, hx, hv'⟩)))
    rw [List.append_nil, List.nil_append] at hb
    rw [Int.toNat_natCast, hb]
    unfold finL
    rw [finC_ok]
    obtain ⟨rfl, rfl, rfl, rfl⟩ : t = 0 ∧ o = 0 ∧ p = 0 ∧ a = 0 := by omega
    rfl
  all_goals (have hls : ls = [] := List.length_eq_zero_iff.1 (by omega); subst hls)
  · have en : numsC (2, [], t, o, p, a, ()) = [2] := rfl
    rw [en, encNs_cons, next_back 2 _ hvk]
    dsimp only
    rw [if_neg (by simp), if_neg (by omega), if_pos rfl, show encNs [] = [] from rfl, finC_ok]
    obtain ⟨rfl, rfl, rfl, rfl⟩ : t = 0 ∧ o = 0 ∧ p = 0 ∧ a = 0 := by omega
    rfl
  · have en : numsC (3, [], t, o, p, a, ()) = [3, t, p] := rfl
    rw [en] at hv ⊢
    rw [encNs_cons, next_back 3 _ hvk]
    dsimp only
    rw [if_neg (by simp), if_neg (by omega), if_neg (by omega), if_pos rfl, nxN2 t p (hv t (by simp)) (hv p (by simp))]
    dsimp only
    rw [finC_ok]
    obtain ⟨rfl, rfl⟩ : o = 0 ∧ a = 0 := by omega
    rfl
  · have en : numsC (4, [], t, o, p, a, ()) = [4, t, p, a] := rfl
    rw [en] at hv ⊢
    rw [encNs_cons, next_back 4 _ hvk]
    dsimp only
    rw [if_neg (by simp), if_neg (by omega), if_neg (by omega), if_neg (by omega), if_pos rfl, nxN3 t p a (hv t (by simp)) (hv p (by simp)) (hv a (by simp))]
    dsimp only
    rw [finC_ok]
    obtain rfl : o = 0 := by omega
    rfl
  · have en : numsC (5, [], t, o, p, a, ()) = [5, t, o] := rfl
    rw [en] at hv ⊢
    rw [encNs_cons, next_back 5 _ hvk]
    dsimp only
    rw [if_neg (by simp), if_neg (by omega), if_neg (by omega), if_neg (by omega), if_neg (by omega), if_pos rfl, nxN2 t o (hv t (by simp)) (hv o (by simp))]
    dsimp only
    rw [finC_ok]
    obtain ⟨rfl, rfl⟩ : p = 0 ∧ a = 0 := by omega
    rfl
theorem encC_mk {c : DS1} (h1 : 1 ≤ c.1 ∧ c.1 ≤ 5) (h2 : zC c) (h3 : List.length (α := DS0) c.2.1 ≤ 64) (h4 : ∀ v ∈ numsC c, vAmt v = true) : encC c = (encNs (numsC c), 0, ()) := by
  unfold encC
  rw [if_neg (fun q => q h1), if_neg (fun q => q h2), if_neg (by omega)]
  unfold encodeS
  rw [if_pos (List.all_eq_true.2 h4)]
theorem finC_inv {c : DS1} {bs : List Int} {e : Int} (h : (finC c bs e).2.1 = 0) : e = 0 ∧ bs = [] ∧ finC c bs e = (c, 0, ()) := by
  unfold finC at h ⊢
  by_cases q : endS bs e ≠ 0
  · rw [if_pos q] at h; exact absurd h q
  · rw [if_neg q]
    have := end_e0 (show endS bs e = 0 by simpa using q)
    exact ⟨this.1, this.2, rfl⟩
theorem losN_mkLo (l : List Int) (h : l.length = 10) : losN (mkLo l) = l := by
  match l, h with
  | [a0, a1, a2, a3, a4, a5, a6, a7, a8, a9], _ => rfl
theorem loS_uniq : ∀ (k : Nat) (bs : List Int) (e : Int) (rows : List DS0), BytL bs → (loS k bs e rows).2.1 = 0 → e = 0 ∧ ∃ ls : List DS0, (loS k bs e rows).2.2 = rows ++ ls ∧ ls.length = k ∧ (∀ v ∈ ls.flatMap losN, vAmt v = true) ∧ bs = encNs (ls.flatMap losN) ++ (loS k bs e rows).1 := by
  intro k
  induction k with
  | zero => intro bs e rows hB h; exact ⟨h, [], by simp [loS], rfl, by simp, by simp [loS, encNs]⟩
  | succ k ih =>
    intro bs e rows hB h
    by_cases he : e = 0
    case neg => rw [loS_err _ _ he] at h; exact absurd h he
    subst he
    rw [loS_go] at h ⊢
    obtain ⟨h1, ls, h2, h3, h4, h5⟩ := ih _ _ _ (nxN_bytl 10 0 hB) h
    obtain ⟨_, q2, q3⟩ := nxN_uniq 10 bs 0 hB h1
    have hl := losN_mkLo _ (nxN_len 10 bs 0)
    refine ⟨rfl, mkLo (nxN 10 bs 0).1 :: ls, by rw [h2, List.append_assoc]; rfl, by simp [h3], ?_, ?_⟩
    · intro v hv
      rw [List.flatMap_cons, hl] at hv
      rcases List.mem_append.1 hv with q | q
      · exact q2 v q
      · exact h4 v q
    · rw [List.flatMap_cons, hl, encNs_app, List.append_assoc, ← h5, ← q3]
theorem count_uniq {bs : List Int} {e : Int} (h : (countS 64 bs e).2.2.1 = 0) : (nextS bs e).2.2.1 = 0 ∧ countS 64 bs e = nextS bs e ∧ 0 ≤ (nextS bs e).1 ∧ (nextS bs e).1 ≤ 64 := by
  unfold countS at h ⊢
  by_cases q : (nextS bs e).2.2.1 = 0
  · rw [if_pos q] at h ⊢
    by_cases q2 : (nextS bs e).1 < 0 ∨ 64 < (nextS bs e).1
    · rw [if_pos q2] at h; cases h
    · rw [if_neg q2]; exact ⟨q, rfl, by omega, by omega⟩
  · rw [if_neg q] at h; exact absurd h q
theorem uniqC (bs : List Int) (hB : BytL bs) (h : (decC bs).2.1 = 0) : encC (decC bs).1 = (bs, 0, ()) := by
  have h1 := hB.next 0
  unfold decC at h ⊢
  by_cases e0 : (nextS bs 0).2.2.1 ≠ 0
  · rw [if_pos e0] at h; exact absurd h e0
  have e0' : (nextS bs 0).2.2.1 = 0 := by simpa using e0
  obtain ⟨u1, u2⟩ := next_uniq hB.1 e0'
  rw [if_neg e0] at h ⊢
  generalize nextS bs 0 = a at *
  by_cases k1 : a.1 = 1
  · rw [if_pos k1] at h ⊢
    rw [k1] at u2
    unfold finL at h ⊢
    obtain ⟨f1, f2, f3⟩ := finC_inv h
    rw [f3]
    have hBc := (count_rng a.2.1 0 h1).2.2
    obtain ⟨g1, ls, g2, g3, g4, g5⟩ := loS_uniq _ _ _ _ hBc f1
    obtain ⟨c1, c2, c3, c4⟩ := count_uniq g1
    obtain ⟨v1, v2⟩ := next_uniq h1.1 c1
    rw [g2, List.nil_append]
    rw [f2, List.append_nil] at g5
    rw [c2] at g3 g5
    have en : numsC (1, ls, 0, 0, 0, 0, ()) = 1 :: (lenI ls :: ls.flatMap losN) := rfl
    have hn : (nextS a.2.1 0).1 = lenI ls := by rw [lenI_eq, g3]; omega
    rw [encC_mk (by dsimp only; omega) (by unfold zC; dsimp only; omega) (by dsimp only; omega) (by
      rw [en]; intro v hv
      rcases List.mem_cons.1 hv with rfl | hv
      · exact vAmt_t (by omega) (by omega)
      rcases List.mem_cons.1 hv with rfl | hv
      · rw [← hn]; exact v1
      · exact g4 v hv), en, encNs_cons, encNs_cons, ← hn, ← g5, ← v2, ← u2]
  rw [if_neg k1] at h ⊢
  by_cases k2 : a.1 = 2
  · rw [if_pos k2] at h ⊢
    rw [k2] at u2
    obtain ⟨f1, f2, f3⟩ := finC_inv h
    rw [f3]
    have en : numsC (2, [], 0, 0, 0, 0, ()) = [2] := rfl
    rw [encC_mk (by dsimp only; omega) (by unfold zC; dsimp only; exact ⟨by omega, by omega, by omega, by omega, by omega, .inr rfl⟩) (Nat.zero_le _) (by rw [en]; intro v hv; rw [List.mem_singleton.1 hv]; exact vAmt_t (by omega) (by omega)), en, encNs_cons, show encNs [] = a.2.1 from f2.symm, ← u2]
  rw [if_neg k2] at h ⊢
  by_cases k3 : a.1 = 3
  · rw [if_pos k3] at h ⊢
    rw [k3] at u2
    obtain ⟨f1, f2, f3⟩ := finC_inv h
    rw [f3]
    obtain ⟨_, g2, g3⟩ := nxN_uniq 2 _ _ h1 f1
    have hl := nxN_len 2 a.2.1 0
    rw [f2, List.append_nil] at g3
    generalize (nxN 2 a.2.1 0).1 = l at *
    match l, hl with
    | [x0, x1], _ =>
      have en : numsC (3, [], x0, 0, x1, 0, ()) = 3 :: [x0, x1] := rfl
      show encC (3, [], x0, 0, x1, 0, ()) = _
      rw [encC_mk (by dsimp only; omega) (by unfold zC; dsimp only; exact ⟨by omega, by omega, by omega, by omega, by omega, .inr rfl⟩) (Nat.zero_le _) (by
        rw [en]; intro v hv
        rcases List.mem_cons.1 hv with rfl | hv
        · exact vAmt_t (by omega) (by omega)
        · exact g2 v hv), en, encNs_cons, ← g3, ← u2]
  rw [if_neg k3] at h ⊢
  by_cases k4 : a.1 = 4
  · rw [if_pos k4] at h ⊢
    rw [k4] at u2
    obtain ⟨f1, f2, f3⟩ := finC_inv h
    rw [f3]
    obtain ⟨_, g2, g3⟩ := nxN_uniq 3 _ _ h1 f1
    have hl := nxN_len 3 a.2.1 0
    rw [f2, List.append_nil] at g3
    generalize (nxN 3 a.2.1 0).1 = l at *
    match l, hl with
    | [x0, x1, x2], _ =>
      have en : numsC (4, [], x0, 0, x1, x2, ()) = 4 :: [x0, x1, x2] := rfl
      show encC (4, [], x0, 0, x1, x2, ()) = _
      rw [encC_mk (by dsimp only; omega) (by unfold zC; dsimp only; exact ⟨by omega, by omega, by omega, by omega, by omega, .inr rfl⟩) (Nat.zero_le _) (by
        rw [en]; intro v hv
        rcases List.mem_cons.1 hv with rfl | hv
        · exact vAmt_t (by omega) (by omega)
        · exact g2 v hv), en, encNs_cons, ← g3, ← u2]
  rw [if_neg k4] at h ⊢
  by_cases k5 : a.1 = 5
  · rw [if_pos k5] at h ⊢
    rw [k5] at u2
    obtain ⟨f1, f2, f3⟩ := finC_inv h
    rw [f3]
    obtain ⟨_, g2, g3⟩ := nxN_uniq 2 _ _ h1 f1
    have hl := nxN_len 2 a.2.1 0
    rw [f2, List.append_nil] at g3
    generalize (nxN 2 a.2.1 0).1 = l at *
    match l, hl with
    | [x0, x1], _ =>
      have en : numsC (5, [], x0, x1, 0, 0, ()) = 5 :: [x0, x1] := rfl
      show encC (5, [], x0, x1, 0, 0, ()) = _
      rw [encC_mk (by dsimp only; omega) (by unfold zC; dsimp only; exact ⟨by omega, by omega, by omega, by omega, by omega, .inr rfl⟩) (Nat.zero_le _) (by
        rw [en]; intro v hv
        rcases List.mem_cons.1 hv with rfl | hv
        · exact vAmt_t (by omega) (by omega)
        · exact g2 v hv), en, encNs_cons, ← g3, ← u2]
  rw [if_neg k5] at h ⊢
  cases h
/-- A row of its numbers. -/
def mk6 (p : Int) (l : List Int) : DS6 := (l.getD 0 0, l.getD 1 0, (l.getD 2 0, l.getD 3 0, p, l.getD 4 0, l.getD 5 0, ()), ())
theorem six_nx (p : Int) (bs : List Int) (e : Int) : sixS p bs e = (mk6 p (nxN 6 bs e).1, (nxN 6 bs e).2.1, (nxN 6 bs e).2.2) := rfl
theorem rowN_mk6 (p : Int) (l : List Int) (h : l.length = 6) : rowN (mk6 p l) = l := by
  match l, h with
  | [a0, a1, a2, a3, a4, a5], _ => rfl
theorem mk6_rowN (p : Int) (x : DS6) (h : x.2.2.1.2.2.1 = p) : mk6 p (rowN x) = x := by rw [← h]; rfl
theorem finB_ok (n p c : Int) (rows : List DS6) : finB n p c [] 0 rows = ((n, p, c, rows, ()), 0, ()) := by unfold finB; rw [end_0, if_neg (by simp)]
theorem rowsS_back (n p c : Int) : ∀ (rs : List DS6) (rows : List DS6), (∀ x ∈ rs, x.2.2.1.2.2.1 = p ∧ ∀ v ∈ rowN x, vAmt v = true) → rowsS n p c rs.length (encNs (rs.flatMap rowN)) 0 rows = ((n, p, c, rows ++ rs, ()), 0, ()) := by
  intro rs
  induction rs with
  | nil => intro rows _; rw [List.append_nil]; exact finB_ok n p c rows
  | cons x rs ih =>
    intro rows h
    show rowsS n p c (rs.length + 1) _ _ _ = _
    rw [rowsS_go, List.flatMap_cons, encNs_app, six_nx]
    obtain ⟨q1, q2⟩ := h x (by simp)
    have hb : nxN 6 (encNs (rowN x) ++ encNs (rs.flatMap rowN)) 0 = _ := nxN_back (rowN x) (encNs (rs.flatMap rowN)) q2
    rw [hb]
    dsimp only
    rw [ih _ (fun y hy => h y (by simp [hy])), mk6_rowN p x q1, List.append_assoc]; rfl
theorem encB_ok {y : DS7} (h : (encB y).2.1 = 0) : List.length (α := DS6) y.2.2.2.1 ≤ 64 ∧ (∀ x ∈ y.2.2.2.1, x.2.2.1.2.2.1 = y.2.1) ∧ (∀ v ∈ bordN y ++ List.flatMap (α := DS6) rowN y.2.2.2.1, vAmt v = true) ∧ (encB y).1 = encNs (bordN y ++ List.flatMap (α := DS6) rowN y.2.2.2.1) := by
  unfold encB at h ⊢
  by_cases h1 : 64 < List.length (α := DS6) y.2.2.2.1
  · rw [if_pos h1] at h; cases h
  rw [if_neg h1] at h ⊢
  by_cases h2 : List.all (α := DS6) y.2.2.2.1 (fun r => decide (r.2.2.1.2.2.1 = y.2.1)) = true
  case neg => rw [if_neg h2] at h; cases h
  rw [if_pos h2] at h ⊢
  unfold encodeS at h ⊢
  by_cases h4 : (bordN y ++ List.flatMap (α := DS6) rowN y.2.2.2.1).all vAmt = true
  · rw [if_pos h4]
    exact ⟨by omega, fun x hx => of_decide_eq_true (List.all_eq_true.1 h2 x hx), List.all_eq_true.1 h4, rfl⟩
  · rw [if_neg h4] at h; cases h
theorem encB_mk {y : DS7} (h1 : List.length (α := DS6) y.2.2.2.1 ≤ 64) (h2 : ∀ x ∈ y.2.2.2.1, x.2.2.1.2.2.1 = y.2.1) (h3 : ∀ v ∈ bordN y ++ List.flatMap (α := DS6) rowN y.2.2.2.1, vAmt v = true) : encB y = (encNs (bordN y ++ List.flatMap (α := DS6) rowN y.2.2.2.1), 0, ()) := by
  unfold encB
  rw [if_neg (by omega), if_pos (List.all_eq_true.2 fun x hx => decide_eq_true (h2 x hx))]
  unfold encodeS
  rw [if_pos (List.all_eq_true.2 h3)]
theorem backB (y : DS7) (h : (encB y).2.1 = 0) : decB (encB y).1 = (y, 0, ()) := by
  obtain ⟨hl, hp, hv, he⟩ := encB_ok h
  rw [he]
  obtain ⟨n, p, c, rs, u⟩ := y
  change List DS6 at rs
  cases u
  dsimp only at hl hp hv ⊢
  have en : bordN (n, p, c, rs, ()) = [n, p, c, lenI rs] := rfl
  rw [en] at hv ⊢
  unfold decB
  simp only [List.cons_append, List.nil_append, encNs_cons]
  rw [next_back n _ (hv n (by simp))]
  dsimp only
  rw [next_back p _ (hv p (by simp))]
  dsimp only
  rw [next_back c _ (hv c (by simp))]
  dsimp only
  rw [lenI_eq, count_back _ _ hl]
  dsimp only
  rw [Int.toNat_natCast]
  exact rowsS_back n p c rs [] (fun x hx => ⟨hp x hx, fun v hv' => hv v (by simp only [List.mem_append, List.mem_flatMap]; exact .inr ⟨x, hx, hv'⟩)⟩)
theorem rowsS_uniq (n p c : Int) : ∀ (k : Nat) (bs : List Int) (e : Int) (rows : List DS6), BytL bs → (rowsS n p c k bs e rows).2.1 = 0 → e = 0 ∧ ∃ rs : List DS6, rowsS n p c k bs e rows = ((n, p, c, rows ++ rs, ()), 0, ()) ∧ rs.length = k ∧ (∀ x ∈ rs, x.2.2.1.2.2.1 = p) ∧ (∀ v ∈ rs.flatMap rowN, vAmt v = true) ∧ bs = encNs (rs.flatMap rowN) := by
  intro k
  induction k with
  | zero =>
    intro bs e rows hB h
    have h : (finB n p c bs e rows).2.1 = 0 := h
    show e = 0 ∧ ∃ rs : List DS6, finB n p c bs e rows = _ ∧ _
    unfold finB at h ⊢
    by_cases q : endS bs e ≠ 0
    · rw [if_pos q] at h; exact absurd h q
    · rw [if_neg q]
      obtain ⟨q1, q2⟩ := end_e0 (show endS bs e = 0 by simpa using q)
      exact ⟨q1, [], by rw [List.append_nil], rfl, by simp, by simp, by rw [q2]; rfl⟩
  | succ k ih =>
    intro bs e rows hB h
    by_cases he : e = 0
    case neg => rw [rows_err _ _ _ _ _ he] at h; exact absurd h he
    subst he
    rw [rowsS_go, six_nx] at h ⊢
    obtain ⟨h1, rs, h2, h3, h4, h5, h6⟩ := ih _ _ _ (nxN_bytl 6 0 hB) h
    obtain ⟨_, q2, q3⟩ := nxN_uniq 6 bs 0 hB h1
    have hl := rowN_mk6 p _ (nxN_len 6 bs 0)
    refine ⟨rfl, mk6 p (nxN 6 bs 0).1 :: rs, by rw [h2, List.append_assoc]; rfl, by simp [h3], ?_, ?_, ?_⟩
    · intro x hx
      rcases List.mem_cons.1 hx with rfl | hx
      · rfl
      · exact h4 x hx
    · intro v hv
      rw [List.flatMap_cons, hl] at hv
      rcases List.mem_append.1 hv with q | q
      · exact q2 v q
      · exact h5 v q
    · rw [List.flatMap_cons, hl, encNs_app, ← h6, ← q3]
theorem next_uniq' {bs : List Int} {e : Int} (hB : Byt bs) (h : (nextS bs e).2.2.1 = 0) : vAmt (nextS bs e).1 = true ∧ bs = enc (zz (nextS bs e).1) ++ (nextS bs e).2.1 := by
  have := next_e0 h
  subst this
  exact next_uniq hB h
theorem uniqB (bs : List Int) (hB : BytL bs) (h : (decB bs).2.1 = 0) : encB (decB bs).1 = (bs, 0, ()) := by
  have h1 := hB.next 0
  have h2 := h1.next (nextS bs 0).2.2.1
  have h3 := h2.next (nextS (nextS bs 0).2.1 (nextS bs 0).2.2.1).2.2.1
  unfold decB at h ⊢
  dsimp only at h ⊢
  obtain ⟨g1, rs, g2, g3, g4, g5, g6⟩ := rowsS_uniq _ _ _ _ _ _ _ (count_rng _ _ h3).2.2 h
  rw [g2]
  dsimp only
  obtain ⟨c1, c2, c3, c4⟩ := count_uniq g1
  have e3 := next_e0 c1
  have e2 := next_e0 e3
  have e1 := next_e0 e2
  obtain ⟨u1, u2⟩ := next_uniq' hB.1 e1
  obtain ⟨v1, v2⟩ := next_uniq' h1.1 e2
  obtain ⟨w1, w2⟩ := next_uniq' h2.1 e3
  obtain ⟨x1, x2⟩ := next_uniq' h3.1 c1
  rw [c2] at g3 g6
  generalize hd : nextS (nextS (nextS (nextS bs 0).2.1 (nextS bs 0).2.2.1).2.1 (nextS (nextS bs 0).2.1 (nextS bs 0).2.2.1).2.2.1).2.1 (nextS (nextS (nextS bs 0).2.1 (nextS bs 0).2.2.1).2.1 (nextS (nextS bs 0).2.1 (nextS bs 0).2.2.1).2.2.1).2.2.1 = d at *
  generalize hc : nextS (nextS (nextS bs 0).2.1 (nextS bs 0).2.2.1).2.1 (nextS (nextS bs 0).2.1 (nextS bs 0).2.2.1).2.2.1 = c at *
  generalize hb : nextS (nextS bs 0).2.1 (nextS bs 0).2.2.1 = b at *
  generalize ha : nextS bs 0 = a at *
  rw [List.nil_append]
  have hn : d.1 = lenI rs := by rw [lenI_eq, g3]; omega
  have en : bordN (a.1, b.1, c.1, rs, ()) = [a.1, b.1, c.1, lenI rs] := rfl
  rw [encB_mk (by dsimp only; omega) g4 (by
    dsimp only
    rw [en]; intro v hv
    simp only [List.mem_append, List.mem_cons, List.not_mem_nil, or_false] at hv
    rcases hv with (rfl | rfl | rfl | rfl) | hv
    · exact u1
    · exact v1
    · exact w1
    · rw [← hn]; exact x1
    · exact g5 v hv)]
  dsimp only
  rw [en]
  simp only [List.cons_append, List.nil_append, encNs_cons]
  rw [← hn, ← g6, ← x2, ← w2, ← v2, ← u2]
theorem encNs_pos {xs : List Int} (h : 0 < xs.length) : 1 ≤ (encNs xs).length := by
  cases xs with
  | nil => simp at h
  | cons x xs => rw [encNs_cons, List.length_append]; have := enc_pos (zz x); omega
theorem encC_pos {c : DS1} (h : (encC c).2.1 = 0) : 1 ≤ (encC c).1.length := by
  rw [(encC_ok h).2.2.2.2]
  refine encNs_pos ?_
  unfold numsC
  repeat' split
  all_goals simp
theorem encB_pos {y : DS7} (h : (encB y).2.1 = 0) : 1 ≤ (encB y).1.length := by
  rw [(encB_ok h).2.2.2]
  exact encNs_pos (by simp [bordN])
theorem law_trip (c : DS1) (y : DS7) (deck : List Int) (hd : DeckOk deck 0) : m7 c y deck = some (true, ()) := by
  refine T.eq ?_
  unfold m7
  refine T.cnd (fun _ => T.callE awake_ok (T.ret rfl)) (fun hc => ?_)
  simp only [iLt_T, iLt_F, iLe_T, iLe_F, iEq_T, iEq_F, iNe_T, iNe_F, bnd_T, bnd_F, inB_T, inB_F, fits_T, fitsI_T, cutOk_T, someE_T, someE_F, leN_T, not_T, not_F, and_T, and_F, or_T, or_F, candF_T, candF_F, corT_T, corT_F, bEqT_T, bEqT_F, bEqF_T, bEqF_F, eq_self, or_true, true_or, and_true, true_and, or_false, false_or, and_false, false_and, not_true_eq_false, not_false_eq_true, Bool.true_eq_false, Bool.false_eq_true, lenI_eq] at hc
  refine T.callE (show m10 deck = some (deck, 0, ()) from rfl) ?_
  refine T.call (cmd_T hd) (fun u ⟨du, u1⟩ => ?_)
  have hul := u1.1
  generalize hxs : ([(c.1, c.2.1, c.2.2.1, c.2.2.2.1, c.2.2.2.2.1, c.2.2.2.2.2.1, ()), (u.1, u.2.1, u.2.2.1, u.2.2.2.1, u.2.2.2.2.1, u.2.2.2.2.2.1, ())] : List DS1) = xs
  have hxl : xs.length = 2 := by rw [← hxs]; rfl
  have hxb : ∀ x ∈ xs, List.length (α := DS0) x.2.1 ≤ 80 := by
    rw [← hxs]
    intro x hx
    simp only [List.mem_cons, List.not_mem_nil, or_false] at hx
    rcases hx with rfl | rfl <;> dsimp only <;> omega
  refine T.along xs.length (fun k => (lenI xs, (k : Int), y.1, y.2.1, y.2.2.1, y.2.2.2.1, u.2.2.2.2.2.2.1, u.2.2.2.2.2.2.2.1, xs, ())) (fun k hk => ?_) ?_
  · dsimp only
    refine T.ct (iLt_t (by rw [lenI_eq]; omega)) ?_
    refine T.grd (bnd_t (by omega) (by rw [lenI_eq]; omega)) ?_
    refine T.grd (inB_t (by simpa using hk)) ?_
    have hk' : (Int.toNat (k : Int)) < xs.length := by omega
    rw [getD_get _ hk']
    have hy := hxb _ (List.getElem_mem hk')
    generalize xs[Int.toNat (k : Int)] = z at hy
    refine T.callE (encC_m z) ?_
    have hb := encC_byt z
    refine T.callE (decC_m _ ⟨hb.1, by omega⟩) ?_
    have hnx : T (some (Sum.inl (β := Bool × Unit) (lenI xs, iAdd .i64 (k : Int) 1, y.1, y.2.1, y.2.2.1, y.2.2.2.1, u.2.2.2.2.2.2.1, u.2.2.2.2.2.2.2.1, xs, ()))) (LQ (fun s => s = (lenI xs, ((k + 1 : Nat) : Int), y.1, y.2.1, y.2.2.1, y.2.2.2.1, u.2.2.2.2.2.2.1, u.2.2.2.2.2.2.2.1, xs, ())) (fun _ => 0) 1 (fun x => x = (true, ()))) := T.go (by rw [iAdd64 (by omega) (by omega)]; rfl) (by simp)
    refine T.cnd (fun h0 => ?_) (fun _ => hnx)
    simp only [iEq_T] at h0
    have hp := encC_pos h0
    have hz : lenI (encC z).1 = ((encC z).1.length : Int) := rfl
    rw [backC z h0]
    refine T.cf rfl ?_
    refine T.callE (sameC_refl z (by omega)) ?_
    refine T.cf (by rw [iLt_f (by omega), iEq_f (by omega)]; rfl) hnx
  · dsimp only
    refine T.cf (iLt_f (by rw [lenI_eq]; omega)) ?_
    refine T.mapL ?_
    refine T.call (bord_T du) (fun v ⟨_, v1, v2, v3, v4, v5⟩ => ?_)
    generalize hys : ([(y.1, y.2.1, y.2.2.1, y.2.2.2.1, ()), (v.1, v.2.1, v.2.2.1, v.2.2.2.2.2.1, ())] : List DS7) = ys
    have hyl : ys.length = 2 := by rw [← hys]; rfl
    have hyb : ∀ x ∈ ys, List.length (α := DS6) x.2.2.2.1 ≤ 80 := by
      rw [← hys]
      intro x hx
      simp only [List.mem_cons, List.not_mem_nil, or_false] at hx
      rcases hx with rfl | rfl <;> dsimp only <;> omega
    refine T.along ys.length (fun k => (lenI ys, (k : Int), ys, ())) (fun k hk => ?_) ?_
    · dsimp only
      refine T.ct (iLt_t (by rw [lenI_eq]; omega)) ?_
      refine T.grd (bnd_t (by omega) (by rw [lenI_eq]; omega)) ?_
      refine T.grd (inB_t (by simpa using hk)) ?_
      have hk' : (Int.toNat (k : Int)) < ys.length := by omega
      rw [getD_get _ hk']
      have hy := hyb _ (List.getElem_mem hk')
      generalize ys[Int.toNat (k : Int)] = z at hy
      refine T.callE (encB_m z) ?_
      have hb := encB_byt z
      refine T.callE (decB_m _ ⟨hb.1, by omega⟩) ?_
      have hnx : T (some (Sum.inl (β := Bool × Unit) (lenI ys, iAdd .i64 (k : Int) 1, ys, ()))) (LQ (fun s => s = (lenI ys, ((k + 1 : Nat) : Int), ys, ())) (fun _ => 0) 1 (fun x => x = (true, ()))) := T.go (by rw [iAdd64 (by omega) (by omega)]; rfl) (by simp)
      refine T.cnd (fun h0 => ?_) (fun _ => hnx)
      simp only [iEq_T] at h0
      have hp := encB_pos h0
      have hz : lenI (encB z).1 = ((encB z).1.length : Int) := rfl
      rw [backB z h0]
      refine T.cf rfl ?_
      refine T.callE (sameB_refl z (by omega)) ?_
      refine T.cf (by rw [iLt_f (by omega), iEq_f (by omega)]; rfl) hnx
    · dsimp only
      refine T.cf (iLt_f (by rw [lenI_eq]; omega)) ?_
      exact T.mapL (T.callE awake_ok (T.ret rfl))
theorem law_unique (raw deck : List Int) (at_ by_ : Int) (hraw : Byt raw) (hd : DeckOk deck 0) (hb : 0 ≤ by_ ∧ by_ ≤ 255) : m8 raw deck at_ by_ = some (true, ()) := by
  refine T.eq ?_
  unfold m8
  refine T.cnd (fun _ => T.callE awake_ok (T.ret rfl)) (fun hc => ?_)
  simp only [iLt_T, iLt_F, iLe_T, iLe_F, iEq_T, iEq_F, iNe_T, iNe_F, bnd_T, bnd_F, inB_T, inB_F, fits_T, fitsI_T, cutOk_T, someE_T, someE_F, leN_T, not_T, not_F, and_T, and_F, or_T, or_F, candF_T, candF_F, corT_T, corT_F, bEqT_T, bEqT_F, bEqF_T, bEqF_F, eq_self, or_true, true_or, and_true, true_and, or_false, false_or, and_false, false_and, not_true_eq_false, not_false_eq_true, Bool.true_eq_false, Bool.false_eq_true, lenI_eq] at hc
  refine T.callE (show m10 deck = some (deck, 0, ()) from rfl) ?_
  refine T.call (cmd_T hd) (fun u ⟨du, u1⟩ => ?_)
  have hul := u1.1
  have hx := encC_deck u1
  refine T.callE (encC_r _ (by dsimp only; omega)) ?_
  refine T.call (bord_T du) (fun v ⟨_, v1, v2, v3, v4, v5⟩ => ?_)
  have hy := encB_deck v.1 v.2.1 v.2.2.1 v.2.2.2.2.2.1 v1 v2 v3 v4 v5
  refine T.callE (encB_r _) ?_
  have b1 := encC_byt (u.1, u.2.1, u.2.2.1, u.2.2.2.1, u.2.2.2.2.1, u.2.2.2.2.2.1, ())
  have b2 := encB_byt (v.1, v.2.1, v.2.2.1, v.2.2.2.2.2.1, ())
  refine T.cf (by rw [iNe_f hx, iNe_f hy]; rfl) ?_
  refine T.call (spoilt_T _ _ _ b1.1 (by omega) hb) (fun p ⟨p1, p2⟩ => ?_)
  refine T.call (spoilt_T _ _ _ b2.1 (by omega) hb) (fun q ⟨q1, q2⟩ => ?_)
  generalize hys : ([raw, p.1, q.1] : List (List Int)) = ys
  have hyl : ys.length = 3 := by rw [← hys]; rfl
  have hyb : ∀ y ∈ ys, BytL y ∧ y.length ≤ 1000000 := by
    rw [← hys]
    intro y hy
    simp only [List.mem_cons, List.not_mem_nil, or_false] at hy
    rcases hy with rfl | rfl | rfl
    · exact ⟨⟨hraw, by omega⟩, by omega⟩
    · exact ⟨⟨p1, by omega⟩, by omega⟩
    · exact ⟨⟨q1, by omega⟩, by omega⟩
  refine T.along ys.length (fun k => (lenI ys, (k : Int), ys, ())) (fun k hk => ?_) ?_
  · dsimp only
    refine T.ct (iLt_t (by rw [lenI_eq]; omega)) ?_
    refine T.grd (bnd_t (by omega) (by rw [lenI_eq]; omega)) ?_
    refine T.grd (inB_t (by simpa using hk)) ?_
    have hk' : (Int.toNat (k : Int)) < ys.length := by omega
    rw [getD_get _ hk']
    obtain ⟨hz, hzl⟩ := hyb _ (List.getElem_mem hk')
    generalize ys[Int.toNat (k : Int)] = z at hz hzl
    have hnx : T (some (Sum.inl (β := Bool × Unit) (lenI ys, iAdd .i64 (k : Int) 1, ys, ()))) (LQ (fun s => s = (lenI ys, ((k + 1 : Nat) : Int), ys, ())) (fun _ => 0) 1 (fun x => x = (true, ()))) := T.go (by rw [iAdd64 (by omega) (by omega)]; rfl) (by simp)
    refine T.callE (decC_m _ hz) (T.callE (encC_m (decC z).1) ?_)
    refine T.cnd (fun h0 => ?_) (fun _ => ?_)
    · simp only [iEq_T] at h0
      rw [uniqC z hz h0]
      refine T.cf rfl ?_
      refine T.callE (same_refl z hzl) (T.cf rfl ?_)
      refine T.callE (decB_m _ hz) (T.callE (encB_m (decB z).1) ?_)
      refine T.cnd (fun h0 => ?_) (fun _ => hnx)
      simp only [iEq_T] at h0
      rw [uniqB z hz h0]
      refine T.cf rfl ?_
      exact T.callE (same_refl z hzl) (T.cf rfl hnx)
    · refine T.callE (decB_m _ hz) (T.callE (encB_m (decB z).1) ?_)
      refine T.cnd (fun h0 => ?_) (fun _ => hnx)
      simp only [iEq_T] at h0
      rw [uniqB z hz h0]
      refine T.cf rfl ?_
      exact T.callE (same_refl z hzl) (T.cf rfl hnx)
  · dsimp only
    refine T.cf (iLt_f (by rw [lenI_eq]; omega)) ?_
    exact T.mapL (T.callE awake_ok (T.ret rfl))
end Abs
end Go.Proofs.Ytbghnjkieghloaa
