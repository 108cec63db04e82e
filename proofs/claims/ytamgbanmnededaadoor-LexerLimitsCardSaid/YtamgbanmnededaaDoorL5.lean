/- Lexer: steps of Scan; the law on limits. -/
import Derived.Test.YtamgbanmnededaaDoorL4
namespace Go.Proofs.YtamgbanmnededaaDoor
namespace Abs
set_option linter.unusedVariables false
set_option linter.unusedSimpArgs false
theorem mark_cases {c : Int} (h : isMark c = true) : c = 59 ∨ c = 58 ∨ c = 44 ∨ c = 40 ∨ c = 41 := of_decide_eq_true h
theorem tok_mark {c : Int} (h : isMark c = true) (r : List Int) (i : Int) : tokL (c :: r) i = ((4, bsI [c], 0, i, ()), 1, 0) := by
  have h2 := mark_cases h
  have e : (c :: r).getD 0 0 = c := rfl
  unfold tokL
  dsimp only
  rw [e, if_neg (by unfold isLet; rw [decide_eq_true_eq]; omega), if_neg (by unfold isDig; rw [decide_eq_true_eq]; omega), if_neg (by omega), if_pos h]
theorem scan_sp {c : Int} (h : c = 32 ∨ c = 10) (n i : Nat) (toks : List DS0) (r : List Int) : scanL (n + 1) i toks (c :: r) = scanL n (i + 1) toks r := by
  simp only [scanL]; rw [if_pos h]
theorem scan_mark {c : Int} (h : isMark c = true) (n i : Nat) (toks : List DS0) (ht : toks.length < 4000) (r : List Int) : scanL (n + 1) i toks (c :: r) = scanL n (i + 1) (toks ++ [(4, bsI [c], 0, (i : Int), ())]) r := by
  have h2 := mark_cases h
  simp only [scanL]
  rw [tok_mark h, if_neg (by omega), if_neg (by omega), if_neg (by simp), if_neg (by omega), if_neg (by simp)]
  rfl
theorem scan_full {c : Int} (h : isMark c = true) (n i : Nat) (toks : List DS0) (ht : toks.length = 4000) (r : List Int) : scanL (n + 1) i toks (c :: r) = ([], (i : Int), 4, ()) := by
  have h2 := mark_cases h
  simp only [scanL]
  rw [tok_mark h, if_neg (by omega), if_neg (by omega), if_neg (by simp), if_pos ht]
theorem scan_end (n i : Nat) (toks : List DS0) : scanL n i toks [] = (toks, 0, 0, ()) := by cases n <;> rfl
theorem scan_sps : ∀ (k n i : Nat) (toks : List DS0) (r : List Int), scanL (n + k) i toks (List.replicate k 32 ++ r) = scanL n (i + k) toks r := by
  intro k
  induction k with
  | zero => intro n i toks r; rfl
  | succ k ih =>
    intro n i toks r
    rw [List.replicate_succ, List.cons_append, ← Nat.add_assoc, scan_sp (.inl rfl), ih]
    congr 1; omega
theorem scan_marks {c : Int} (h : isMark c = true) : ∀ (k n i : Nat) (toks : List DS0) (r : List Int), toks.length + k ≤ 4000 → ∃ t', t'.length = toks.length + k ∧ scanL (n + k) i toks (List.replicate k c ++ r) = scanL n (i + k) t' r := by
  intro k
  induction k with
  | zero => intro n i toks r _; exact ⟨toks, rfl, rfl⟩
  | succ k ih =>
    intro n i toks r hl
    rw [List.replicate_succ, List.cons_append, show n + (k + 1) = (n + k) + 1 from rfl, scan_mark h _ _ _ (by omega)]
    obtain ⟨t', h1, h2⟩ := ih n (i + 1) (toks ++ [(4, bsI [c], 0, (i : Int), ())]) r (by rw [List.length_append, List.length_singleton]; omega)
    refine ⟨t', by rw [h1, List.length_append, List.length_singleton]; omega, ?_⟩
    rw [h2]; congr 1; omega
theorem cat_size (a b : ByteArray) : (sCat a b).size = a.size + b.size := by unfold sCat; rw [ByteArray.size_append]
theorem bl_sz {s : ByteArray} {l : List Int} (h : bytesI s = l) : s.size = l.length := by rw [← h, bl_len]
theorem bsI_size (l : List Int) : (bsI l).size = l.length := by show (l.map _).toArray.size = _; simp
theorem sFits_t {a b : ByteArray} (h : a.size + b.size ≤ 9223372036854775807) : sFits a b = true := by unfold sFits; rw [decide_eq_true_eq]; exact h
theorem byt_rep {n : Nat} {c : Int} (h : 0 ≤ c ∧ c ≤ 255) : Byt (List.replicate n c) := fun x hx => by rw [List.eq_of_mem_replicate hx]; exact h
theorem mark5 (a : Int) (h : 0 ≤ a ∧ a ≤ 255) : 0 ≤ iRem (IntKind.wrap .i64 a) 5 ∧ iRem (IntKind.wrap .i64 a) 5 < 5 ∧ isMark (sAt (bs [59, 58, 44, 40, 41]) (iRem (IntKind.wrap .i64 a) 5)) = true := by
  rw [wrap64 (by omega) (by omega)]
  have e : iRem a 5 = a % 5 := by unfold iRem; rw [Int.tmod_eq_emod_of_nonneg h.1]
  rw [e]
  refine ⟨by omega, by omega, ?_⟩
  have : a % 5 = 0 ∨ a % 5 = 1 ∨ a % 5 = 2 ∨ a % 5 = 3 ∨ a % 5 = 4 := by omega
  rcases this with q | q | q | q | q <;> rw [q] <;> rfl
theorem law_limits (d : Bool) (a : Int) (h : 0 ≤ a ∧ a ≤ 255) : m5 d a = some (true, ()) := by
  refine T.eq ?_
  unfold m5
  obtain ⟨h1, h2, h3⟩ := mark5 a h
  refine T.grd rfl ?_
  refine T.grd (by rw [bnd_T]; exact ⟨h1, h2⟩) ?_
  generalize sAt (bs [59, 58, 44, 40, 41]) (iRem (IntKind.wrap .i64 a) 5) = c at h3
  have hc : 0 ≤ c ∧ c ≤ 255 := by have := mark_cases h3; omega
  have hb1 : bytesI (bsI [c]) = [c] := bl_bsI (fun x hx => by rw [List.mem_singleton.1 hx]; exact hc)
  have hs1 : (bsI [c]).size = 1 := rfl
  refine T.loop (fun q => ∃ (k : Nat) (s : ByteArray), k ≤ 500 ∧ bytesI s = List.replicate k c ∧ q = (d, s, [c], ())) (fun q => 500 - q.2.1.size) ⟨0, bs [], by omega, rfl, rfl⟩ ?_
  rintro _ ⟨k, s, hk, hs, rfl⟩
  dsimp only
  have hsz : s.size = k := by rw [bl_sz hs, List.length_replicate]
  refine T.cnd (fun hc1 => ?_) (fun hc1 => ?_) <;> simp only [iLt_T, iLt_F, sLen_eq] at hc1
  · refine T.grd (sFits_t (by omega)) ?_
    refine T.go ⟨k + 1, _, by omega, ?_, rfl⟩ (by dsimp only; rw [cat_size]; omega)
    rw [bl_cat, hs, hb1, ← List.replicate_succ']
  obtain rfl : k = 500 := by omega
  refine T.mapL ?_
  refine T.cnd (fun _ => ?_) (fun _ => ?_)
  · refine T.grd (sFits_t (by omega)) ?_
    refine T.grd (sFits_t (by simp only [cat_size]; omega)) ?_
    refine T.grd (sFits_t (by simp only [cat_size]; omega)) ?_
    refine T.grd (sFits_t (by simp only [cat_size]; omega)) ?_
    have hB : bytesI (sCat (sCat (sCat (sCat s s) s) s) (sCat (sCat (sCat s s) s) s)) = List.replicate 4000 c := by
      simp only [bl_cat, hs, List.replicate_append_replicate]
    generalize sCat (sCat (sCat (sCat s s) s) s) (sCat (sCat (sCat s s) s) s) = X at hB
    have hX : X.size = 4000 := by rw [bl_sz hB, List.length_replicate]
    have hs2 : (bs [32]).size = 1 := rfl
    have hY : (sCat (sCat X (bs [32])) (bsI [c])).size = 4002 := by rw [cat_size, cat_size]; omega
    have hYB : bytesI (sCat (sCat X (bs [32])) (bsI [c])) = List.replicate 4000 c ++ [32, c] := by rw [bl_cat, bl_cat, hB, hb1, List.append_assoc]; rfl
    rw [scan_m _ (by omega), scan_m _ (by omega)]
    refine T.bind (T.ret ?_)
    refine T.grd (sFits_t (by omega)) ?_
    refine T.grd (sFits_t (by rw [cat_size]; omega)) ?_
    refine T.bind (T.ret ?_)
    obtain ⟨t1, l1, e1⟩ := scan_marks h3 4000 0 0 [] [] (by simp)
    obtain ⟨t2, l2, e2⟩ := scan_marks h3 4000 2 0 [] [32, c] (by simp)
    have r1 : scanS X = (t1, 0, 0, ()) := by
      unfold scanS
      rw [if_neg (by omega), hX, hB]
      rw [List.append_nil] at e1
      rw [show (4000 : Nat) = 0 + 4000 from rfl, e1, scan_end]
    have r2 : scanS (sCat (sCat X (bs [32])) (bsI [c])) = ([], 4001, 4, ()) := by
      unfold scanS
      rw [if_neg (by omega), hY, hYB, show (4002 : Nat) = 2 + 4000 from rfl, e2, scan_sp (.inl rfl), scan_full h3 _ _ _ (by simpa using l2)]
      rfl
    rw [r1, r2]
    refine T.ct ?_ ?_
    · have l1' : t1.length = 4000 := by simpa using l1
      simp only [candF_T, iEq_T, lenI_eq, l1', sLen_eq, hX]
      refine ⟨⟨⟨⟨?_, ?_⟩, ?_⟩, ?_⟩, ?_⟩ <;> first | trivial | rfl
    · rw [awake_ok]; exact T.ret rfl
  · refine T.grd rfl ?_
    have h0 : ((0 : Int), [c], List.replicate (Int.toNat 16384) (0 : Int), ()) = (((0 : Nat) : Int), [c], List.replicate 0 (32 : Int) ++ List.replicate (16384 - 0) 0, ()) := by
      rw [List.replicate_zero, List.nil_append]; rfl
    rw [h0]
    refine T.along 16384 (fun i => ((i : Int), [c], List.replicate i 32 ++ List.replicate (16384 - i) 0, ())) (fun i hi => ?_) ?_
    · dsimp only
      have hl : (List.replicate i (32 : Int) ++ List.replicate (16384 - i) 0).length = 16384 := by rw [List.length_append, List.length_replicate, List.length_replicate]; omega
      refine T.ct (by rw [iLt_T, lenI_eq, hl]; omega) ?_
      refine T.grd (by rw [bnd_T, lenI_eq, hl]; omega) ?_
      refine T.grd (by rw [inB_T, hl]; omega) ?_
      refine T.go ?_ (by omega)
      have e1 : ((i : Int)).toNat = i := by omega
      obtain ⟨m, hm⟩ : ∃ m, 16384 - i = m + 1 := ⟨16384 - i - 1, by omega⟩
      rw [iAdd64 (by omega) (by omega), e1, hm, show 16384 - (i + 1) = m by omega, List.replicate_succ (n := m), List.set_append_right _ _ (by simp), List.length_replicate, Nat.sub_self, List.set_cons_zero, List.replicate_succ' (n := i), List.append_assoc]
      rfl
    · dsimp only
      have hl : (List.replicate 16384 (32 : Int) ++ List.replicate (16384 - 16384) 0) = List.replicate 16384 32 := by rw [Nat.sub_self, List.replicate_zero, List.append_nil]
      rw [hl]
      refine T.cf (by rw [iLt_F, lenI_eq, List.length_replicate]; omega) ?_
      refine T.mapL ?_
      rw [List.length_replicate]
      refine T.grd (by rw [cutOk_T]; omega) ?_
      have ht : List.take (Int.toNat (((16384 : Nat) : Int) - 1)) (List.drop (Int.toNat 1) (List.replicate 16384 (32 : Int))) = List.replicate 16383 32 := by
        rw [List.drop_replicate, List.take_replicate]; rfl
      rw [ht]
      have hsa : (bsI (List.replicate 16383 (32 : Int))).size = 16383 := by rw [bsI_size, List.length_replicate]
      have hsb : (bsI (List.replicate 16384 (32 : Int))).size = 16384 := by rw [bsI_size, List.length_replicate]
      have hba : bytesI (bsI (List.replicate 16383 (32 : Int))) = List.replicate 16383 32 := bl_bsI (byt_rep (by omega))
      generalize bsI (List.replicate 16383 (32 : Int)) = A at hsa hba
      generalize bsI (List.replicate 16384 (32 : Int)) = B at hsb
      have hza : (sCat A (bsI [c])).size = 16384 := by rw [cat_size]; omega
      have hzb : (sCat B (bsI [c])).size = 16385 := by rw [cat_size]; omega
      refine T.grd (sFits_t (by omega)) ?_
      rw [scan_m _ (by omega), scan_m _ (by omega)]
      refine T.bind (T.ret ?_)
      refine T.grd (sFits_t (by omega)) ?_
      refine T.bind (T.ret ?_)
      have r1 : scanS (sCat A (bsI [c])) = ([(4, bsI [c], 0, 16383, ())], 0, 0, ()) := by
        unfold scanS
        rw [if_neg (by omega), hza, bl_cat, hba, hb1, show (16384 : Nat) = 1 + 16383 from rfl, scan_sps, scan_mark h3 _ _ _ (by simp), scan_end]
        rfl
      have r2 : scanS (sCat B (bsI [c])) = ([], 0, 4, ()) := by
        unfold scanS
        rw [if_pos (by omega)]
      rw [r1, r2]
      refine T.grd rfl ?_
      refine T.ct rfl ?_
      rw [awake_ok]; exact T.ret rfl
end Abs
end Go.Proofs.YtamgbanmnededaaDoor
