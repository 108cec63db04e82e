/- Merged: L9 L10. -/
import Derived.Test.YtamgbanmnededaaDoorLC
/- Lexer: written tokens, scanned. -/
namespace Go.Proofs.YtamgbanmnededaaDoor
namespace Abs
set_option linter.unusedVariables false
set_option linter.unusedSimpArgs false
/-- What may follow a token's text. -/
def Stop (r : List Int) : Prop := ∀ c ∈ r.head?, isWrd c = false ∧ isHr c = false
theorem Stop.nil : Stop [] := fun c h => by cases h
theorem stop_cons {c : Int} {r : List Int} (h : isWrd c = false ∧ isHr c = false) : Stop (c :: r) := fun x hx => by cases hx; exact h
theorem tw_stop {p : Int → Bool} {r : List Int} (h : ∀ c ∈ r.head?, p c = false) : r.takeWhile p = [] := by
  cases r with
  | nil => rfl
  | cons c r => rw [List.takeWhile_cons, h c rfl]; rfl
theorem tw_app {p : Int → Bool} {l r : List Int} (h : ∀ x ∈ l, p x = true) (hr : ∀ c ∈ r.head?, p c = false) : (l ++ r).takeWhile p = l := by
  rw [List.takeWhile_append_of_pos h, tw_stop hr, List.append_nil]
theorem wrd_dig {c : Int} (h : isWrd c = false) : isDig c = false ∧ isLet c = false ∧ c ≠ 45 := by
  unfold isWrd at h
  simp only [Bool.or_eq_false_iff, decide_eq_false_iff_not] at h
  exact ⟨h.1.2, h.1.1, h.2⟩
def TokOk (t : DS0) : Prop :=
  (t.1 = 1 ∧ wordS t.2.1 = true ∧ t.2.2.1 = 0) ∨ (t.1 = 2 ∧ t.2.1 = bs [] ∧ -17592186044416 ≤ t.2.2.1 ∧ t.2.2.1 ≤ 17592186044416) ∨ (t.1 = 3 ∧ t.2.1 = bs [] ∧ 0 ≤ t.2.2.1 ∧ t.2.2.1 ≤ 876599) ∨ (t.1 = 4 ∧ t.2.2.1 = 0 ∧ ∃ c, isMark c = true ∧ t.2.1 = bsI [c])
/-- A token's text. -/
structure Wrt (t : DS0) (l : List Int) : Prop where
  len : 1 ≤ l.length ∧ l.length ≤ 20
  hd : l.getD 0 0 ≠ 32 ∧ l.getD 0 0 ≠ 10 ∧ l.getD 0 0 ≠ 35
  tok : ∀ (r : List Int) (i : Int), Stop r → tokL (l ++ r) i = ((t.1, t.2.1, t.2.2.1, i, ()), l.length, 0)
theorem let_bd {c : Int} (h : isLet c = true) : 97 ≤ c ∧ c ≤ 122 := of_decide_eq_true h
theorem word_facts {w : ByteArray} (h : wordS w = true) : 1 ≤ w.size ∧ w.size ≤ 16 ∧ isLet (sAt w 0) = true ∧ ∀ x ∈ bytesI w, isWrd x = true := by
  unfold wordS at h
  split at h
  · cases h
  · rename_i h1
    split at h
    · rename_i h2
      have h3 := of_decide_eq_true h
      refine ⟨by omega, by omega, h2.1, fun x hx => ?_⟩
      obtain ⟨j, hj, rfl⟩ := List.getElem_of_mem hx
      rw [bl_get]
      exact (spanS_all isWrd w w.size 0 (by omega)).1 h3 j (by omega) (by rw [bl_len] at hj; exact hj)
    · cases h
theorem wrt_word {t : DS0} (h1 : t.1 = 1) (h2 : wordS t.2.1 = true) (h3 : t.2.2.1 = 0) : Wrt t (bytesI t.2.1) := by
  obtain ⟨a, b, c, d⟩ := word_facts h2
  have hl := bl_len t.2.1
  have e0 : (bytesI t.2.1).getD 0 0 = sAt t.2.1 0 := (bl_at t.2.1 0).symm
  have hb := let_bd c
  refine ⟨by omega, by rw [e0]; omega, fun r i hr => ?_⟩
  have e1 : (bytesI t.2.1 ++ r).getD 0 0 = sAt t.2.1 0 := by
    rw [List.getD_eq_getElem?_getD, List.getElem?_append_left (by omega), ← List.getD_eq_getElem?_getD, e0]
  have e2 : (bytesI t.2.1 ++ r).takeWhile isWrd = bytesI t.2.1 := tw_app d fun c hc => (hr c hc).1
  unfold tokL
  dsimp only
  rw [e1, if_pos c, e2, bsI_bl, if_pos h2, h1, h3]
theorem wrt_num {t : DS0} {c : Int} {l : List Int} (h1 : t.1 = 2) (h2 : t.2.1 = bs []) (hc : isDig c = true ∨ c = 45) (hl : AllD l) (hn : numberL (c :: l) = (t.2.2.1, 0)) (hz : l.length ≤ 15) : Wrt t (c :: l) := by
  have hcb : ¬ (97 ≤ c) ∧ c ≠ 32 ∧ c ≠ 10 ∧ c ≠ 35 := by rcases hc with q | q; have := dig_bd q; omega; omega
  refine ⟨by rw [List.length_cons]; omega, ⟨hcb.2.1, hcb.2.2.1, hcb.2.2.2⟩, fun r i hr => ?_⟩
  have e1 : (c :: l ++ r).getD 0 0 = c := rfl
  have e2 : ((c :: l ++ r).drop 1).takeWhile isDig = l := by
    show (l ++ r).takeWhile isDig = l
    exact tw_app hl fun c hc => (wrd_dig (hr c hc).1).1
  unfold tokL
  dsimp only
  rw [e1, if_neg (by unfold isLet; rw [decide_eq_true_eq]; omega), if_pos hc, e2, hn, if_neg (by simp), h1, h2, List.length_cons, Nat.add_comm]
theorem wrt_hour {t : DS0} {s : ByteArray} (h1 : t.1 = 3) (h2 : t.2.1 = bs []) (hp : m49 s = some (t.2.2.1, 0, ())) (hh : AllH (bytesI s)) (hz : s.size ≤ 13) : Wrt t (64 :: bytesI s) := by
  have hl := bl_len s
  refine ⟨by rw [List.length_cons]; omega, by show (64 : Int) ≠ 32 ∧ (64 : Int) ≠ 10 ∧ (64 : Int) ≠ 35; omega, fun r i hr => ?_⟩
  have e1 : (64 :: bytesI s ++ r).getD 0 0 = 64 := rfl
  have e2 : ((64 :: bytesI s ++ r).drop 1).takeWhile isHr = bytesI s := by
    show (bytesI s ++ r).takeWhile isHr = bytesI s
    exact tw_app hh fun c hc => (hr c hc).2
  have e3 : hourS s = (t.2.2.1, 0, ()) := by unfold hourS; rw [hp]; rfl
  unfold tokL
  dsimp only
  rw [e1, if_neg (by decide), if_neg (by decide), if_pos rfl, e2, bsI_bl, e3, if_neg (by simp), h1, h2, List.length_cons, Nat.add_comm]
theorem wrt_mark {t : DS0} {c : Int} (h1 : t.1 = 4) (h2 : t.2.2.1 = 0) (hc : isMark c = true) (h3 : t.2.1 = bsI [c]) : Wrt t [c] := by
  have := mark_cases hc
  refine ⟨by rw [List.length_singleton]; omega, by show c ≠ 32 ∧ c ≠ 10 ∧ c ≠ 35; omega, fun r i _ => ?_⟩
  show tokL (c :: r) i = _
  rw [tok_mark hc, h1, h2, h3]; rfl
/-- A token, written by the document. -/
theorem written_r {t : DS0} (h : TokOk t) : T (m28 t) (fun y => y.2.1 = 0 ∧ Wrt t (bytesI y.1)) := by
  unfold m28
  rcases h with ⟨h1, h2, h3⟩ | ⟨h1, h2, h3, h4⟩ | ⟨h1, h2, h3, h4⟩ | ⟨h1, h2, c, h3, h4⟩
  · have hf := word_facts h2
    have w := wrt_word h1 h2 h3
    rw [h1, h3]
    refine T.cf rfl (T.cf rfl (T.cf rfl (T.ct rfl ?_)))
    refine T.callE (word_r _ (by omega)) ?_
    refine T.cf (by rw [h2]; rfl) (T.ret ⟨rfl, w⟩)
  · rw [h1, show sEq t.2.1 (bs []) = true by rw [sEq_T]; exact h2]
    refine T.cf rfl (T.cf rfl (T.cf rfl (T.cf rfl (T.ct rfl ?_))))
    unfold m42
    refine T.bind (T.ret (T.cf (by simp only [not_F, candF_T, iLe_T]; omega) ?_))
    refine T.call (dec_T t.2.2.1 h3 h4) ?_
    rintro v ⟨c, l, e1, e2, e3, e4, e5⟩
    refine T.ret ⟨rfl, ?_⟩
    dsimp only; rw [e1]
    exact wrt_num h1 h2 e2 e3 e4 e5
  · rw [h1, show sEq t.2.1 (bs []) = true by rw [sEq_T]; exact h2]
    refine T.cf rfl (T.cf rfl (T.cf rfl (T.cf rfl (T.cf rfl (T.ct rfl ?_)))))
    refine T.call (fmt_T t.2.2.1 h3 h4) ?_
    rintro v ⟨e1, e2, e3, e4⟩
    refine T.grd (sFits_t (by have : (bs [64]).size = 1 := rfl; omega)) (T.ret ⟨e1, ?_⟩)
    dsimp only
    rw [bl_cat]
    exact wrt_hour h1 h2 e2 e3 e4
  · rw [h1, h2, h4]
    refine T.cf rfl (T.cf rfl (T.cf rfl (T.cf rfl (T.cf rfl (T.cf rfl (T.ct rfl ?_))))))
    have hm := mark_cases h3
    have w := wrt_mark h1 h2 h3 h4
    have hb : bytesI (bsI [c]) = [c] := bl_bsI (fun x hx => by rw [List.mem_singleton.1 hx]; omega)
    have e : m45 (bsI [c]) = some (true, ()) := by
      unfold m45
      simp only [sEq_dec]
      rcases hm with rfl | rfl | rfl | rfl | rfl <;> rfl
    refine T.callE e (T.cf rfl (T.ret ⟨rfl, ?_⟩))
    dsimp only; rw [hb]; exact w
/-- Scan, with as many rounds as it needs. -/
noncomputable def scanF (i : Nat) (toks : List DS0) (r : List Int) : List DS0 × Int × Int × Unit := scanL r.length i toks r
theorem scan_fuel : ∀ (n m i : Nat) (toks : List DS0) (r : List Int), r.length ≤ n → r.length ≤ m → scanL n i toks r = scanL m i toks r := by
  intro n
  induction n with
  | zero => intro m i toks r h1 h2; obtain rfl := List.length_eq_zero_iff.1 (Nat.le_zero.1 h1); rw [scan_end, scan_end]
  | succ n ih =>
    intro m i toks r h1 h2
    cases r with
    | nil => rw [scan_end, scan_end]
    | cons c r =>
      obtain ⟨m, rfl⟩ : ∃ q, m = q + 1 := ⟨m - 1, by rw [List.length_cons] at h2; omega⟩
      rw [List.length_cons] at h1 h2
      simp only [scanL]
      by_cases c1 : c = 32 ∨ c = 10
      · rw [if_pos c1, if_pos c1]; exact ih _ _ _ _ (by omega) (by omega)
      rw [if_neg c1, if_neg c1]
      by_cases c2 : c = 35
      · rw [if_pos c2, if_pos c2]
        have : 1 ≤ ((c :: r).takeWhile isLine).length := by rw [List.takeWhile_cons, if_pos (by rw [c2]; rfl), List.length_cons]; omega
        exact ih _ _ _ _ (by rw [List.length_drop, List.length_cons]; omega) (by rw [List.length_drop, List.length_cons]; omega)
      rw [if_neg c2, if_neg c2]
      have hp := tok_pos (c :: r) (i : Int)
      generalize tokL (c :: r) (i : Int) = tk at hp
      by_cases c3 : tk.2.2 ≠ 0
      · rw [if_pos c3, if_pos c3]
      rw [if_neg c3, if_neg c3]
      have hp := (hp (by simpa using c3)).1
      split
      · rfl
      · split
        · rfl
        · exact ih _ _ _ _ (by rw [List.length_drop, List.length_cons]; omega) (by rw [List.length_drop, List.length_cons]; omega)
theorem scanF_fuel {n i : Nat} {toks : List DS0} {r : List Int} (h : r.length ≤ n) : scanL n i toks r = scanF i toks r := scan_fuel _ _ _ _ _ h (Nat.le_refl _)
theorem scanF_nil (i : Nat) (toks : List DS0) : scanF i toks [] = (toks, 0, 0, ()) := scan_end _ _ _
theorem scanF_sp {c : Int} (h : c = 32 ∨ c = 10) (i : Nat) (toks : List DS0) (r : List Int) : scanF i toks (c :: r) = scanF (i + 1) toks r := by
  unfold scanF; rw [List.length_cons, scan_sp h]
theorem scanF_hash (i : Nat) (toks : List DS0) (l r : List Int) (hl : ∀ x ∈ l, isLine x = true) (hr : ∀ c ∈ r.head?, isLine c = false) : scanF i toks (35 :: l ++ r) = scanF (i + (l.length + 1)) toks r := by
  have e : (35 :: l ++ r).takeWhile isLine = 35 :: l := tw_app (fun x hx => by rcases List.mem_cons.1 hx with rfl | hx; rfl; exact hl x hx) hr
  have e' : (35 :: (l ++ r)).takeWhile isLine = 35 :: l := e
  have e2 : (35 :: (l ++ r)).drop (35 :: l).length = r := by rw [List.length_cons, List.drop_succ_cons, List.drop_left]
  rw [List.cons_append]
  conv => lhs; unfold scanF
  rw [List.length_cons]
  simp only [scanL]
  rw [if_neg (by decide), if_pos trivial, e', e2, List.length_cons]
  exact scanF_fuel (by rw [List.length_append]; omega)
theorem scanF_tok {t : DS0} {l : List Int} (w : Wrt t l) (i : Nat) (toks : List DS0) (r : List Int) (hr : Stop r) (ht : toks.length < 4000) : scanF i toks (l ++ r) = scanF (i + l.length) (toks ++ [(t.1, t.2.1, t.2.2.1, (i : Int), ())]) r := by
  have htk := w.tok r (i : Int) hr
  have hh := w.hd
  have hn := w.len
  match l, hn with
  | c :: l, _ =>
    have hh : c ≠ 32 ∧ c ≠ 10 ∧ c ≠ 35 := hh
    rw [List.cons_append] at htk ⊢
    conv => lhs; unfold scanF
    rw [List.length_cons]
    simp only [scanL]
    have e2 : (c :: (l ++ r)).drop (c :: l).length = r := by rw [List.length_cons, List.drop_succ_cons, List.drop_left]
    rw [if_neg (by omega), if_neg hh.2.2, htk, if_neg (by simp), if_neg (by omega)]
    dsimp only
    rw [e2, if_neg]
    · exact scanF_fuel (by rw [List.length_append]; omega)
    · rintro ⟨_, q2, q3⟩
      cases r with
      | nil => exact q2 rfl
      | cons x r =>
        have := wrd_dig (hr x rfl).1
        have q3 : isLet x = true ∨ x = 45 := q3
        rcases q3 with q3 | q3
        · rw [this.2.1] at q3; cases q3
        · exact this.2.2 q3
/-- One token, joined by the document. -/
theorem join1_r {t : DS0} (h : TokOk t) : T (m17 [t]) (fun y => y.2.1 = 0 ∧ Wrt t (bytesI y.1)) := by
  unfold m17
  refine T.cf rfl ?_
  refine T.loop (fun q => q = ([t], bs [], true, 0, ()) ∨ ∃ (s : ByteArray) (b : Bool), Wrt t (bytesI s) ∧ q = ([t], s, b, 1, ())) (fun q => (1 - q.2.2.2.1).toNat) (.inl rfl) ?_
  rintro _ (rfl | ⟨s, b, w, rfl⟩)
  · dsimp only
    refine T.ct rfl (T.grd rfl ?_)
    refine T.call (written_r (t := t) h) ?_
    rintro v ⟨e1, e2⟩
    refine T.cf (by rw [iNe_F]; exact e1) ?_
    have hs : v.1.size ≤ 20 := by have := e2.len; rw [bl_len] at this; omega
    have hz : (bs []).size = 0 := rfl
    refine T.cf rfl ?_
    refine T.grd (sFits_t (by omega)) (T.go (.inr ⟨_, _, ?_, rfl⟩) (by dsimp only; decide))
    rw [bl_cat]
    exact e2
  · dsimp only
    refine T.cf rfl (T.mapL ?_)
    have hs : s.size ≤ 20 := by have := w.len; rw [bl_len] at this; omega
    refine T.cf (by rw [iLt_F, sLen_eq]; omega) (T.ret ⟨rfl, w⟩)
def strip (t : DS0) : Int × ByteArray × Int := (t.1, t.2.1, t.2.2.1)
theorem same_m (a b : List DS0) (h : a.map strip = b.map strip) (hl : a.length ≤ 4000) : m19 a b false = some (true, ()) := by
  refine T.eq ?_
  unfold m19
  have hlen : a.length = b.length := by have := congrArg List.length h; simpa using this
  refine T.cf (by rw [iNe_F, lenI_eq, lenI_eq]; omega) ?_
  refine T.along a.length (fun i : Nat => (a, b, false, (i : Int), ())) (fun i hi => ?_) ?_
  · dsimp only
    have hb : bnd (i : Int) (lenI a) = true := by rw [bnd_T, lenI_eq]; omega
    have hb2 : bnd (i : Int) (lenI b) = true := by rw [bnd_T, lenI_eq]; omega
    have hs : strip (atI a (i : Int) (0, ByteArray.empty, 0, 0, ())) = strip (atI b (i : Int) (0, ByteArray.empty, 0, 0, ())) := by
      unfold atI
      rw [Int.toNat_natCast, List.getD_eq_getElem?_getD, List.getD_eq_getElem?_getD]
      have := congrArg (fun l => l[i]?) h
      simp only [List.getElem?_map] at this
      rw [List.getElem?_eq_getElem hi, List.getElem?_eq_getElem (show i < b.length by omega)] at this ⊢
      simpa using this
    generalize atI a (i : Int) (0, ByteArray.empty, 0, 0, ()) = x at hs
    generalize atI b (i : Int) (0, ByteArray.empty, 0, 0, ()) = y at hs
    have s1 : x.1 = y.1 := congrArg (·.1) hs
    have s2 : x.2.1 = y.2.1 := congrArg (·.2.1) hs
    have s3 : x.2.2.1 = y.2.2.1 := congrArg (·.2.2) hs
    rw [s1, s2, s3, hb, hb2]
    have n1 : iNe y.1 y.1 = false := by rw [iNe_F]
    have n2 : sEq y.2.1 y.2.1 = true := by rw [sEq_T]
    have n3 : iNe y.2.2.1 y.2.2.1 = false := by rw [iNe_F]
    rw [n1, n2, n3]
    refine T.ct (by rw [iLt_T, lenI_eq]; omega) ?_
    refine T.grd rfl (T.grd rfl (T.grd rfl (T.grd rfl (T.grd rfl (T.grd rfl (T.cf rfl (T.grd rfl (T.grd rfl (T.cf rfl (T.go ?_ (by omega)))))))))))
    rw [iAdd64 (by omega) (by omega)]; rfl
  · dsimp only
    refine T.cf (by rw [iLt_F, lenI_eq]; omega) (T.out rfl)
end Abs
end Go.Proofs.YtamgbanmnededaaDoor

/- Lexer: the law on spaces. -/
namespace Go.Proofs.YtamgbanmnededaaDoor
namespace Abs
set_option linter.unusedVariables false
set_option linter.unusedSimpArgs false
theorem word_T2 {L : List Int} {a : Int} (h : DeckOk L a) : T (m10 L a) (fun y => DeckOk y.2.1 y.2.2.1 ∧ wordS y.1 = true) := by
  unfold m10
  refine T.call (next_T h (by omega) (by omega)) (fun y ⟨h1, h2, h3⟩ => ?_)
  refine T.grd (by rw [bnd_T]; refine ⟨h2, ?_⟩; rw [lenI_eq]; exact h3) ?_
  refine T.grd (by rw [inB_T]; simp only [List.length_cons, List.length_nil]; omega) ?_
  refine T.ret ⟨h1, ?_⟩
  dsimp only
  have : y.1.toNat < 10 := by omega
  generalize y.1.toNat = k at this
  match k, this with
  | 0, _ | 1, _ | 2, _ | 3, _ | 4, _ | 5, _ | 6, _ | 7, _ | 8, _ | 9, _ => rfl
theorem hour_T {L : List Int} {a : Int} (h : DeckOk L a) : T (m27 L a) (fun y => DeckOk y.2.1 y.2.2.1 ∧ 0 ≤ y.1 ∧ y.1 ≤ 876599) := by
  unfold m27
  refine T.call (next_T h (by omega) (by omega)) (fun y ⟨h1, h2, h3⟩ => ?_)
  refine T.cnd (fun _ => ?_) (fun _ => ?_)
  · refine T.call (next_T h1 (by omega) (by omega)) (fun z ⟨g1, g2, g3⟩ => T.ret ⟨g1, g2, by dsimp only; omega⟩)
  refine T.cnd (fun _ => ?_) (fun _ => ?_)
  · refine T.call (next_T h1 (by omega) (by omega)) (fun z ⟨g1, g2, g3⟩ => T.ret ⟨g1, g2, by dsimp only; omega⟩)
  refine T.cnd (fun _ => ?_) (fun _ => ?_)
  · refine T.call (next_T h1 (by omega) (by omega)) (fun z ⟨g1, g2, g3⟩ => T.ret ⟨g1, ?_, ?_⟩) <;> dsimp only <;> rw [iSub64 (by omega) (by omega)] <;> omega
  · refine T.call (next_T h1 (by omega) (by omega)) (fun z ⟨g1, g2, g3⟩ => T.ret ⟨g1, g2, by dsimp only; omega⟩)
/-- The tokens that a deck gives. -/
theorem tokens_T {L : List Int} (h : DeckOk L 0) : T (m16 L) (fun y => y.1.length ≤ 30 ∧ ∀ t ∈ y.1, TokOk t) := by
  unfold m16
  refine T.callE (show m11 L = some (L, 0, ()) from rfl) ?_
  refine T.loop (fun q => DeckOk q.1 q.2.1 ∧ q.2.2.1.length ≤ 30 ∧ ∀ t ∈ q.2.2.1, TokOk t) (fun q => 30 - q.2.2.1.length) ⟨h, by simp, by simp⟩ ?_
  rintro ⟨K, a, ts, _⟩ ⟨hd, hl, ho⟩
  dsimp only at hd hl ho ⊢
  refine T.callE (show m25 K a = some (iLt a (lenI K), K, a, ()) from rfl) ?_
  have add : ∀ (K' : List Int) (a' : Int) (t : DS0), ts.length < 30 → DeckOk K' a' → TokOk t → T (cond (fits (List.length ts + List.length ([t] : List DS0)) 40) (some (Sum.inl (β := List DS0 × Unit) (K', a', ts ++ [t], ()))) none) (LQ (fun q => DeckOk q.1 q.2.1 ∧ q.2.2.1.length ≤ 30 ∧ ∀ t ∈ q.2.2.1, TokOk t) (fun q => 30 - q.2.2.1.length) (30 - ts.length) (fun y => y.1.length ≤ 30 ∧ ∀ t ∈ y.1, TokOk t)) := by
    intro K' a' t h1 h2 h3
    refine T.grd (by rw [fits_T, List.length_singleton]; omega) (T.go ⟨h2, ?_, ?_⟩ ?_)
    · dsimp only; rw [List.length_append, List.length_singleton]; omega
    · dsimp only; intro x hx
      rcases List.mem_append.1 hx with hx | hx
      · exact ho x hx
      · rw [List.mem_singleton.1 hx]; exact h3
    · dsimp only; rw [List.length_append, List.length_singleton]; omega
  refine T.cnd (fun hc => ?_) (fun hc => T.out ⟨hl, ho⟩)
  rw [candF_T, iLt_T, iLt_T, lenI_eq, lenI_eq] at hc
  have hlt : ts.length < 30 := by omega
  refine T.call (next_T hd (by omega) (by omega)) (fun y ⟨h1, h2, h3⟩ => ?_)
  refine T.cnd (fun k0 => ?_) (fun k0 => ?_)
  · refine T.call (word_T2 h1) (fun z ⟨g1, g2⟩ => add _ _ _ hlt g1 (.inl ⟨rfl, g2, rfl⟩))
  refine T.cnd (fun k1 => ?_) (fun k1 => ?_)
  · refine T.call (word_T2 h1) (fun z ⟨g1, g2⟩ => add _ _ _ hlt g1 (.inl ⟨rfl, g2, rfl⟩))
  refine T.cnd (fun k2 => ?_) (fun k2 => ?_)
  · refine T.call (upto_T h1 (by omega) (by omega)) (fun z ⟨g1, g2, g3⟩ => ?_)
    refine T.call (upto_T g1 (by omega) (by omega)) (fun u ⟨f1, f2, f3⟩ => ?_)
    rw [iSub64 (by omega) (by omega)]
    exact add _ _ _ hlt f1 (.inr (.inl ⟨rfl, rfl, by dsimp only; omega, by dsimp only; omega⟩))
  refine T.cnd (fun k3 => ?_) (fun k3 => ?_)
  · refine T.call (hour_T h1) (fun z ⟨g1, g2, g3⟩ => add _ _ _ hlt g1 (.inr (.inr (.inl ⟨rfl, rfl, g2, g3⟩))))
  simp only [iEq_F] at k0 k1 k2 k3
  refine T.ct (by rw [iEq_T]; omega) ?_
  refine T.call (next_T h1 (by omega) (by omega)) (fun z ⟨g1, g2, g3⟩ => ?_)
  refine T.grd (by rw [bnd_T]; refine ⟨g2, ?_⟩; rw [lenI_eq]; exact g3) ?_
  refine T.grd (by rw [inB_T]; simp only [List.length_cons, List.length_nil]; omega) ?_
  refine add _ _ _ hlt g1 (.inr (.inr (.inr ⟨rfl, rfl, ?_⟩)))
  dsimp only
  have : z.1.toNat < 5 := by omega
  generalize z.1.toNat = k at this
  match k, this with
  | 0, _ => exact ⟨59, rfl, rfl⟩
  | 1, _ => exact ⟨58, rfl, rfl⟩
  | 2, _ => exact ⟨44, rfl, rfl⟩
  | 3, _ => exact ⟨40, rfl, rfl⟩
  | 4, _ => exact ⟨41, rfl, rfl⟩
/-- A separator. -/
structure Sep (s : ByteArray) : Prop where
  size : s.size ≤ 12
  stop : ∀ r, Stop (bytesI s ++ r)
  scan : ∀ (i : Nat) (toks : List DS0) (r : List Int), scanF i toks (bytesI s ++ r) = scanF (i + s.size) toks r
theorem stop32 (r : List Int) : Stop (32 :: r) := stop_cons ⟨rfl, rfl⟩
theorem stop10 (r : List Int) : Stop (10 :: r) := stop_cons ⟨rfl, rfl⟩
theorem sep_hash (i : Nat) (toks : List DS0) (r : List Int) : scanF i toks (32 :: (35 :: [32, 97, 32, 40, 32, 48, 48, 55] ++ (10 :: r))) = scanF (i + 11) toks r := by
  rw [scanF_sp (.inl rfl), scanF_hash _ _ _ _ (fun x hx => by simp only [List.mem_cons, List.not_mem_nil, or_false] at hx; unfold isLine; rw [decide_eq_true_eq]; omega) (fun c hc => by cases hc; rfl), scanF_sp (.inr rfl)]
  rfl
theorem sep_at (k : Nat) (h : k < 5) : Sep (List.getD ([(bs [32]), (bs [10]), (bs [32, 32, 32]), (bs [32, 35, 32, 97, 32, 40, 32, 48, 48, 55, 10]), (bs [10, 10, 32])] : List ByteArray) k ByteArray.empty) := by
  match k, h with
  | 0, _ => exact ⟨by decide, fun r => stop32 _, fun i toks r => scanF_sp (.inl rfl) _ _ _⟩
  | 1, _ => exact ⟨by decide, fun r => stop10 _, fun i toks r => scanF_sp (.inr rfl) _ _ _⟩
  | 2, _ => exact ⟨by decide, fun r => stop32 _, fun i toks r => (scanF_sp (.inl rfl) _ _ _).trans ((scanF_sp (.inl rfl) _ _ _).trans (scanF_sp (.inl rfl) _ _ _))⟩
  | 3, _ => exact ⟨by decide, fun r => stop32 _, fun i toks r => sep_hash i toks r⟩
  | 4, _ => exact ⟨by decide, fun r => stop10 _, fun i toks r => (scanF_sp (.inr rfl) _ _ _).trans ((scanF_sp (.inr rfl) _ _ _).trans (scanF_sp (.inl rfl) _ _ _))⟩
theorem law_spaces (L M : List Int) (h : DeckOk L 0) (hM : ∀ x ∈ M, 0 ≤ x ∧ x ≤ 255) : m4 L M = some (true, ()) := by
  refine T.eq ?_
  unfold m4
  refine T.call (tokens_T h) ?_
  rintro ⟨ts, _⟩ ⟨hl, ho⟩
  dsimp only at hl ho ⊢
  let J : List Int × List DS0 × ByteArray × Int × Unit → Prop := fun q => ∃ (i : Nat) (s : ByteArray) (tk : List DS0), i ≤ ts.length ∧ s.size ≤ 40 * i ∧ tk.length = i ∧ (ts.take i).map strip = tk.map strip ∧ (∀ r, Stop r → scanF 0 [] (bytesI s ++ r) = scanF s.size tk r) ∧ q = (M, ts, s, (i : Int), ())
  refine T.loop J (fun q => ts.length - q.2.2.2.1.toNat) ⟨0, bs [], [], by omega, by decide, rfl, rfl, fun r _ => rfl, rfl⟩ ?_
  rintro _ ⟨i, s, tk, hi, hs, hk, hst, hsc, rfl⟩
  dsimp only
  refine T.cnd (fun hc => ?_) (fun hc => ?_) <;> simp only [iLt_T, iLt_F, lenI_eq] at hc
  · have hi' : i < ts.length := by omega
    rw [iAdd64 (by omega) (by omega)]
    refine T.grd (by rw [cutOk_T]; omega) ?_
    have hcut : cutL (i : Int) ((i : Int) + 1) ts = [ts[i]] := by
      have := List.take_succ_eq_append_getElem hi'
      unfold cutL
      rw [show ((i : Int) + 1).toNat = i + 1 by omega, Int.toNat_natCast, this, List.drop_append_of_le_length (by rw [List.length_take]; omega), List.drop_take_self]
      rfl
    rw [hcut]
    refine T.call (join1_r (ho _ (List.getElem_mem hi'))) ?_
    rintro ⟨w, er, _⟩ ⟨e1, e2⟩
    dsimp only at e1 e2 ⊢
    have hw : w.size ≤ 20 := by have := e2.len; rw [bl_len] at this; omega
    have core : ∀ x : Int, 0 ≤ x → x < 5 → T (cond (iNe 5 0)
 (cond (bnd x (lenI ([(bs [32]), (bs [10]), (bs [32, 32, 32]), (bs [32, 35, 32, 97, 32, 40, 32, 48, 48, 55, 10]), (bs [10, 10, 32])] : List ByteArray)))
 (cond (inB (Int.toNat x) ([(bs [32]), (bs [10]), (bs [32, 32, 32]), (bs [32, 35, 32, 97, 32, 40, 32, 48, 48, 55, 10]), (bs [10, 10, 32])] : List ByteArray))
 (cond (sFits s (List.getD ([(bs [32]), (bs [10]), (bs [32, 32, 32]), (bs [32, 35, 32, 97, 32, 40, 32, 48, 48, 55, 10]), (bs [10, 10, 32])] : List ByteArray) (Int.toNat x) ByteArray.empty))
 (cond (sFits (sCat s (List.getD ([(bs [32]), (bs [10]), (bs [32, 32, 32]), (bs [32, 35, 32, 97, 32, 40, 32, 48, 48, 55, 10]), (bs [10, 10, 32])] : List ByteArray) (Int.toNat x) ByteArray.empty)) w)
 (some (.inl (M, ts, sCat (sCat s (List.getD ([(bs [32]), (bs [10]), (bs [32, 32, 32]), (bs [32, 35, 32, 97, 32, 40, 32, 48, 48, 55, 10]), (bs [10, 10, 32])] : List ByteArray) (Int.toNat x) ByteArray.empty)) w, (i : Int) + 1, ()))) none) none) none) none) none) (LQ J (fun q => ts.length - q.2.2.2.1.toNat) (ts.length - (i : Int).toNat) (fun x => x = (true, ()))) := by
      intro x x0 x5
      have sp := sep_at x.toNat (by omega)
      refine T.grd rfl ?_
      refine T.grd (by rw [bnd_T]; refine ⟨x0, ?_⟩; rw [lenI_eq]; exact x5) ?_
      refine T.grd (by rw [inB_T]; simp only [List.length_cons, List.length_nil]; omega) ?_
      generalize List.getD ([(bs [32]), (bs [10]), (bs [32, 32, 32]), (bs [32, 35, 32, 97, 32, 40, 32, 48, 48, 55, 10]), (bs [10, 10, 32])] : List ByteArray) (Int.toNat x) ByteArray.empty = sep at sp
      have hz := sp.size
      refine T.grd (sFits_t (by omega)) ?_
      refine T.grd (sFits_t (by rw [cat_size]; omega)) ?_
      refine T.go ⟨i + 1, _, tk ++ [((ts[i]).1, (ts[i]).2.1, (ts[i]).2.2.1, ((s.size + sep.size : Nat) : Int), ())], by omega, by simp only [cat_size]; omega, by rw [List.length_append, hk, List.length_singleton], ?_, ?_, rfl⟩ (by dsimp only; omega)
      · rw [List.take_succ_eq_append_getElem hi', List.map_append, List.map_append, hst]; rfl
      · intro r hr
        rw [bl_cat, bl_cat, List.append_assoc, List.append_assoc, hsc _ (sp.stop _), sp.scan, scanF_tok e2 _ _ _ hr (by omega)]
        congr 1
        simp only [cat_size, bl_len]
    refine T.cnd (fun hc2 => ?_) (fun hc2 => ?_) <;> simp only [iLt_T, iLt_F, lenI_eq] at hc2
    · refine T.grd (by rw [bnd_T, lenI_eq]; omega) ?_
      have hx := hM (atI M (i : Int) 0) (by unfold atI; rw [Int.toNat_natCast, List.getD_eq_getElem?_getD, List.getElem?_eq_getElem (show i < M.length by omega)]; exact List.getElem_mem _)
      have hx2 := mark5 _ hx
      exact core _ hx2.1 hx2.2.1
    · exact core _ (by decide) (by decide)
  · obtain rfl : i = ts.length := by omega
    refine T.mapL ?_
    have he : (bs [32, 35, 32, 101, 110, 100]).size = 6 := rfl
    have hb : bytesI (bs [32, 35, 32, 101, 110, 100]) = 32 :: (35 :: [32, 101, 110, 100] ++ []) := rfl
    refine T.grd (sFits_t (by omega)) ?_
    have hcs := cat_size s (bs [32, 35, 32, 101, 110, 100])
    refine T.callE (scan_m _ (by omega)) ?_
    have hS : scanS (sCat s (bs [32, 35, 32, 101, 110, 100])) = (tk, 0, 0, ()) := by
      unfold scanS
      rw [if_neg (by omega), scanF_fuel (by rw [bl_len]; omega), bl_cat, hsc _ (by rw [hb]; exact stop32 _), hb, scanF_sp (.inl rfl), scanF_hash _ _ _ _ (fun x hx => by simp only [List.mem_cons, List.not_mem_nil, or_false] at hx; unfold isLine; rw [decide_eq_true_eq]; omega) (fun c hc => by cases hc), scanF_nil]
    rw [hS]
    refine T.ct rfl ?_
    rw [List.take_length] at hst
    refine T.callE (same_m ts tk hst (by omega)) (T.ct rfl ?_)
    rw [awake_ok]; exact T.ret rfl
end Abs
end Go.Proofs.YtamgbanmnededaaDoor
