/- Merged: L11 L12 L13 L14 L15. -/
import Derived.Test.YtamgbanmnededaaDoorLD
import Derived.Test.YtamgbanmnededaaDoorPIR
/- Lexer: hours and decimals, the program's and the document's. -/
namespace Go.Proofs.YtamgbanmnededaaDoor
namespace Abs
set_option linter.unusedVariables false
set_option linter.unusedSimpArgs false
def decB (u : Nat) : List Int := (Lib.decDigits u).map fun c => (c.toNat : Int)
theorem decB_lo {u : Nat} (h : u < 10) : decB u = [48 + (u : Int)] := by
  unfold decB; rw [Lib.decDigits, dif_pos h]
  show [((UInt8.ofNat (48 + u)).toNat : Int)] = _
  have : (UInt8.ofNat (48 + u)).toNat = 48 + u := by simp [UInt8.toNat_ofNat']; omega
  rw [this]; simp
theorem decB_hi {u : Nat} (h : 10 ≤ u) : decB u = decB (u / 10) ++ [48 + ((u % 10 : Nat) : Int)] := by
  unfold decB; rw [Lib.decDigits, dif_neg (by omega), List.map_append]
  congr 1
  show [((UInt8.ofNat (48 + u % 10)).toNat : Int)] = _
  have : (UInt8.ofNat (48 + u % 10)).toNat = 48 + u % 10 := by simp [UInt8.toNat_ofNat']; omega
  rw [this]; simp
theorem decB_len (u : Nat) : 1 ≤ (decB u).length ∧ (decB u).length ≤ u + 1 := by
  induction u using Nat.strongRecOn with
  | ind u ih =>
    by_cases h : u < 10
    · rw [decB_lo h]; simp
    · rw [decB_hi (by omega), List.length_append, List.length_singleton]
      have := ih (u / 10) (by omega); omega
theorem digits_m (n : Nat) (hn : n ≤ 100000000000000000) : T (m54 (n : Int) 1) (fun y => bytesI y.1 = decB n) := by
  unfold m54
  have hdl := decB_len n
  refine T.loop (fun q => ∃ (x : Nat) (s : ByteArray), x ≤ n ∧ (0 < x → decB x ++ bytesI s = decB n) ∧ (x = 0 → bytesI s = decB n ∨ (n = 0 ∧ s = bs [])) ∧ q = ((x : Int), 1, s, ())) (fun q => q.1.toNat + (1 - q.2.2.1.size)) ⟨n, bs [], by omega, fun _ => List.append_nil _, fun h => .inr ⟨h, rfl⟩, rfl⟩ ?_
  rintro _ ⟨x, s, hx, h1, h2, rfl⟩
  dsimp only
  have hb := bl_len s
  refine T.cnd (fun hc => ?_) (fun hc => ?_) <;> simp only [corT_T, corT_F, iLt_T, iLt_F, sLen_eq] at hc
  · have hs : s.size ≤ n + 1 := by
      by_cases q : 0 < x
      · have := congrArg List.length (h1 q); rw [List.length_append] at this; omega
      · rcases h2 (by omega) with r | ⟨_, r⟩
        · have := congrArg List.length r; omega
        · rw [r]; exact Nat.zero_le _
    have e : IntKind.wrap .u8 (iAdd .i64 48 (iRem (x : Int) 10)) = 48 + ((x % 10 : Nat) : Int) := by rw [rem_pos (by omega), iAdd64 (by omega) (by omega), wrap8 (by omega) (by omega)]; simp
    have e2 : iQuo .i64 (x : Int) 10 = ((x / 10 : Nat) : Int) := by unfold iQuo; rw [Int.tdiv_eq_ediv_of_nonneg (by omega), wrap64 (by omega) (by omega)]; simp
    rw [e, e2]
    refine T.grd rfl (T.grd (sFits_t (by have : (bsI [48 + ((x % 10 : Nat) : Int)]).size = 1 := rfl; omega)) (T.grd rfl ?_))
    have hcat := bl_cons (c := 48 + ((x % 10 : Nat) : Int)) (by omega) s
    refine T.go ⟨x / 10, _, by omega, fun q => ?_, fun q => .inl ?_, rfl⟩ ?_
    · rw [hcat, ← h1 (by omega), decB_hi (show 10 ≤ x by omega), List.append_assoc]; rfl
    · rw [hcat]
      by_cases q2 : 0 < x
      · rw [← h1 q2, decB_lo (show x < 10 by omega), show x % 10 = x by omega]; rfl
      · have hx0 : x = 0 := by omega
        subst hx0
        rcases h2 rfl with r | ⟨r1, r2⟩
        · rw [r] at hb; omega
        · subst r1 r2; rw [decB_lo (by omega)]; rfl
    · dsimp only; rw [cat_size]
      have : (bsI [48 + ((x % 10 : Nat) : Int)]).size = 1 := rfl
      omega
  · have hx0 : x = 0 := by omega
    subst hx0
    refine T.out ?_
    rcases h2 rfl with r | ⟨r1, r2⟩
    · exact r
    · subst r2; have : (bs []).size = 0 := rfl
      omega
theorem itoa_bl (n : Int) : bytesI (itoaB n) = if n < 0 then 45 :: decB n.natAbs else decB n.toNat := by
  unfold itoaB bytesI Lib.itoa decB
  by_cases h : n < 0
  · rw [if_pos h, if_pos h]; rfl
  · rw [if_neg h, if_neg h]
theorem itoa_sz (n : Int) : (itoaB n).size ≤ n.natAbs + 2 := by
  rw [← bl_len, itoa_bl]
  have h1 := decB_len n.natAbs
  have h2 := decB_len n.toNat
  split
  · rw [List.length_cons]; omega
  · omega
theorem dec_m (n : Int) (h : -100000000000000000 ≤ n ∧ n ≤ 100000000000000000) : m43 n = some (itoaB n, ()) := by
  refine T.eq ?_
  unfold m43
  have hi := itoa_bl n
  refine T.cnd (fun hc => ?_) (fun hc => ?_) <;> simp only [iLt_T, iLt_F] at hc
  · rw [if_pos hc] at hi
    have e : iNeg .i64 n = ((n.natAbs : Nat) : Int) := by unfold iNeg; rw [wrap64 (by omega) (by omega)]; omega
    rw [e]
    refine T.call (digits_m n.natAbs (by omega)) (fun y hy => ?_)
    have hs : y.1.size ≤ n.natAbs + 1 := by rw [← bl_len, hy]; exact (decB_len _).2
    refine T.grd (sFits_t (by have : (bs [45]).size = 1 := rfl; omega)) (T.ret ?_)
    congr 1
    refine bl_inj ?_
    rw [bl_cat, hy, hi]; rfl
  · rw [if_neg (by omega)] at hi
    rw [show n = ((n.toNat : Nat) : Int) by omega]
    refine T.call (digits_m n.toNat (by omega)) (fun y hy => T.ret ?_)
    congr 1
    refine bl_inj ?_
    rw [hy, show ((n.toNat : Nat) : Int) = n by omega, hi]
theorem decB_D (u : Nat) : AllD (decB u) := by
  induction u using Nat.strongRecOn with
  | ind u ih =>
    by_cases h : u < 10
    · rw [decB_lo h]; intro x hx; rw [List.mem_singleton.1 hx]; unfold isDig; rw [decide_eq_true_eq]; omega
    · rw [decB_hi (by omega)]
      intro x hx
      rcases List.mem_append.1 hx with q | q
      · exact ih (u / 10) (by omega) x q
      · rw [List.mem_singleton.1 q]; unfold isDig; rw [decide_eq_true_eq]; omega
theorem decB_val (u : Nat) : val (decB u) = (u : Int) := by
  induction u using Nat.strongRecOn with
  | ind u ih =>
    by_cases h : u < 10
    · rw [decB_lo h]; unfold val; show (0 : Int) * 10 + (48 + (u : Int) - 48) = _; omega
    · rw [decB_hi (by omega), val_snoc, ih (u / 10) (by omega)]; omega
theorem decB_le : ∀ (k u : Nat), u < 10 ^ (k + 1) → (decB u).length ≤ k + 1 := by
  intro k
  induction k with
  | zero => intro u hu; rw [decB_lo (by simpa using hu)]; simp
  | succ k ih =>
    intro u hu
    by_cases h : u < 10
    · rw [decB_lo h]; simp
    · rw [decB_hi (by omega), List.length_append, List.length_singleton]
      have := ih (u / 10) (by rw [Nat.pow_succ] at hu; omega)
      omega
theorem val_inj : ∀ (a b : List Int), AllD a → AllD b → a.length = b.length → val a = val b → a = b := by
  intro a
  induction a with
  | nil => intro b _ _ h _; exact (List.length_eq_zero_iff.1 h.symm).symm
  | cons c a ih =>
    intro b ha hb h hv
    cases b with
    | nil => simp at h
    | cons d b =>
      have ha' : AllD a := fun x hx => ha x (by simp [hx])
      have hb' : AllD b := fun x hx => hb x (by simp [hx])
      have hl : a.length = b.length := by simpa using h
      have h1 := val_bd a ha'
      have h2 := val_bd b hb'
      have h3 := dig_bd (ha c (by simp))
      have h4 := dig_bd (hb d (by simp))
      rw [val_cons, val_cons, hl] at hv
      rw [hl] at h1
      have hp := p10 b.length
      generalize (10 : Int) ^ b.length = p at *
      have hcd : c = d := by
        rcases Int.lt_trichotomy c d with q | q | q
        · have : (c - 48 + 1) * p ≤ (d - 48) * p := Int.mul_le_mul_of_nonneg_right (by omega) (by omega)
          rw [Int.add_mul] at this; omega
        · exact q
        · have : (d - 48 + 1) * p ≤ (c - 48) * p := Int.mul_le_mul_of_nonneg_right (by omega) (by omega)
          rw [Int.add_mul] at this; omega
      subst hcd
      rw [ih b ha' hb' hl (by omega)]
/-- Digits, with zeros ahead. -/
theorem rep_bl (n : Nat) : bytesI (repB (bs [48]) n) = List.replicate n 48 := by
  unfold repB
  have e : (bs [48]).data.toList = [48] := rfl
  rw [e]
  have : ∀ n : Nat, Lib.repeatL [48] n = List.replicate n (48 : UInt8) := by
    intro n
    induction n with
    | zero => rfl
    | succ n ih =>
      simp [Lib.repeatL, List.replicate_succ] at ih ⊢
      exact ih
  rw [this]
  show ((List.replicate n (48 : UInt8)).toArray.toList.map fun c => (c.toNat : Int)) = _
  simp
theorem val_zeros (n : Nat) (ds : List Int) : val (List.replicate n 48 ++ ds) = val ds := by
  induction n with
  | zero => rfl
  | succ n ih => rw [List.replicate_succ, List.cons_append, val_cons, ih]; omega
theorem pad_eq (n : Int) (k : Nat) (h : 0 ≤ n) (hn : n < 10 ^ k) (hk : k = 2 ∨ k = 4) : ∃ v : ByteArray × Unit, m61 n (k : Int) = some v ∧ m54 n (k : Int) = some v ∧ v.1.size = k := by
  obtain ⟨⟨v, u⟩, hv, ds, e1, e2, e3, e4⟩ := digits_fix n k h hn (by omega)
  refine ⟨(v, u), ?_, hv, by rw [← bl_len, e1, e4]⟩
  have hn4 : n < 10000 := by rcases hk with rfl | rfl <;> omega
  refine T.eq ?_
  unfold m61
  have hi := itoa_bl n
  rw [if_neg (by omega)] at hi
  have hlen : (decB n.toNat).length ≤ k := by
    rcases hk with rfl | rfl
    · exact decB_le 1 n.toNat (by omega)
    · exact decB_le 3 n.toNat (by omega)
  have hz : (itoaB n).size = (decB n.toNat).length := by rw [← bl_len, hi]
  refine T.callE (show mItoa n = some (itoaB n, ()) by unfold mItoa; rw [if_pos (by omega)]) ?_
  dsimp only
  rw [sLen_eq, hz, iSub64 (by omega) (by omega), show iMax 0 ((k : Int) - ((decB n.toNat).length : Int)) = ((k - (decB n.toNat).length : Nat) : Int) by unfold iMax; omega]
  have hs48 : (bs [48]).size = 1 := rfl
  refine T.callE (show mRep (bs [48]) ((k - (decB n.toNat).length : Nat) : Int) = some (repB (bs [48]) (k - (decB n.toNat).length), ()) by unfold mRep; rw [if_pos (by rw [hs48]; omega), Int.toNat_natCast]) ?_
  have hr := rep_bl (k - (decB n.toNat).length)
  have hrs : (repB (bs [48]) (k - (decB n.toNat).length)).size = k - (decB n.toNat).length := by rw [← bl_len, hr, List.length_replicate]
  refine T.grd (sFits_t (by dsimp only; omega)) (T.ret ?_)
  congr 1
  refine bl_inj ?_
  rw [bl_cat, hr, hi, e1]
  refine val_inj _ _ (fun x hx => ?_) e2 ?_ ?_
  · rcases List.mem_append.1 hx with q | q
    · rw [List.eq_of_mem_replicate q]; decide
    · exact decB_D _ x q
  · rw [List.length_append, List.length_replicate, e4]; omega
  · rw [val_zeros, decB_val, e3]; omega
theorem civil_m {n y m d : Int} (h0 : 0 ≤ n) (h1 : n ≤ 876599) (hc : Cal.IsCiv n y m d) : m60 n = some ((y, m, d, ()), n % 24, 0, ()) := by
  refine T.eq ?_
  unfold m60 m68
  refine T.bind (T.ret ?_)
  refine T.cf (by simp only [not_F, candF_T, iLe_T]; omega) ?_
  refine T.grd rfl ?_
  have hq : iQuo .i64 n 24 = n / 24 := by unfold iQuo; rw [Int.tdiv_eq_ediv_of_nonneg h0, wrap64 (by omega) (by omega)]
  rw [hq]
  refine T.callE (yl_m 2000 (by omega)) ?_
  refine T.loop (fun q => ∃ Y D : Int, 2000 ≤ Y ∧ Y ≤ 2100 ∧ 0 ≤ D ∧ D + Cal.cumY (Y - 2000).toNat = n / 24 ∧ q = (n, D, Y, 1, Cal.yl Y, 0, 0, 0, ())) (fun q => q.2.1.toNat) ⟨2000, n / 24, by omega, by omega, by omega, by show n / 24 + 0 = _; omega, rfl⟩ ?_
  rintro _ ⟨Y, D, y0, y9, d0, he, rfl⟩
  dsimp only
  have hcy := Cal.cumY_eq (Y - 2000).toNat
  have hyl := Cal.yl_bd Y
  have y1 : Y ≤ 2099 := by
    rcases Int.lt_or_le 2099 Y with q | q
    · exfalso; omega
    · exact q
  refine T.cnd (fun hc1 => ?_) (fun hc1 => ?_) <;> simp only [iLe_T, iLe_F] at hc1
  · rw [iAdd64 (by omega) (by omega), iSub64 (by omega) (by omega)]
    refine T.callE (yl_m (Y + 1) (by omega)) ?_
    refine T.go ⟨Y + 1, D - Cal.yl Y, by omega, by omega, by omega, ?_, rfl⟩ (by dsimp only; omega)
    have e1 : (Y + 1 - 2000).toNat = (Y - 2000).toNat + 1 := by omega
    have e2 : Cal.cumY ((Y - 2000).toNat + 1) = Cal.cumY (Y - 2000).toNat + Cal.yl Y := by rw [Cal.cumY]; congr 2; omega
    rw [e1, e2]; omega
  refine T.mapL ?_
  refine T.callE (len_m Y 1 (by omega) (by omega)) ?_
  refine T.loop (fun q => ∃ M E : Int, 1 ≤ M ∧ M ≤ 12 ∧ 0 ≤ E ∧ E + Cal.cumM Y (M - 1).toNat = D ∧ q = (n, E, Y, M, Cal.len Y M, 0, 0, 0, ())) (fun q => q.2.1.toNat) ⟨1, D, by omega, by omega, by omega, by show D + 0 = _; omega, rfl⟩ ?_
  rintro _ ⟨M, E, m0, m1, e0, hE, rfl⟩
  dsimp only
  have hl := Cal.len_bd Y M m0 m1
  have hcm := Cal.cumM_bd Y (M - 1).toNat (by omega)
  refine T.cnd (fun hc2 => ?_) (fun hc2 => ?_) <;> simp only [iLe_T, iLe_F] at hc2
  · have e2 : Cal.cumM Y ((M - 1).toNat + 1) = Cal.cumM Y (M - 1).toNat + Cal.len Y M := by rw [Cal.cumM]; congr 2; omega
    have hM : M ≤ 11 := by
      rcases Int.lt_or_le 11 M with q | q
      · exfalso
        obtain rfl : M = 12 := by omega
        have e3 : Cal.cumM Y 12 = Cal.yl Y := Cal.cumM_12 Y
        have e4 : ((12 : Int) - 1).toNat + 1 = 12 := rfl
        rw [e4, e3] at e2
        omega
      · exact q
    rw [iAdd64 (by omega) (by omega), iSub64 (by omega) (by omega)]
    refine T.callE (len_m Y (M + 1) (by omega) (by omega)) ?_
    refine T.go ⟨M + 1, E - Cal.len Y M, by omega, by omega, by omega, ?_, rfl⟩ (by dsimp only; omega)
    rw [show (M + 1 - 1).toNat = (M - 1).toNat + 1 by omega, e2]; omega
  · refine T.mapL ?_
    refine T.grd rfl (T.ret ?_)
    have hc3 : Cal.IsCiv n Y M (E + 1) := ⟨y0, y1, m0, m1, by omega, by omega, by omega⟩
    obtain ⟨rfl, rfl, rfl⟩ := hc.unique hc3
    rw [iAdd64 (by omega) (by omega), rem_pos h0]
/-- calendar.Format is the document's. -/
theorem fmt_eq (n : Int) : m52 n = m44 n := by
  by_cases hb : 0 ≤ n ∧ n ≤ 876599
  · obtain ⟨y, m, d, hc⟩ := Cal.civ_ex n hb.1 hb.2
    have hc' := hc
    obtain ⟨y0, y1, m0, m1, d0, d1, _⟩ := hc'
    have hl := Cal.len_bd y m m0 m1
    obtain ⟨vy, a1, b1, z1⟩ := pad_eq y 4 (by omega) (by omega) (.inr rfl)
    obtain ⟨vm, a2, b2, z2⟩ := pad_eq m 2 (by omega) (by omega) (.inl rfl)
    obtain ⟨vd, a3, b3, z3⟩ := pad_eq d 2 (by omega) (by omega) (.inl rfl)
    obtain ⟨vh, a4, b4, z4⟩ := pad_eq (n % 24) 2 (by omega) (by omega) (.inl rfl)
    have s45 : (bs [45]).size = 1 := rfl
    have s84 : (bs [84]).size = 1 := rfl
    have f1 : sFits vy.1 (bs [45]) = true := sFits_t (by omega)
    have f2 : sFits (sCat vy.1 (bs [45])) vm.1 = true := sFits_t (by rw [cat_size]; omega)
    have f3 : sFits (sCat (sCat vy.1 (bs [45])) vm.1) (bs [45]) = true := sFits_t (by rw [cat_size, cat_size]; omega)
    have f4 : sFits (sCat (sCat (sCat vy.1 (bs [45])) vm.1) (bs [45])) vd.1 = true := sFits_t (by rw [cat_size, cat_size, cat_size]; omega)
    have f5 : sFits (bs [84]) vh.1 = true := sFits_t (by omega)
    have f6 : sFits (sCat (sCat (sCat (sCat vy.1 (bs [45])) vm.1) (bs [45])) vd.1) (sCat (bs [84]) vh.1) = true := sFits_t (by simp only [cat_size]; omega)
    have f7 : sFits (sCat (sCat (sCat (sCat vy.1 (bs [45])) vm.1) (bs [45])) vd.1) (bs [84]) = true := sFits_t (by simp only [cat_size]; omega)
    have f8 : sFits (sCat (sCat (sCat (sCat (sCat vy.1 (bs [45])) vm.1) (bs [45])) vd.1) (bs [84])) vh.1 = true := sFits_t (by simp only [cat_size]; omega)
    have e6 : sCat (sCat (sCat (sCat (sCat vy.1 (bs [45])) vm.1) (bs [45])) vd.1) (sCat (bs [84]) vh.1) = sCat (sCat (sCat (sCat (sCat (sCat vy.1 (bs [45])) vm.1) (bs [45])) vd.1) (bs [84])) vh.1 := bl_inj (by simp only [bl_cat, List.append_assoc])
    have a1 : m61 y 4 = some vy := a1
    have a2 : m61 m 2 = some vm := a2
    have a3 : m61 d 2 = some vd := a3
    have a4 : m61 (n % 24) 2 = some vh := a4
    have b1 : m54 y 4 = some vy := b1
    have b2 : m54 m 2 = some vm := b2
    have b3 : m54 d 2 = some vd := b3
    have b4 : m54 (n % 24) 2 = some vh := b4
    unfold m52 m44
    rw [civil_m hb.1 hb.2 hc, civil_r hb.1 hb.2 hc]
    simp only [Option.bind_some, a1, a2, a3, a4, b1, b2, b3, b4, f1, f2, f3, f4, f5, f6, f7, f8, cond_true, e6]
    by_cases hh : n % 24 = 0
    · rw [hh]; rfl
    · have g1 : iNe (n % 24) 0 = true := by rw [iNe_T]; exact hh
      have g2 : iLt 0 (n % 24) = true := by rw [iLt_T]; omega
      rw [g1, g2]
  · have q : cond (iLe 0 n) (iLe n 876599) false = false := by rw [candF_F, iLe_F, iLe_F]; omega
    unfold m52 m44 m60 m55 m68 m63
    rw [q]; rfl
theorem word_allm (s : ByteArray) : m23 s = some (wordS s, ()) := by
  by_cases h : s.size ≤ 4611686018427387904
  · exact word_m s h
  · refine T.eq ?_
    unfold m23 wordS
    have hl := sLen_eq s
    refine T.grd (by rw [or_T, bnd_T]; left; omega) ?_
    refine T.ct (by rw [corT_T, iEq_T, iLt_T]; omega) ?_
    refine T.grd (by rw [or_T]; right; rfl) (T.ret ?_)
    rw [if_pos (by omega)]
theorem word_allr (s : ByteArray) : m24 s = some (wordS s, ()) := by
  by_cases h : s.size ≤ 4611686018427387904
  · exact word_r s h
  · refine T.eq ?_
    unfold m24 wordS
    have hl := sLen_eq s
    refine T.grd (by rw [or_T, bnd_T]; left; omega) ?_
    refine T.ct (by rw [corT_T, iLt_T, iLt_T]; omega) ?_
    refine T.grd (by rw [or_T]; right; rfl) (T.ret ?_)
    rw [if_pos (by omega)]
end Abs
end Go.Proofs.YtamgbanmnededaaDoor

/- Lexer: Join. -/
namespace Go.Proofs.YtamgbanmnededaaDoor
namespace Abs
set_option linter.unusedVariables false
set_option linter.unusedSimpArgs false
/-- A token's text and error, by the document. -/
noncomputable def tT (t : DS0) : ByteArray := ((m28 t).getD (bs [], 0, ())).1
noncomputable def tE (t : DS0) : Int := ((m28 t).getD (bs [], 0, ())).2.1
/-- Joined after another token, a blank between them. -/
def apt (p t : DS0) : Bool := if p.1 = 4 ∧ p.2.1 = bs [40] then false else decide (t.1 ≠ 4 ∨ t.2.1 = bs [40])
theorem apt_m (p t : DS0) : m34 p t = some (apt p t, ()) := by
  refine T.eq ?_
  unfold m34 apt
  refine T.cnd (fun h => T.ret ?_) (fun h => T.ret ?_) <;> simp only [candF_T, candF_F, iEq_T, iEq_F, sEq_T, sEq_F] at h
  · rw [if_pos h]
  · rw [if_neg (by rcases h with h | h; exact fun q => h q.1; exact fun q => h q.2)]
    congr 1
    rw [Bool.eq_iff_iff, corT_T, iNe_T, sEq_T, decide_eq_true_eq]
/-- What a token that has a text is, and its text. -/
structure Txt (t : DS0) (s : ByteArray) : Prop where
  ok : TokOk t
  w : Wrt t (bytesI s)
  mark : t.1 = 4 → s = t.2.1 ∧ ∃ c, isMark c = true ∧ s = bsI [c]
  no : t.1 ≠ 4 → ∀ c, isMark c = true → s ≠ bsI [c]
theorem bsI_one {c : Int} (h : isMark c = true) : bytesI (bsI [c]) = [c] := by
  have := mark_cases h
  exact bl_bsI (fun x hx => by rw [List.mem_singleton.1 hx]; omega)
theorem isMark_no {c : Int} (h : isMark c = true) : isLet c = false ∧ isDig c = false ∧ c ≠ 45 ∧ c ≠ 64 := by
  have := mark_cases h
  unfold isLet isDig
  rw [decide_eq_false_iff_not, decide_eq_false_iff_not]
  omega
theorem mk_dec (s : ByteArray) : (∃ c, isMark c = true ∧ s = bsI [c]) ∨ ¬ ∃ c, isMark c = true ∧ s = bsI [c] := Classical.em _
theorem m45_eq (s : ByteArray) : m45 s = some (cond (cond (cond (cond (sEq s (bs [59])) true (sEq s (bs [58]))) true (sEq s (bs [44]))) true (sEq s (bs [40]))) true (sEq s (bs [41])), ()) := rfl
theorem m45_T (s : ByteArray) : (∃ c, isMark c = true ∧ s = bsI [c]) → m45 s = some (true, ()) := by
  rintro ⟨c, hc, rfl⟩
  have hm := mark_cases hc
  unfold m45
  simp only [sEq_dec]
  rcases hm with rfl | rfl | rfl | rfl | rfl <;> rfl
theorem m45_F (s : ByteArray) : (¬ ∃ c, isMark c = true ∧ s = bsI [c]) → m45 s = some (false, ()) := by
  intro h
  rw [m45_eq]
  have no : ∀ c : Int, isMark c = true → ∀ x : ByteArray, x = bsI [c] → sEq s x = false := fun c hc x hx => by
    rw [sEq_F]; intro q; exact h ⟨c, hc, by rw [q, hx]⟩
  rw [no 59 rfl (bs [59]) rfl, no 58 rfl (bs [58]) rfl, no 44 rfl (bs [44]) rfl, no 40 rfl (bs [40]) rfl, no 41 rfl (bs [41]) rfl]
  rfl
theorem mark_size {s : ByteArray} (h : s.size = 1) : s = bsI [sAt s 0] := by
  refine bl_inj ?_
  have hb := bl_byt s
  have hl := bl_len s
  match hs : bytesI s, hl with
  | [], hl => simp at hl; omega
  | [c], hl =>
    have e : sAt s 0 = c := by have := bl_at s 0; rw [hs] at this; exact this
    rw [e, bl_bsI (by rw [hs] at hb; exact hb)]
  | _ :: _ :: _, hl => simp at hl; omega
/-- Both sides write a token alike. -/
theorem wr_both (t : DS0) : (∃ s, Txt t s ∧ m33 t = some (s, 0, ()) ∧ m28 t = some (s, 0, ())) ∨ (¬ TokOk t ∧ ∃ a b e, e ≠ 0 ∧ m33 t = some (a, e, ()) ∧ m28 t = some (b, e, ())) := by
  have e0 : ∀ b : ByteArray, sEq b b = true := fun b => by rw [sEq_T]
  by_cases k1 : t.1 = 1
  · have q : m28 t = cond (iNe t.2.2.1 0) (some (bs [], 20, ())) ((m24 t.2.1).bind fun y => cond (not y.1) (some (bs [], 6, ())) (some (t.2.1, 0, ()))) := by
      unfold m28; rw [k1]; rfl
    have p : m33 t = cond (iNe t.2.2.1 0) (some (bs [], 20, ())) ((m23 t.2.1).bind fun y => cond (not y.1) (some (bs [], 6, ())) (some (t.2.1, 0, ()))) := by
      unfold m33; rw [k1]; rfl
    rw [p, q, word_allm, word_allr]
    by_cases n0 : t.2.2.1 = 0
    · rw [show iNe t.2.2.1 0 = false by rw [iNe_F]; exact n0]
      rcases hw : wordS t.2.1 with _ | _
      · refine .inr ⟨?_, bs [], bs [], 6, by decide, rfl, rfl⟩
        rintro (⟨_, h2, _⟩ | ⟨h1, _⟩ | ⟨h1, _⟩ | ⟨h1, _⟩)
        · rw [hw] at h2; cases h2
        · omega
        · omega
        · omega
      · have ok : TokOk t := .inl ⟨k1, hw, n0⟩
        refine .inl ⟨t.2.1, ⟨ok, wrt_word k1 hw n0, fun h => by omega, fun _ c hc hs => ?_⟩, rfl, rfl⟩
        have hf := word_facts hw
        have hl := hf.2.2.1
        rw [hs] at hl
        have : sAt (bsI [c]) 0 = c := by have := bl_at (bsI [c]) 0; rw [bsI_one hc] at this; exact this
        rw [this, (isMark_no hc).1] at hl; cases hl
    · rw [show iNe t.2.2.1 0 = true by rw [iNe_T]; exact n0]
      refine .inr ⟨?_, bs [], bs [], 20, by decide, rfl, rfl⟩
      rintro (⟨_, _, h3⟩ | ⟨h1, _⟩ | ⟨h1, _⟩ | ⟨h1, _⟩)
      · exact n0 h3
      · omega
      · omega
      · omega
  by_cases k2 : t.1 = 2
  · have q : m28 t = cond (not (sEq t.2.1 (bs []))) (some (bs [], 20, ())) ((m42 t.2.2.1).bind fun y => cond (not y.1) (some (bs [], 1, ())) ((m43 t.2.2.1).bind fun z => some (z.1, 0, ()))) := by
      unfold m28; rw [k2]; rfl
    have p : m33 t = cond (not (sEq t.2.1 (bs []))) (some (bs [], 20, ())) (cond (cond (iLt t.2.2.1 (-17592186044416)) true (iLt 17592186044416 t.2.2.1)) (some (bs [], 1, ())) ((mItoa t.2.2.1).bind fun y => some (y.1, 0, ()))) := by
      unfold m33; rw [k2]; rfl
    rw [p, q]
    by_cases n0 : t.2.1 = bs []
    · rw [n0, e0]
      by_cases hb : -17592186044416 ≤ t.2.2.1 ∧ t.2.2.1 ≤ 17592186044416
      · have g1 : cond (iLt t.2.2.1 (-17592186044416)) true (iLt 17592186044416 t.2.2.1) = false := by rw [corT_F, iLt_F, iLt_F]; omega
        have g2 : m42 t.2.2.1 = some (true, ()) := by
          unfold m42
          have : cond (iLe (-17592186044416) t.2.2.1) (iLe t.2.2.1 17592186044416) false = true := by rw [candF_T, iLe_T, iLe_T]; omega
          rw [this]
        have g3 : mItoa t.2.2.1 = some (itoaB t.2.2.1, ()) := by unfold mItoa; rw [if_pos (by omega)]
        have g4 := dec_m t.2.2.1 (by omega)
        rw [g1, g2, g3]
        have ok : TokOk t := .inr (.inl ⟨k2, n0, hb⟩)
        obtain ⟨⟨v, u⟩, hv, c, l, e1, e2, e3, e4, e5⟩ := dec_T t.2.2.1 hb.1 hb.2
        rw [g4] at hv
        have hv := congrArg Prod.fst (Option.some.inj hv)
        have hv : itoaB t.2.2.1 = v := hv
        refine .inl ⟨itoaB t.2.2.1, ⟨ok, ?_, fun h => by omega, fun _ d hd hs => ?_⟩, rfl, by rw [g4]; rfl⟩
        · rw [hv, e1]; exact wrt_num k2 n0 e2 e3 e4 e5
        · rw [hv] at hs
          rw [hs, bsI_one hd] at e1
          cases e1
          have := isMark_no hd
          rcases e2 with r | r
          · rw [this.2.1] at r; cases r
          · exact this.2.2.1 r
      · have g1 : cond (iLt t.2.2.1 (-17592186044416)) true (iLt 17592186044416 t.2.2.1) = true := by rw [corT_T, iLt_T, iLt_T]; omega
        have g2 : m42 t.2.2.1 = some (false, ()) := by
          unfold m42
          have : cond (iLe (-17592186044416) t.2.2.1) (iLe t.2.2.1 17592186044416) false = false := by rw [candF_F, iLe_F, iLe_F]; omega
          rw [this]
        rw [g1, g2]
        refine .inr ⟨?_, bs [], bs [], 1, by decide, rfl, rfl⟩
        rintro (⟨h1, _⟩ | ⟨_, _, h3, h4⟩ | ⟨h1, _⟩ | ⟨h1, _⟩)
        · omega
        · exact hb ⟨h3, h4⟩
        · omega
        · omega
    · rw [show sEq t.2.1 (bs []) = false by rw [sEq_F]; exact n0]
      refine .inr ⟨?_, bs [], bs [], 20, by decide, rfl, rfl⟩
      rintro (⟨h1, _⟩ | ⟨_, h2, _⟩ | ⟨h1, _⟩ | ⟨h1, _⟩)
      · omega
      · exact n0 h2
      · omega
      · omega
  by_cases k3 : t.1 = 3
  · have q : m28 t = cond (not (sEq t.2.1 (bs []))) (some (bs [], 20, ())) ((m44 t.2.2.1).bind fun y => cond (sFits (bs [64]) y.1) (some (sCat (bs [64]) y.1, y.2.1, ())) none) := by
      unfold m28; rw [k3]; rfl
    have p : m33 t = cond (not (sEq t.2.1 (bs []))) (some (bs [], 20, ())) ((m52 t.2.2.1).bind fun y => cond (iNe y.2.1 0) (some (bs [], y.2.1, ())) (cond (sFits (bs [64]) y.1) (some (sCat (bs [64]) y.1, 0, ())) none)) := by
      unfold m33; rw [k3]; rfl
    rw [p, q, fmt_eq]
    by_cases n0 : t.2.1 = bs []
    · rw [n0, e0]
      by_cases hb : 0 ≤ t.2.2.1 ∧ t.2.2.1 ≤ 876599
      · have ok : TokOk t := .inr (.inr (.inl ⟨k3, n0, hb⟩))
        obtain ⟨⟨v, e, u⟩, hv, e1, e2, e3, e4⟩ := fmt_T t.2.2.1 hb.1 hb.2
        rw [hv]
        have e1 : e = 0 := e1
        subst e1
        have f : sFits (bs [64]) v = true := sFits_t (by have : (bs [64]).size = 1 := rfl; have e4 : v.size ≤ 13 := e4; omega)
        refine .inl ⟨sCat (bs [64]) v, ⟨ok, ?_, fun h => by omega, fun _ d hd hs => ?_⟩, ?_, ?_⟩
        · rw [bl_cat]; exact wrt_hour k3 n0 e2 e3 e4
        · have := congrArg bytesI hs
          rw [bsI_one hd, bl_cat] at this
          have h64 : (64 : Int) = d := (List.cons.inj (show (64 : Int) :: bytesI v = [d] from this)).1
          exact (isMark_no hd).2.2.2 h64.symm
        · simp only [Option.bind_some, f]; rfl
        · simp only [Option.bind_some, f]; rfl
      · have g : m44 t.2.2.1 = some (bs [], 1, ()) := by
          unfold m44 m55 m63
          have : cond (iLe 0 t.2.2.1) (iLe t.2.2.1 876599) false = false := by rw [candF_F, iLe_F, iLe_F]; omega
          rw [this]; rfl
        rw [g]
        refine .inr ⟨?_, bs [], sCat (bs [64]) (bs []), 1, by decide, rfl, rfl⟩
        rintro (⟨h1, _⟩ | ⟨h1, _⟩ | ⟨_, _, h3, h4⟩ | ⟨h1, _⟩)
        · omega
        · omega
        · exact hb ⟨h3, h4⟩
        · omega
    · rw [show sEq t.2.1 (bs []) = false by rw [sEq_F]; exact n0]
      refine .inr ⟨?_, bs [], bs [], 20, by decide, rfl, rfl⟩
      rintro (⟨h1, _⟩ | ⟨h1, _⟩ | ⟨_, h2, _⟩ | ⟨h1, _⟩)
      · omega
      · omega
      · exact n0 h2
      · omega
  by_cases k4 : t.1 = 4
  · have q : m28 t = cond (iNe t.2.2.1 0) (some (bs [], 20, ())) ((m45 t.2.1).bind fun y => cond (not y.1) (some (bs [], 5, ())) (some (t.2.1, 0, ()))) := by
      unfold m28; rw [k4]; rfl
    have p : m33 t = cond (iNe t.2.2.1 0) (some (bs [], 20, ())) (cond (or (bnd 0 (sLen t.2.1)) (not (bEq (iNe (sLen t.2.1) 1) false))) (cond (iNe (sLen t.2.1) 1) (some (bs [], 5, ())) ((m50 (sAt t.2.1 0)).bind fun y => cond (not y.1) (some (bs [], 5, ())) (some (t.2.1, 0, ())))) none) := by
      unfold m33; rw [k4]; rfl
    rw [p, q]
    by_cases n0 : t.2.2.1 = 0
    · rw [show iNe t.2.2.1 0 = false by rw [iNe_F]; exact n0]
      have gd : (or (bnd 0 (sLen t.2.1)) (not (bEq (iNe (sLen t.2.1) 1) false))) = true := by
        rw [or_T, bnd_T, not_T, bEqF_F, iNe_T, sLen_eq]; omega
      rw [gd]
      rcases mk_dec t.2.1 with hm | hm
      · obtain ⟨c, hc, hs⟩ := hm
        rw [m45_T _ ⟨c, hc, hs⟩]
        have hz : t.2.1.size = 1 := by rw [← bl_len, hs, bsI_one hc]; rfl
        have h0 : sAt t.2.1 0 = c := by have := bl_at t.2.1 0; rw [hs, bsI_one hc] at this; rw [hs]; exact this
        rw [show iNe (sLen t.2.1) 1 = false by rw [iNe_F, sLen_eq, hz]; rfl, mark_m, h0, hc]
        have ok : TokOk t := .inr (.inr (.inr ⟨k4, n0, c, hc, hs⟩))
        refine .inl ⟨t.2.1, ⟨ok, ?_, fun _ => ⟨rfl, c, hc, hs⟩, fun h => absurd k4 h⟩, rfl, rfl⟩
        rw [hs, bsI_one hc]
        exact wrt_mark k4 n0 hc hs
      · rw [m45_F _ hm]
        refine .inr ⟨?_, bs [], bs [], 5, by decide, ?_, rfl⟩
        · rintro (⟨h1, _⟩ | ⟨h1, _⟩ | ⟨h1, _⟩ | ⟨_, _, h3⟩)
          · omega
          · omega
          · omega
          · exact hm h3
        · by_cases hz : t.2.1.size = 1
          · rw [show iNe (sLen t.2.1) 1 = false by rw [iNe_F, sLen_eq, hz]; rfl, mark_m]
            rcases hmk : isMark (sAt t.2.1 0) with _ | _
            · rfl
            · exact absurd ⟨_, hmk, mark_size hz⟩ hm
          · rw [show iNe (sLen t.2.1) 1 = true by rw [iNe_T, sLen_eq]; omega]; rfl
    · rw [show iNe t.2.2.1 0 = true by rw [iNe_T]; exact n0]
      refine .inr ⟨?_, bs [], bs [], 20, by decide, rfl, rfl⟩
      rintro (⟨h1, _⟩ | ⟨h1, _⟩ | ⟨h1, _⟩ | ⟨_, h2, _⟩)
      · omega
      · omega
      · omega
      · exact n0 h2
  · have f : ∀ k : Int, t.1 ≠ k → iEq t.1 k = false := fun k h => by rw [iEq_F]; exact h
    refine .inr ⟨?_, bs [], bs [], 11, by decide, ?_, ?_⟩
    · rintro (⟨h1, _⟩ | ⟨h1, _⟩ | ⟨h1, _⟩ | ⟨h1, _⟩)
      · exact k1 h1
      · exact k2 h1
      · exact k3 h1
      · exact k4 h1
    · unfold m33
      rw [f 1 k1, f 2 k2, f 3 k3, f 4 k4]; rfl
    · unfold m28
      have : cond (iLt t.1 1) true (iLt 4 t.1) = true := by rw [corT_T, iLt_T, iLt_T]; omega
      rw [this]; rfl
end Abs
end Go.Proofs.YtamgbanmnededaaDoor

/- Lexer: LexerJoin. -/
namespace Go.Proofs.YtamgbanmnededaaDoor
namespace Abs
set_option linter.unusedVariables false
set_option linter.unusedSimpArgs false
theorem good {t : DS0} (h : tE t = 0) : Txt t (tT t) ∧ m33 t = some (tT t, 0, ()) ∧ m28 t = some (tT t, 0, ()) := by
  rcases wr_both t with ⟨s, h1, h2, h3⟩ | ⟨_, a, b, e, h0, _, h3⟩
  · have e1 : tT t = s := by unfold tT; rw [h3]; rfl
    rw [e1]; exact ⟨h1, h2, h3⟩
  · have e1 : tE t = e := by unfold tE; rw [h3]; rfl
    exact absurd (e1.symm.trans h) h0
theorem bad {t : DS0} (h : tE t ≠ 0) : ∃ a b, m33 t = some (a, tE t, ()) ∧ m28 t = some (b, tE t, ()) := by
  rcases wr_both t with ⟨s, h1, h2, h3⟩ | ⟨_, a, b, e, h0, h2, h3⟩
  · have e1 : tE t = 0 := by unfold tE; rw [h3]; rfl
    exact absurd e1 h
  · have e1 : tE t = e := by unfold tE; rw [h3]; rfl
    rw [e1]; exact ⟨a, b, h2, h3⟩
theorem tE_ok {t : DS0} (h : TokOk t) : tE t = 0 := by
  rcases wr_both t with ⟨s, h1, h2, h3⟩ | ⟨h0, _⟩
  · unfold tE; rw [h3]; rfl
  · exact absurd h h0
noncomputable def JL (l : List DS0) : Nat → List Int
  | 0 => []
  | i + 1 => JL l i ++ ((if 0 < i ∧ apt (l.getD (i - 1) zTok) (l.getD i zTok) = true then [32] else []) ++ bytesI (tT (l.getD i zTok)))
noncomputable def fE : List DS0 → Int
  | [] => 0
  | t :: l => if tE t ≠ 0 then tE t else fE l
noncomputable def joinS (l : List DS0) : ByteArray × Int × Unit := if 4000 < l.length then (bs [], 4, ()) else if fE l ≠ 0 then (bs [], fE l, ()) else if 16384 < (JL l l.length).length then (bs [], 4, ()) else (bsI (JL l l.length), 0, ())
theorem fE_zero : ∀ {l : List DS0}, (∀ t ∈ l, tE t = 0) → fE l = 0
  | [], _ => rfl
  | t :: l, h => by
    show (if tE t ≠ 0 then tE t else fE l) = 0
    rw [if_neg (by rw [h t (by simp)]; simp)]
    exact fE_zero fun u hu => h u (by simp [hu])
theorem JL_len {l : List DS0} : ∀ {i : Nat}, (∀ j, j < i → tE (l.getD j zTok) = 0) → (JL l i).length ≤ 21 * i ∧ Byt (JL l i)
  | 0, _ => ⟨Nat.le_refl _, fun x hx => by cases hx⟩
  | i + 1, h => by
    obtain ⟨h1, h2⟩ := JL_len (l := l) (i := i) fun j hj => h j (by omega)
    have hw := (good (h i (by omega))).1.w.len
    constructor
    · simp only [JL, List.length_append]
      split
      · rw [List.length_singleton]; omega
      · rw [List.length_nil]; omega
    · intro x hx
      simp only [JL] at hx
      rcases List.mem_append.1 hx with q | q
      · exact h2 x q
      · rcases List.mem_append.1 q with r | r
        · split at r
          · rw [List.mem_singleton.1 r]; omega
          · cases r
        · exact bl_byt _ x r
theorem m35_eq (c : Int) (b : List Int) (h : b.length ≤ 1000000) : m35 c b = some (b ++ [c], ()) := by
  refine T.eq ?_
  unfold m35 mB53_0
  refine T.bind (T.ret ?_)
  exact T.grd (by rw [fits_T, List.length_singleton]; dsimp only; omega) (T.ret rfl)
theorem m36_eq (s : ByteArray) (b : List Int) (h : b.length ≤ 1000000) (hs : s.size ≤ 1000000) : m36 s b = some (sLen s, b ++ bytesI s, ()) := by
  refine T.eq ?_
  unfold m36 mB53_0
  refine T.bind (T.ret ?_)
  exact T.grd (by rw [fits_T, bl_len]; dsimp only; omega) (T.ret rfl)
theorem at_z (l : List DS0) (i : Nat) : atI l (i : Int) (0, ByteArray.empty, 0, 0, ()) = l.getD i zTok := by unfold atI; rw [Int.toNat_natCast]; rfl
theorem drop_z (l : List DS0) (i : Nat) (h : i < l.length) : l.drop i = l.getD i zTok :: l.drop (i + 1) := by
  rw [List.drop_eq_getElem_cons h, List.getD_eq_getElem?_getD, List.getElem?_eq_getElem h]; rfl
theorem join_m (l : List DS0) (hl : l.length ≤ 9223372036854775807) : m20 l = some (joinS l) := by
  refine T.eq ?_
  unfold m20 joinS
  have hL := lenI_eq l
  refine T.cnd (fun hc => T.ret ?_) (fun hc => ?_) <;> simp only [iLt_T, iLt_F] at hc
  · rw [if_pos (by omega)]
  rw [if_neg (by omega)]
  refine T.loop (fun q => ∃ i : Nat, i ≤ l.length ∧ fE (l.drop i) = fE l ∧ (∀ j, j < i → tE (l.getD j zTok) = 0) ∧ q = (l, l, lenI l, (i : Int), JL l i, ())) (fun q => l.length - q.2.2.2.1.toNat) ⟨0, by omega, rfl, fun j h => by omega, rfl⟩ ?_
  rintro _ ⟨i, hi, hf, hg, rfl⟩
  dsimp only
  obtain ⟨hJ, _⟩ := JL_len hg
  refine T.cnd (fun h1 => ?_) (fun h1 => ?_) <;> simp only [iLt_T, iLt_F] at h1
  · have hlt : i < l.length := by omega
    refine T.grd (by rw [bnd_T]; omega) ?_
    rw [at_z]
    rw [drop_z l i hlt] at hf
    have hf : (if tE (l.getD i zTok) ≠ 0 then tE (l.getD i zTok) else fE (l.drop (i + 1))) = fE l := hf
    have ew : ((l.getD i zTok).1, (l.getD i zTok).2.1, (l.getD i zTok).2.2.1, (l.getD i zTok).2.2.2.1, ()) = l.getD i zTok := rfl
    rw [ew]
    by_cases he : tE (l.getD i zTok) = 0
    · rw [if_neg (by rw [he]; simp)] at hf
      obtain ⟨tx, e1, e2⟩ := good he
      have hw := tx.w.len
      rw [bl_len] at hw
      refine T.callE e1 ?_
      refine T.cf (by rw [iNe_F]) ?_
      refine T.grd (by
        rw [or_T, not_T, bEqT_F, iLt_F, bnd_T]
        by_cases q : 0 < i
        · left; rw [iSub64 (by omega) (by omega)]; omega
        · right; omega) ?_
      have nx : ∀ b : List Int, b = JL l (i + 1) → T (some (Sum.inl (β := ByteArray × Int × Unit) (l, l, lenI l, iAdd .i64 (i : Int) 1, b, ()))) (LQ (fun q => ∃ i : Nat, i ≤ l.length ∧ fE (l.drop i) = fE l ∧ (∀ j, j < i → tE (l.getD j zTok) = 0) ∧ q = (l, l, lenI l, (i : Int), JL l i, ())) (fun q => l.length - q.2.2.2.1.toNat) (l.length - ((i : Int)).toNat) (fun x => x = if fE l ≠ 0 then (bs [], fE l, ()) else if 16384 < (JL l l.length).length then (bs [], 4, ()) else (bsI (JL l l.length), 0, ()))) := by
        rintro b rfl
        refine T.go ⟨i + 1, by omega, hf, fun j hj => ?_, ?_⟩ ?_
        · rcases Nat.lt_or_ge j i with q | q
          · exact hg j q
          · obtain rfl : j = i := by omega
            exact he
        · rw [iAdd64 (by omega) (by omega)]; rfl
        · dsimp only; rw [iAdd64 (by omega) (by omega)]; omega
      refine T.cnd (fun h2 => ?_) (fun h2 => ?_) <;> simp only [iLt_T, iLt_F] at h2
      · rw [iSub64 (by omega) (by omega), show (i : Int) - 1 = ((i - 1 : Nat) : Int) by omega, at_z]
        refine T.callE (apt_m _ _) ?_
        dsimp only
        refine T.cnd (fun h3 => ?_) (fun h3 => ?_)
        · refine T.callE (m35_eq _ _ (by omega)) ?_
          refine T.callE (m36_eq _ _ (by rw [List.length_append, List.length_singleton]; omega) (by omega)) ?_
          refine nx _ ?_
          simp only [JL]
          rw [if_pos ⟨by omega, h3⟩, List.append_assoc]
        · refine T.callE (m36_eq _ _ (by omega) (by omega)) ?_
          refine nx _ ?_
          simp only [JL]
          rw [if_neg (by rintro ⟨_, q⟩; rw [h3] at q; cases q)]; rfl
      · refine T.callE (m36_eq _ _ (by omega) (by dsimp only; omega)) ?_
        refine nx _ ?_
        simp only [JL]
        rw [if_neg (by rintro ⟨q, _⟩; omega)]; rfl
    · rw [if_pos he] at hf
      obtain ⟨a, b, e1, e2⟩ := bad he
      refine T.callE e1 ?_
      refine T.ct (by rw [iNe_T]; exact he) (T.out ?_)
      rw [← hf, if_pos he]
  · obtain rfl : i = l.length := by omega
    rw [List.drop_length] at hf
    have hf : (0 : Int) = fE l := hf
    rw [if_neg (by rw [← hf]; simp)]
    refine T.mapL ?_
    unfold m37
    refine T.bind (T.ret ?_)
    refine T.cnd (fun h2 => T.ret ?_) (fun h2 => ?_) <;> simp only [iLt_T, iLt_F, lenI_eq] at h2
    · rw [if_pos (by omega)]
    · rw [if_neg (by omega)]
      unfold mB38_0
      exact T.bind (T.ret (T.ret rfl))
theorem eq40 {t : DS0} {s : ByteArray} (h : Txt t s) : (s = bs [40]) ↔ (t.1 = 4 ∧ t.2.1 = bs [40]) := by
  constructor
  · intro q
    by_cases k : t.1 = 4
    · exact ⟨k, by rw [← (h.mark k).1, q]⟩
    · exact absurd (show s = bsI [40] from q) (h.no k 40 rfl)
  · rintro ⟨k, q⟩; rw [(h.mark k).1, q]
theorem eqmk {t : DS0} {s : ByteArray} (h : Txt t s) : (¬ s = bs [59] ∧ ¬ s = bs [58] ∧ ¬ s = bs [44] ∧ ¬ s = bs [41]) ↔ (t.1 ≠ 4 ∨ t.2.1 = bs [40]) := by
  constructor
  · rintro ⟨h1, h2, h3, h4⟩
    by_cases k : t.1 = 4
    · right
      obtain ⟨e, c, hc, hs⟩ := h.mark k
      rcases mark_cases hc with rfl | rfl | rfl | rfl | rfl
      · exact absurd hs h1
      · exact absurd hs h2
      · exact absurd hs h3
      · rw [← e]; exact hs
      · exact absurd hs h4
    · exact .inl k
  · rintro (k | q)
    · exact ⟨h.no k 59 rfl, h.no k 58 rfl, h.no k 44 rfl, h.no k 41 rfl⟩
    · by_cases k : t.1 = 4
      · rw [(h.mark k).1, q]
        have ne : ∀ a b : Int, a ≠ b → 0 ≤ a ∧ a ≤ 255 → 0 ≤ b ∧ b ≤ 255 → bsI [a] ≠ bsI [b] := fun a b hn ha hb e => by
          have := congrArg bytesI e
          rw [bl_bsI (fun x hx => by rw [List.mem_singleton.1 hx]; exact ha), bl_bsI (fun x hx => by rw [List.mem_singleton.1 hx]; exact hb)] at this
          exact hn (List.cons.inj this).1
        exact ⟨ne 40 59 (by decide) (by decide) (by decide), ne 40 58 (by decide) (by decide) (by decide), ne 40 44 (by decide) (by decide) (by decide), ne 40 41 (by decide) (by decide) (by decide)⟩
      · exact ⟨h.no k 59 rfl, h.no k 58 rfl, h.no k 44 rfl, h.no k 41 rfl⟩
theorem join_r (l : List DS0) (hl : l.length ≤ 9223372036854775807) : m17 l = some (joinS l) := by
  refine T.eq ?_
  unfold m17 joinS
  have hL := lenI_eq l
  refine T.cnd (fun hc => T.ret ?_) (fun hc => ?_) <;> simp only [iLt_T, iLt_F] at hc
  · rw [if_pos (by omega)]
  rw [if_neg (by omega)]
  refine T.loop (fun q => ∃ (i : Nat) (out : ByteArray) (gl : Bool), i ≤ l.length ∧ fE (l.drop i) = fE l ∧ (∀ j, j < i → tE (l.getD j zTok) = 0) ∧ bytesI out = JL l i ∧ (gl = true ↔ (i = 0 ∨ tT (l.getD (i - 1) zTok) = bs [40])) ∧ q = (l, out, gl, (i : Int), ())) (fun q => l.length - q.2.2.2.1.toNat) ⟨0, bs [], true, by omega, rfl, fun j h => by omega, rfl, by simp, rfl⟩ ?_
  rintro _ ⟨i, out, gl, hi, hf, hg, ho, hgl, rfl⟩
  dsimp only
  obtain ⟨hJ, _⟩ := JL_len hg
  have hos : out.size ≤ 21 * i := by rw [← bl_len, ho]; exact hJ
  refine T.cnd (fun h1 => ?_) (fun h1 => ?_) <;> simp only [iLt_T, iLt_F] at h1
  · have hlt : i < l.length := by omega
    refine T.grd (by rw [bnd_T]; omega) ?_
    rw [at_z]
    rw [drop_z l i hlt] at hf
    have hf : (if tE (l.getD i zTok) ≠ 0 then tE (l.getD i zTok) else fE (l.drop (i + 1))) = fE l := hf
    by_cases he : tE (l.getD i zTok) = 0
    · rw [if_neg (by rw [he]; simp)] at hf
      obtain ⟨tx, e1, e2⟩ := good he
      have hw := tx.w.len
      rw [bl_len] at hw
      refine T.callE e2 ?_
      refine T.cf (by rw [iNe_F]) ?_
      have s32 : (bs [32]).size = 1 := rfl
      have hgl2 : (sEq (tT (l.getD i zTok)) (bs [40]) = true) ↔ (i + 1 = 0 ∨ tT (l.getD (i + 1 - 1) zTok) = bs [40]) := by
        rw [sEq_T, Nat.add_sub_cancel]
        exact ⟨.inr, fun q => q.elim (fun q => by omega) id⟩
      have hg2 : ∀ j, j < i + 1 → tE (l.getD j zTok) = 0 := fun j hj => by
        rcases Nat.lt_or_ge j i with q | q
        · exact hg j q
        · obtain rfl : j = i := by omega
          exact he
      have cnd_iff : (cond (cond (cond (cond (not gl) (not (sEq (tT (l.getD i zTok)) (bs [59]))) false) (not (sEq (tT (l.getD i zTok)) (bs [58]))) false) (not (sEq (tT (l.getD i zTok)) (bs [44]))) false) (not (sEq (tT (l.getD i zTok)) (bs [41]))) false = true) ↔ (0 < i ∧ apt (l.getD (i - 1) zTok) (l.getD i zTok) = true) := by
        simp only [candF_T, not_T, sEq_F]
        have hmk := eqmk tx
        have hnot : (gl = false) ↔ ¬ (i = 0 ∨ tT (l.getD (i - 1) zTok) = bs [40]) := by
          rw [← hgl]; simp
        constructor
        · rintro ⟨⟨⟨⟨q0, q1⟩, q2⟩, q3⟩, q4⟩
          have q0 := hnot.1 q0
          have h0 : 0 < i := Nat.pos_of_ne_zero fun q => q0 (.inl q)
          refine ⟨h0, ?_⟩
          have hp := (good (hg (i - 1) (by omega))).1
          unfold apt
          rw [if_neg (fun q => q0 (.inr ((eq40 hp).2 q))), decide_eq_true_eq]
          exact hmk.1 ⟨q1, q2, q3, q4⟩
        · rintro ⟨h0, ha⟩
          have hp := (good (hg (i - 1) (by omega))).1
          unfold apt at ha
          by_cases q : (l.getD (i - 1) zTok).1 = 4 ∧ (l.getD (i - 1) zTok).2.1 = bs [40]
          · rw [if_pos q] at ha; cases ha
          · rw [if_neg q, decide_eq_true_eq] at ha
            obtain ⟨q1, q2, q3, q4⟩ := hmk.2 ha
            refine ⟨⟨⟨⟨hnot.2 ?_, q1⟩, q2⟩, q3⟩, q4⟩
            rintro (r | r)
            · omega
            · exact q ((eq40 hp).1 r)
      refine T.cnd (fun h2 => ?_) (fun h2 => ?_)
      · have h3 := cnd_iff.1 h2
        refine T.grd (sFits_t (by omega)) (T.grd (sFits_t (by rw [cat_size]; dsimp only; omega)) (T.go ⟨i + 1, sCat (sCat out (bs [32])) (tT (l.getD i zTok)), sEq (tT (l.getD i zTok)) (bs [40]), by omega, hf, hg2, ?_, hgl2, ?_⟩ ?_))
        · rw [bl_cat, bl_cat, ho]
          simp only [JL]
          rw [if_pos h3, List.append_assoc]; rfl
        · rw [iAdd64 (by omega) (by omega)]; rfl
        · dsimp only; rw [iAdd64 (by omega) (by omega)]; omega
      · have h3 : ¬ (0 < i ∧ apt (l.getD (i - 1) zTok) (l.getD i zTok) = true) := fun q => by rw [cnd_iff.2 q] at h2; cases h2
        refine T.grd (sFits_t (by dsimp only; omega)) (T.go ⟨i + 1, sCat out (tT (l.getD i zTok)), sEq (tT (l.getD i zTok)) (bs [40]), by omega, hf, hg2, ?_, hgl2, ?_⟩ ?_)
        · rw [bl_cat, ho]
          simp only [JL]
          rw [if_neg h3]; rfl
        · rw [iAdd64 (by omega) (by omega)]; rfl
        · dsimp only; rw [iAdd64 (by omega) (by omega)]; omega
    · rw [if_pos he] at hf
      obtain ⟨a, b, e1, e2⟩ := bad he
      refine T.callE e2 ?_
      refine T.ct (by rw [iNe_T]; exact he) (T.out ?_)
      rw [← hf, if_pos he]
  · obtain rfl : i = l.length := by omega
    rw [List.drop_length] at hf
    have hf : (0 : Int) = fE l := hf
    rw [if_neg (by rw [← hf]; simp), ← ho, bl_len]
    refine T.mapL ?_
    refine T.cnd (fun h2 => T.ret ?_) (fun h2 => T.ret ?_) <;> simp only [iLt_T, iLt_F, sLen_eq] at h2
    · rw [if_pos (by omega)]
    · rw [if_neg (by omega), bsI_bl]
theorem within_T (x n : Int) (hx : -9223372036854775808 ≤ x ∧ x ≤ 9223372036854775807) (h0 : 0 < n) (hn : n ≤ 4611686018427387904) : T (m21 x n) (fun v => 0 ≤ v.1 ∧ v.1 < n) := by
  unfold m21
  refine T.grd (by rw [iNe_T]; omega) (T.grd (by rw [iNe_T]; omega) (T.ret ?_))
  dsimp only
  have h1 : -n < iRem x n ∧ iRem x n < n := by
    unfold iRem
    have a := Int.tmod_lt_of_pos x h0
    have b := Int.lt_tmod_of_pos x h0
    exact ⟨b, a⟩
  rw [iAdd64 (by omega) (by omega), rem_pos (by omega)]
  exact ⟨Int.emod_nonneg _ (by omega), Int.emod_lt_of_pos _ h0⟩
theorem m16_one (L : List Int) : m16_1 L = m16 L := rfl
theorem law_join (l : List DS0) (L : List Int) (at_ : Int) (x : DS0) (hd : DeckOk L 0) (ha : -9223372036854775808 ≤ at_ ∧ at_ ≤ 9223372036854775807) : m6 l L at_ x = some (true, ()) := by
  refine T.eq ?_
  unfold m6
  rw [awake_ok]
  have hL := lenI_eq l
  refine T.cnd (fun hc => T.bind (T.ret (T.ret rfl))) (fun hc => ?_)
  rw [iLt_F] at hc
  have e0 : ∀ b : ByteArray, sEq b b = true := fun b => by rw [sEq_T]
  have e1 : ∀ b : Int, iEq b b = true := fun b => by rw [iEq_T]
  have e2 : ∀ b : Int, iNe b b = false := fun b => by rw [iNe_F]
  refine T.callE (join_m l (by omega)) (T.callE (join_r l (by omega)) ?_)
  rw [m16_one]
  refine T.call (tokens_T hd) (fun y ⟨y1, y2⟩ => ?_)
  refine T.callE (join_m y.1 (by omega)) (T.callE (join_r y.1 (by omega)) ?_)
  refine T.cf (by rw [e0, e0, e2, e2]; rfl) ?_
  refine T.grd (by rw [fits_T, List.length_singleton]; omega) ?_
  have hz : (y.1 ++ ([(4, bs [59], 0, 0, ())] : List DS0)).length = y.1.length + 1 := by rw [List.length_append, List.length_singleton]
  generalize y.1 ++ ([(4, bs [59], 0, 0, ())] : List DS0) = m at hz
  have hM := lenI_eq m
  refine T.call (within_T at_ (lenI m) ha (by omega) (by omega)) (fun v ⟨w1, w2⟩ => ?_)
  refine T.grd (by rw [bnd_T]; omega) (T.grd (by rw [inB_T]; omega) ?_)
  have hs : ∀ u : DS0, (m.set v.1.toNat u).length = m.length := fun u => List.length_set
  refine T.callE (join_m _ (by rw [hs]; omega)) (T.callE (join_r _ (by rw [hs]; omega)) ?_)
  refine T.ct (by rw [e0, e1]; rfl) ?_
  exact T.bind (T.ret (T.ret rfl))
end Abs
end Go.Proofs.YtamgbanmnededaaDoor

/- Lexer: what is scanned can be joined; joined tokens are scanned as they were. -/
namespace Go.Proofs.YtamgbanmnededaaDoor
namespace Abs
set_option linter.unusedVariables false
set_option linter.unusedSimpArgs false
theorem hour58_R (d : DS2) (h : Int) : T (m58 d h) (fun v => v.2.1 = 0 → 0 ≤ v.1 ∧ v.1 ≤ 876599) := by
  obtain ⟨y, m, dd, _⟩ := d
  by_cases k : 2000 ≤ y ∧ y ≤ 2099 ∧ 1 ≤ m ∧ m ≤ 12 ∧ 1 ≤ dd ∧ dd ≤ Cal.len y m ∧ 0 ≤ h ∧ h ≤ 23
  · have e := Cal.hv_good k
    have e2 : m58 (y, m, dd, ()) h = some (Cal.hv y m dd h, Cal.he y m dd h, ()) := hour_m k
    rw [e2, e.1, e.2]
    obtain ⟨k1, k2, k3, k4, k5, k6, k7, k8⟩ := k
    refine T.ret fun _ => ?_
    dsimp only
    have h1 := Cal.cumY_eq (y - 2000).toNat
    have h2 := Cal.year_bd k3 k4 k5 k6
    have h3 : Cal.yl y = 365 ∨ (Cal.yl y = 366 ∧ y % 4 = 0) := by
      unfold Cal.yl
      by_cases q : y % 4 = 0
      · right; rw [if_pos q]; exact ⟨rfl, q⟩
      · left; rw [if_neg q]
    omega
  · unfold m58
    dsimp only
    refine T.cnd (fun _ => T.ret fun q => by cases q) (fun hc => ?_)
    simp only [corT_F, iLt_F] at hc
    refine T.callE (len_m y m (by omega) ⟨by omega, by omega⟩) ?_
    refine T.cnd (fun _ => T.ret fun q => by cases q) (fun hc1 => ?_)
    refine T.cnd (fun _ => T.ret fun q => by cases q) (fun hc2 => ?_)
    simp only [corT_F, iLt_F, iLe_F] at hc1 hc2
    exact absurd ⟨by omega, by omega, by omega, by omega, by omega, by omega, by omega, by omega⟩ k
theorem parse_R (s : ByteArray) : T (m49 s) (fun v => v.2.1 = 0 → (0 ≤ v.1 ∧ v.1 ≤ 876599) ∧ 10 ≤ s.size) := by
  unfold m49
  have hl := sLen_eq s
  refine T.cnd (fun _ => T.ret fun q => by cases q) (fun hc => ?_)
  simp only [candF_F, iNe_F] at hc
  refine T.loop (fun q => q.1 = s ∧ q.2.1 = sLen s ∧ 0 ≤ q.2.2.1) (fun q => (sLen s - q.2.2.1).toNat) ⟨rfl, rfl, by simp⟩ (fun q ⟨e1, e2, k0⟩ => ?_)
  rw [e1, e2]
  refine T.cnd (fun hc1 => ?_) (fun hc1 => ?_) <;> simp only [iLt_T, iLt_F] at hc1
  · refine T.grd (by rw [bnd_T]; omega) ?_
    refine T.call (fits_T' _ _) (fun _ _ => ?_)
    refine T.cnd (fun _ => T.out fun q => by cases q) (fun _ => T.go ⟨rfl, rfl, ?_⟩ ?_)
    · dsimp only; rw [iAdd64 (by omega) (by omega)]; omega
    · dsimp only; rw [iAdd64 (by omega) (by omega)]; omega
  · refine T.mapL ?_
    have c1 : (cutS 0 4 s).size = 4 := by have := cut_size 0 4 s (by omega) (by omega); exact this
    have c2 : (cutS 5 7 s).size = 2 := by have := cut_size 5 7 s (by omega) (by omega); exact this
    have c3 : (cutS 8 10 s).size = 2 := by have := cut_size 8 10 s (by omega) (by omega); exact this
    refine T.cnd (fun hc2 => ?_) (fun hc2 => ?_)
    · simp only [iEq_T] at hc2
      have c4 : (cutS 11 ((ByteArray.size s : Nat) : Int) s).size = s.size - 11 := by have := cut_size 11 s.size s (Nat.le_refl _) (by omega); exact this
      refine T.grd (cutOk_t (by omega) (by omega) (by omega)) ?_
      refine T.call (sub_T _ (by omega)) (fun _ _ => ?_)
      refine T.grd (cutOk_t (by omega) (by omega) (by omega)) ?_
      refine T.call (sub_T _ (by omega)) (fun _ _ => ?_)
      refine T.grd (cutOk_t (by omega) (by omega) (by omega)) ?_
      refine T.call (sub_T _ (by omega)) (fun _ _ => ?_)
      refine T.grd (cutOk_t (by omega) (by omega) (by omega)) ?_
      refine T.call (sub_T _ (by omega)) (fun _ _ => ?_)
      exact T.call (hour58_R _ _) (fun v hv => T.ret fun q => ⟨hv q, by omega⟩)
    · refine T.grd (cutOk_t (by omega) (by omega) (by omega)) ?_
      refine T.call (sub_T _ (by omega)) (fun _ _ => ?_)
      refine T.grd (cutOk_t (by omega) (by omega) (by omega)) ?_
      refine T.call (sub_T _ (by omega)) (fun _ _ => ?_)
      refine T.grd (cutOk_t (by omega) (by omega) (by omega)) ?_
      refine T.call (sub_T _ (by omega)) (fun _ _ => ?_)
      exact T.call (hour58_R _ _) (fun v hv => T.ret fun q => ⟨hv q, by omega⟩)
theorem hour_R {s : ByteArray} (h : (hourS s).2.1 = 0) : (0 ≤ (hourS s).1 ∧ (hourS s).1 ≤ 876599) ∧ 10 ≤ s.size := by
  obtain ⟨v, h1, h2⟩ := parse_R s
  rw [parse_m] at h1
  obtain rfl : hourS s = v := Option.some.inj h1
  exact h2 h
theorem numL_eq : ∀ (ds : List Int) (a v : Int), AllD ds → 0 ≤ a → numL ds a = some v → v = a * 10 ^ ds.length + val ds ∧ (v ≤ 17592186044416 ∨ ds = [])
  | [], a, v, _, _, h => by
    have h : some a = some v := h
    cases h
    exact ⟨by simp [val], .inr rfl⟩
  | c :: ds, a, v, hd, ha, h => by
    unfold numL at h
    split at h
    · cases h
    · rename_i hc
      have hb := dig_bd (hd c (by simp))
      have := numL_eq ds _ v (fun x hx => hd x (by simp [hx])) (by omega) h
      refine ⟨?_, .inl ?_⟩
      · rw [this.1, val_cons, List.length_cons, Int.pow_succ, Int.add_mul, ← Int.add_assoc]
        congr 2
        rw [Int.mul_assoc, Int.mul_comm 10]
      · rcases this.2 with q | q
        · exact q
        · subst q
          have e := this.1
          simp [val] at e
          omega
theorem decB_fit {ds : List Int} (hd : AllD ds) (h0 : ds ≠ []) : (decB (val ds).toNat).length ≤ ds.length := by
  have hv := val_bd ds hd
  match ds, h0, hd, hv with
  | c :: ds, _, hd, hv =>
    rw [List.length_cons] at hv ⊢
    refine decB_le ds.length _ ?_
    have : ((10 ^ (ds.length + 1) : Nat) : Int) = (10 : Int) ^ (ds.length + 1) := by simp
    omega
theorem m28_at (a : Int) (b : ByteArray) (c d e : Int) : m28 (a, b, c, d, ()) = m28 (a, b, c, e, ()) := rfl
theorem tT_strip {t u : DS0} (h : strip t = strip u) : tT t = tT u ∧ tE t = tE u := by
  obtain ⟨a, b, c, d, _⟩ := t
  obtain ⟨a', b', c', d', _⟩ := u
  unfold strip at h
  dsimp only at h
  cases h
  exact ⟨rfl, rfl⟩
theorem apt_strip {t u t' u' : DS0} (h : strip t = strip u) (h' : strip t' = strip u') : apt t t' = apt u u' := by
  obtain ⟨a, b, c, d, _⟩ := t
  obtain ⟨e, f, g, i, _⟩ := u
  obtain ⟨j, k, l, m, _⟩ := t'
  obtain ⟨n, o, p, q, _⟩ := u'
  unfold strip at h h'
  dsimp only at h h'
  cases h
  cases h'
  rfl
/-- The texts of tokens that were scanned. -/
theorem tT_word {t : DS0} (h1 : t.1 = 1) (h2 : wordS t.2.1 = true) (h3 : t.2.2.1 = 0) : tT t = t.2.1 := by
  have hf := word_facts h2
  unfold tT m28
  rw [h1, h3, word_r _ (by omega), h2]; rfl
theorem tT_num {t : DS0} (h1 : t.1 = 2) (h2 : t.2.1 = bs []) (h3 : -17592186044416 ≤ t.2.2.1) (h4 : t.2.2.1 ≤ 17592186044416) : tT t = itoaB t.2.2.1 := by
  have hk : ∃ v, m28 t = some v ∧ v.1 = itoaB t.2.2.1 := by
    show T (m28 t) fun v => v.1 = itoaB t.2.2.1
    unfold m28
    rw [h1, show sEq t.2.1 (bs []) = true by rw [sEq_T]; exact h2]
    refine T.cf rfl (T.cf rfl (T.cf rfl (T.cf rfl (T.ct rfl ?_))))
    unfold m42
    refine T.bind (T.ret (T.cf (by simp only [not_F, candF_T, iLe_T]; omega) ?_))
    refine T.callE (dec_m t.2.2.1 (by omega)) (T.ret rfl)
  obtain ⟨v, e1, e2⟩ := hk
  unfold tT
  rw [e1]; exact e2
theorem tok_out {r : List Int} {i : Int} (hb : Byt r) (h : (tokL r i).2.2 = 0) : TokOk (tokL r i).1 ∧ (tT (tokL r i).1).size + 1 ≤ 2 * (tokL r i).2.1 := by
  unfold tokL at h ⊢
  dsimp only at h ⊢
  split at h
  · rename_i h1
    rw [if_pos h1]
    split at h
    · rename_i h2
      rw [if_pos h2]
      have ok : TokOk (1, bsI (r.takeWhile isWrd), 0, i, ()) := .inl ⟨rfl, h2, rfl⟩
      refine ⟨ok, ?_⟩
      dsimp only
      rw [tT_word rfl h2 rfl]
      have hf := word_facts h2
      dsimp only
      have := bsI_size (r.takeWhile isWrd)
      omega
    · cases h
  · rename_i h1
    rw [if_neg h1]
    split at h
    · rename_i h2
      rw [if_pos h2]
      split at h
      · rename_i h3; exact absurd h h3
      · rename_i h3
        rw [if_neg h3]
        have h3 : (numberL (r.getD 0 0 :: (r.drop 1).takeWhile isDig)).2 = 0 := by simpa using h3
        have hD : AllD ((r.drop 1).takeWhile isDig) := fun x hx => tw_mem x hx
        generalize hds : (r.drop 1).takeWhile isDig = ds at h3 hD
        generalize r.getD 0 0 = c at h2 h3
        have key : ∃ n : Int, (numberL (c :: ds)).1 = n ∧ -17592186044416 ≤ n ∧ n ≤ 17592186044416 ∧ (itoaB n).size ≤ 1 + ds.length := by
          refine ⟨_, rfl, ?_⟩
          unfold numberL at h3 ⊢
          dsimp only at h3 ⊢
          have e0 : (c :: ds).getD 0 0 = c := rfl
          have e1 : (c :: ds).drop 1 = ds := rfl
          rw [e0, e1] at h3 ⊢
          by_cases q : c = 45
          · simp only [if_pos q] at h3 ⊢
            split at h3
            · cases h3
            rename_i n1
            split at h3
            · cases h3
            rename_i n2
            rw [if_neg n1, if_neg n2]
            match hn : numL ds 0, h3 with
            | some v, _ =>
              have := numL_eq ds 0 v hD (by omega) hn
              have hv := val_bd ds hD
              have ev : v = val ds := by rw [this.1]; simp
              have hle : v ≤ 17592186044416 := this.2.resolve_right n1
              refine ⟨by dsimp only; omega, by dsimp only; omega, ?_⟩
              dsimp only
              rw [← bl_len, itoa_bl]
              have hf := decB_fit hD n1
              split
              · rw [List.length_cons]
                have : (-v).natAbs = (val ds).toNat := by omega
                rw [this]; omega
              · have : (-v).toNat = 0 := by omega
                rw [this, decB_lo (by omega)]; simp
          · have hcd : isDig c = true := h2.resolve_right q
            have hDD : AllD (c :: ds) := fun x hx => by
              rcases List.mem_cons.1 hx with rfl | hx
              · exact hcd
              · exact hD x hx
            simp only [if_neg q] at h3 ⊢
            split at h3
            · cases h3
            rename_i n1
            split at h3
            · cases h3
            rename_i n2
            rw [if_neg n1, if_neg n2]
            match hn : numL (c :: ds) 0, h3 with
            | some v, _ =>
              have := numL_eq (c :: ds) 0 v hDD (by omega) hn
              have hv := val_bd (c :: ds) hDD
              have ev : v = val (c :: ds) := by rw [this.1]; simp
              have hle : v ≤ 17592186044416 := this.2.resolve_right n1
              refine ⟨by dsimp only; omega, by dsimp only; omega, ?_⟩
              dsimp only
              rw [← bl_len, itoa_bl, if_neg (by omega)]
              have hf := decB_fit hDD n1
              rw [List.length_cons] at hf
              rw [ev]; omega
        obtain ⟨n, e, n1, n2, n3⟩ := key
        rw [e]
        refine ⟨.inr (.inl ⟨rfl, rfl, n1, n2⟩), ?_⟩
        rw [tT_num rfl rfl n1 n2]
        dsimp only
        omega
    · rename_i h2
      rw [if_neg h2]
      split at h
      · rename_i h3
        rw [if_pos h3]
        split at h
        · rename_i h4; exact absurd h h4
        · rename_i h4
          rw [if_neg h4]
          have h4 : (hourS (bsI ((r.drop 1).takeWhile isHr))).2.1 = 0 := by simpa using h4
          have hh := hour_R h4
          have ok : TokOk (3, bs [], (hourS (bsI ((r.drop 1).takeWhile isHr))).1, i, ()) := .inr (.inr (.inl ⟨rfl, rfl, hh.1.1, hh.1.2⟩))
          refine ⟨ok, ?_⟩
          have hs := bsI_size ((r.drop 1).takeWhile isHr)
          have e : tT (3, bs [], (hourS (bsI ((r.drop 1).takeWhile isHr))).1, i, ()) = tT (3, bs [], (hourS (bsI ((r.drop 1).takeWhile isHr))).1, i, ()) := rfl
          have hw := (good (tE_ok ok)).1.w.len
          rw [bl_len] at hw
          dsimp only
          omega
      · rename_i h3
        rw [if_neg h3]
        split at h
        · rename_i h4
          rw [if_pos h4]
          have ok : TokOk (4, bsI [r.getD 0 0], 0, i, ()) := .inr (.inr (.inr ⟨rfl, rfl, _, h4, rfl⟩))
          refine ⟨ok, ?_⟩
          have hm := (good (tE_ok ok)).1.mark rfl
          rw [hm.1]
          have := bsI_size [r.getD 0 0]
          dsimp only
          rw [this]; simp
        · cases h
/-- The weight of tokens. -/
noncomputable def wgt (l : List DS0) : Nat := (l.map fun t => (tT t).size + 1).sum
theorem wgt_app (l : List DS0) (t : DS0) : wgt (l ++ [t]) = wgt l + ((tT t).size + 1) := by unfold wgt; simp
theorem scan_out : ∀ (n i : Nat) (toks : List DS0) (r : List Int), Byt r → (∀ t ∈ toks, TokOk t) → wgt toks ≤ 2 * i → toks.length ≤ 4000 → (scanL n i toks r).2.2.1 = 0 → (∀ t ∈ (scanL n i toks r).1, TokOk t) ∧ wgt (scanL n i toks r).1 ≤ 2 * (i + r.length) ∧ (scanL n i toks r).1.length ≤ 4000
  | 0, i, toks, r, _, h1, h2, h3, _ => ⟨h1, by show wgt toks ≤ _; omega, h3⟩
  | n + 1, i, toks, [], _, h1, h2, h3, _ => ⟨h1, by show wgt toks ≤ _; omega, h3⟩
  | n + 1, i, toks, c :: r, hb, h1, h2, h3, h => by
    simp only [scanL] at h ⊢
    have hb' : Byt r := fun x hx => hb x (by simp [hx])
    by_cases c1 : c = 32 ∨ c = 10
    · rw [if_pos c1] at h ⊢
      have := scan_out n (i + 1) toks r hb' h1 (by omega) h3 h
      exact ⟨this.1, by rw [List.length_cons]; omega, this.2.2⟩
    rw [if_neg c1] at h ⊢
    by_cases c2 : c = 35
    · rw [if_pos c2] at h ⊢
      have hle := tw_le isLine (c :: r)
      have := scan_out n _ toks _ (byt_drop hb _) h1 (by omega) h3 h
      refine ⟨this.1, ?_, this.2.2⟩
      have h5 := this.2.1
      rw [List.length_drop] at h5
      omega
    rw [if_neg c2] at h ⊢
    have hp := tok_pos (c :: r) (i : Int)
    have ho := tok_out (r := c :: r) (i := (i : Int)) hb
    generalize tokL (c :: r) (i : Int) = tk at hp ho h ⊢
    by_cases c3 : tk.2.2 ≠ 0
    · rw [if_pos c3] at h; exact absurd h c3
    rw [if_neg c3] at h ⊢
    have c3 : tk.2.2 = 0 := by simpa using c3
    have hp := hp c3
    have ho := ho c3
    by_cases c4 : toks.length = 4000
    · rw [if_pos c4] at h; cases h
    rw [if_neg c4] at h ⊢
    split at h
    · cases h
    · rename_i c5
      rw [if_neg c5]
      have hp2 := hp.2 (by simp)
      have := scan_out n (i + tk.2.1) (toks ++ [tk.1]) ((c :: r).drop tk.2.1) (byt_drop hb _) (fun t ht => by
        rcases List.mem_append.1 ht with q | q
        · exact h1 t q
        · rw [List.mem_singleton.1 q]; exact ho.1) (by rw [wgt_app]; omega) (by rw [List.length_append, List.length_singleton]; omega) h
      refine ⟨this.1, ?_, this.2.2⟩
      have h5 := this.2.1
      rw [List.length_drop] at h5
      omega
end Abs
end Go.Proofs.YtamgbanmnededaaDoor

/- Lexer: LexerBack, LexerOnce. -/
namespace Go.Proofs.YtamgbanmnededaaDoor
namespace Abs
set_option linter.unusedVariables false
set_option linter.unusedSimpArgs false
theorem scanF_mark {c : Int} (h : isMark c = true) (i : Nat) (toks : List DS0) (ht : toks.length < 4000) (r : List Int) : scanF i toks (c :: r) = scanF (i + 1) (toks ++ [(4, bsI [c], 0, (i : Int), ())]) r := by
  unfold scanF
  rw [List.length_cons, scan_mark h _ _ _ ht]
theorem joined_scan {l : List DS0} (ok : ∀ t ∈ l, TokOk t) (hl : l.length ≤ 4000) : ∀ i : Nat, i ≤ l.length → ∃ tk : List DS0, tk.length = i ∧ (l.take i).map strip = tk.map strip ∧ ∀ r, (i = 0 ∨ (l.getD (i - 1) zTok).1 = 4 ∨ Stop r) → scanF 0 [] (JL l i ++ r) = scanF (JL l i).length tk r
  | 0, _ => ⟨[], rfl, rfl, fun r _ => rfl⟩
  | i + 1, hi => by
    obtain ⟨tk, k1, k2, k3⟩ := joined_scan ok hl i (by omega)
    have hm : l.getD i zTok = l[i] := by rw [List.getD_eq_getElem?_getD, List.getElem?_eq_getElem (by omega)]; rfl
    have hok : TokOk (l.getD i zTok) := by rw [hm]; exact ok _ (List.getElem_mem _)
    have tx := (good (tE_ok hok)).1
    generalize ht : l.getD i zTok = t at hok tx
    refine ⟨tk ++ [(t.1, t.2.1, t.2.2.1, (((JL l i).length + (if 0 < i ∧ apt (l.getD (i - 1) zTok) t = true then [32] else ([] : List Int)).length : Nat) : Int), ())], by rw [List.length_append, k1, List.length_singleton], ?_, ?_⟩
    · rw [List.take_succ_eq_append_getElem (by omega), List.map_append, List.map_append, k2, ← hm, ht]; rfl
    · intro r hr
      rw [Nat.add_sub_cancel, ht] at hr
      have e : JL l (i + 1) = JL l i ++ ((if 0 < i ∧ apt (l.getD (i - 1) zTok) t = true then [32] else ([] : List Int)) ++ bytesI (tT t)) := by rw [← ht]; rfl
      rw [e]
      generalize hsp : (if 0 < i ∧ apt (l.getD (i - 1) zTok) t = true then [32] else ([] : List Int)) = sp
      have hcond : i = 0 ∨ (l.getD (i - 1) zTok).1 = 4 ∨ Stop (sp ++ bytesI (tT t) ++ r) := by
        by_cases i0 : i = 0
        · exact .inl i0
        by_cases ha : apt (l.getD (i - 1) zTok) t = true
        · rw [if_pos ⟨by omega, ha⟩] at hsp
          subst hsp
          exact .inr (.inr (stop32 _))
        · rw [if_neg (fun q => ha q.2)] at hsp
          subst hsp
          unfold apt at ha
          by_cases hp : (l.getD (i - 1) zTok).1 = 4 ∧ (l.getD (i - 1) zTok).2.1 = bs [40]
          · exact .inr (.inl hp.1)
          · rw [if_neg hp, decide_eq_true_eq] at ha
            have h4 : t.1 = 4 := by
              by_cases q : t.1 = 4
              · exact q
              · exact absurd (.inl q) ha
            obtain ⟨_, c, hc, hs⟩ := tx.mark h4
            have hn := isMark_no hc
            have hcs := mark_cases hc
            refine .inr (.inr ?_)
            rw [hs, bsI_one hc]
            refine stop_cons ⟨?_, ?_⟩
            · unfold isWrd; rw [hn.1, hn.2.1]; simp; exact hn.2.2.1
            · unfold isHr; rw [hn.2.1]; simp; omega
      have h1 := k3 (sp ++ bytesI (tT t) ++ r) hcond
      have hsp2 : ∀ (j : Nat) (x : List Int), scanF j tk (sp ++ x) = scanF (j + sp.length) tk x := by
        intro j x
        rw [← hsp]
        split
        · exact scanF_sp (.inl rfl) _ _ _
        · rfl
      rw [List.append_assoc, h1, List.append_assoc, hsp2]
      have hlen : (JL l i ++ (sp ++ bytesI (tT t))).length = (JL l i).length + sp.length + (bytesI (tT t)).length := by simp only [List.length_append]; omega
      rw [hlen]
      by_cases h4 : t.1 = 4
      · obtain ⟨e2, c, hc, hs⟩ := tx.mark h4
        have h0 : t.2.2.1 = 0 := by
          rcases hok with q | q | q | q
          · omega
          · omega
          · omega
          · exact q.2.1
        rw [hs, bsI_one hc, List.singleton_append, scanF_mark hc _ _ (by omega), List.length_singleton, h4, h0, ← e2, hs]
      · have hst : Stop r := by
          rcases hr with q | q | q
          · omega
          · exact absurd q h4
          · exact q
        exact scanF_tok tx.w _ _ _ hst (by omega)
theorem JL_w {l : List DS0} : ∀ {i : Nat}, i ≤ l.length → (JL l i).length ≤ wgt (l.take i)
  | 0, _ => Nat.zero_le _
  | i + 1, h => by
    have ih := JL_w (l := l) (i := i) (by omega)
    have hm : l.getD i zTok = l[i] := by rw [List.getD_eq_getElem?_getD, List.getElem?_eq_getElem (by omega)]; rfl
    rw [List.take_succ_eq_append_getElem (by omega), wgt_app]
    simp only [JL, List.length_append]
    rw [hm, bl_len]
    split
    · rw [List.length_singleton]; omega
    · rw [List.length_nil]; omega
theorem JL_strip {l m : List DS0} (h : l.map strip = m.map strip) : ∀ i : Nat, i ≤ l.length → JL l i = JL m i
  | 0, _ => rfl
  | i + 1, hi => by
    have hlen : l.length = m.length := by have := congrArg List.length h; simpa using this
    have at_ : ∀ j : Nat, j < l.length → strip (l.getD j zTok) = strip (m.getD j zTok) := by
      intro j hj
      have := congrArg (fun q => q[j]?) h
      simp only [List.getElem?_map] at this
      rw [List.getD_eq_getElem?_getD, List.getD_eq_getElem?_getD]
      rw [List.getElem?_eq_getElem hj, List.getElem?_eq_getElem (show j < m.length by omega)] at this ⊢
      simpa using this
    simp only [JL]
    rw [JL_strip h i (by omega), (tT_strip (at_ i (by omega))).1]
    congr 2
    by_cases h0 : 0 < i
    · rw [apt_strip (at_ (i - 1) (by omega)) (at_ i (by omega))]
    · rw [if_neg (fun q => h0 q.1), if_neg (fun q => h0 q.1)]
/-- Tokens that have texts, joined and scanned. -/
theorem join_scan {l : List DS0} (ok : ∀ t ∈ l, TokOk t) (hl : l.length ≤ 4000) (hz : (JL l l.length).length ≤ 16384) : joinS l = (bsI (JL l l.length), 0, ()) ∧ ∃ tk, scanS (bsI (JL l l.length)) = (tk, 0, 0, ()) ∧ l.map strip = tk.map strip := by
  have hf := fE_zero (l := l) fun t ht => tE_ok (ok t ht)
  constructor
  · unfold joinS
    rw [if_neg (by omega), if_neg (by rw [hf]; simp), if_neg (by omega)]
  · obtain ⟨tk, k1, k2, k3⟩ := joined_scan ok hl l.length (Nat.le_refl _)
    refine ⟨tk, ?_, by rw [← k2, List.take_length]⟩
    have hb := (JL_len (l := l) (i := l.length) fun j hj => tE_ok (ok _ (by rw [List.getD_eq_getElem?_getD, List.getElem?_eq_getElem hj]; exact List.getElem_mem _))).2
    have := k3 [] (.inr (.inr Stop.nil))
    rw [List.append_nil] at this
    unfold scanS
    rw [if_neg (by rw [bsI_size]; omega), bl_bsI hb, scanF_fuel (by rw [bsI_size]; omega), this, scanF_nil]
theorem law_back (L : List Int) (hd : DeckOk L 0) : m7 L = some (true, ()) := by
  refine T.eq ?_
  unfold m7
  refine T.call (tokens_T hd) (fun y ⟨y1, y2⟩ => ?_)
  have hjl := (JL_len (l := y.1) (i := y.1.length) fun j hj => tE_ok (y2 _ (by rw [List.getD_eq_getElem?_getD, List.getElem?_eq_getElem hj]; exact List.getElem_mem _))).1
  obtain ⟨e1, tk, e2, e3⟩ := join_scan y2 (by omega) (by omega)
  refine T.callE (join_m y.1 (by omega)) ?_
  rw [e1]
  refine T.callE (scan_m _ (by dsimp only; rw [bsI_size]; omega)) ?_
  dsimp only
  rw [e2]
  refine T.cf rfl (T.ct rfl ?_)
  refine T.callE (same_m y.1 tk e3 (by omega)) (T.ct rfl ?_)
  rw [awake_ok]; exact T.ret rfl
theorem once_tail (s : ByteArray) (hs : s.size ≤ 4000) : T ((m18 s).bind fun y349 =>
 cond (iNe y349.2.2.1 0)
 ((m9).bind fun y350 =>
 some (y350.1, ()))
 ((m20 y349.1).bind fun y351 =>
 (m18 y351.1).bind fun y352 =>
 (m20 y352.1).bind fun y353 =>
 cond (cond (cond (cond (cond (iEq y351.2.1 0) (iEq y352.2.2.1 0) false) (iEq y353.2.1 0) false) (sEq y351.1 y353.1) false) (iEq (lenI y349.1) (lenI y352.1)) false)
 ((m9).bind fun y354 =>
 some (y354.1, ()))
 (some (false, ())))) (fun v => v = (true, ())) := by
  refine T.callE (scan_m s (by omega)) ?_
  refine T.cnd (fun _ => by rw [awake_ok]; exact T.ret rfl) (fun hc => ?_)
  rw [iNe_F] at hc
  have hso : (∀ t ∈ (scanS s).1, TokOk t) ∧ wgt (scanS s).1 ≤ 2 * s.size ∧ (scanS s).1.length ≤ 4000 := by
    unfold scanS at hc ⊢
    rw [if_neg (by omega)] at hc ⊢
    have := scan_out s.size 0 [] (bytesI s) (bl_byt s) (fun t h => by cases h) (Nat.le_refl _) (Nat.zero_le _) hc
    rw [bl_len, Nat.zero_add] at this
    exact this
  generalize (scanS s).1 = l at hso
  obtain ⟨h1, h2, h3⟩ := hso
  have hw := JL_w (l := l) (Nat.le_refl _)
  rw [List.take_length] at hw
  obtain ⟨e1, tk, e2, e3⟩ := join_scan h1 h3 (by omega)
  have hlen : l.length = tk.length := by have := congrArg List.length e3; simpa using this
  refine T.callE (join_m l (by omega)) ?_
  rw [e1]
  refine T.callE (scan_m _ (by dsimp only; rw [bsI_size]; omega)) ?_
  dsimp only
  rw [e2]
  dsimp only
  refine T.callE (join_m tk (by omega)) ?_
  have hJ := JL_strip e3 l.length (Nat.le_refl _)
  have htk : joinS tk = (bsI (JL l l.length), 0, ()) := by
    have hf : fE tk = 0 := fE_zero fun t ht => by
      obtain ⟨j, hj, rfl⟩ := List.getElem_of_mem ht
      have q := congrArg (fun q => q[j]?) e3
      simp only [List.getElem?_map] at q
      rw [List.getElem?_eq_getElem hj, List.getElem?_eq_getElem (show j < l.length by omega)] at q
      have q : strip l[j] = strip tk[j] := by simpa using q
      rw [← (tT_strip q).2]
      exact tE_ok (h1 _ (List.getElem_mem _))
    unfold joinS
    rw [if_neg (by omega), if_neg (by rw [hf]; simp), ← hlen, ← hJ, if_neg (by omega)]
  rw [htk]
  have s1 : sEq (bsI (JL l l.length)) (bsI (JL l l.length)) = true := by rw [sEq_T]
  have s2 : iEq (lenI l) (lenI tk) = true := by rw [iEq_T, lenI_eq, lenI_eq, hlen]
  refine T.ct ?_ (by rw [awake_ok]; exact T.ret rfl)
  dsimp only
  rw [s1, s2]; rfl
theorem law_once (s : ByteArray) (L H : List Int) (hd : DeckOk L 0) (hH : ∀ x ∈ H, 0 ≤ x ∧ x ≤ 255) : m8 s L H = some (true, ()) := by
  refine T.eq ?_
  unfold m8
  refine T.cnd (fun _ => by rw [awake_ok]; exact T.ret rfl) (fun hc => ?_)
  rw [iLt_F, sLen_eq] at hc
  refine T.cnd (fun _ => ?_) (fun _ => once_tail s (by omega))
  refine T.call (tokens_T hd) (fun y ⟨y1, y2⟩ => ?_)
  refine T.callE (join_r y.1 (by omega)) ?_
  have hjl := (JL_len (l := y.1) (i := y.1.length) fun j hj => tE_ok (y2 _ (by rw [List.getD_eq_getElem?_getD, List.getElem?_eq_getElem hj]; exact List.getElem_mem _))).1
  have hz : (joinS y.1).1.size ≤ 700 := by
    unfold joinS
    rw [if_neg (by omega)]
    have hf := fE_zero (l := y.1) fun t ht => tE_ok (y2 t ht)
    rw [if_neg (by rw [hf]; simp), if_neg (by omega)]
    dsimp only
    rw [bsI_size]; omega
  generalize (joinS y.1).1 = s0 at hz
  refine T.loop (fun q => ∃ (t : ByteArray) (i : Nat), i ≤ 20 ∧ t.size ≤ 700 + i ∧ q = (t, H, (i : Int), ())) (fun q => 20 - q.2.2.1.toNat) ⟨s0, 0, by omega, by omega, rfl⟩ ?_
  rintro _ ⟨t, i, hi, ht, rfl⟩
  dsimp only
  refine T.cnd (fun h1 => ?_) (fun h1 => T.mapL (once_tail t (by omega)))
  rw [candF_T, iLt_T, iLt_T, lenI_eq] at h1
  refine T.grd (by rw [bnd_T, lenI_eq]; omega) ?_
  have hx := hH (atI H (i : Int) 0) (by unfold atI; rw [Int.toNat_natCast, List.getD_eq_getElem?_getD, List.getElem?_eq_getElem (show i < H.length by omega)]; exact List.getElem_mem _)
  generalize atI H (i : Int) 0 = x at hx
  rw [wrap64_T (by omega) (by omega), iMul64 (by omega) (by omega), sLen_eq, iAdd64 (by omega) (by omega)]
  refine T.call (within_T (x * 7) ((t.size : Int) + 1) (by omega) (by omega) (by omega)) (fun v ⟨v1, v2⟩ => ?_)
  obtain ⟨k, hk⟩ : ∃ k : Nat, v.1 = (k : Int) := ⟨v.1.toNat, by omega⟩
  rw [hk] at v1 v2 ⊢
  have hb1 : (bs [32]).size = 1 := rfl
  have c1 : (cutS 0 (k : Int) t).size = k := by have := cut_size 0 k t (by omega) (by omega); rw [Nat.sub_zero] at this; exact this
  have c2 : (cutS (k : Int) ((ByteArray.size t : Nat) : Int) t).size = t.size - k := cut_size k t.size t (Nat.le_refl _) (by omega)
  refine T.grd (cutOk_t (by omega) (by omega) (by omega)) ?_
  refine T.grd (sFits_t (by omega)) ?_
  refine T.grd (cutOk_t (by omega) (by omega) (by omega)) ?_
  refine T.grd (sFits_t (by rw [cat_size]; omega)) ?_
  refine T.go ⟨_, i + 1, by omega, ?_, by rw [iAdd64 (by omega) (by omega)]; rfl⟩ ?_
  · simp only [cat_size]; omega
  · dsimp only; rw [iAdd64 (by omega) (by omega)]; omega
end Abs
end Go.Proofs.YtamgbanmnededaaDoor
