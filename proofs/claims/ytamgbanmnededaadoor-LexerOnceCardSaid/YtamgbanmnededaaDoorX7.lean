/- The typed machine: a step of it is a step of the abstract machine (the steps). -/
import Derived.Test.YtamgbanmnededaaDoorX6
namespace Go.Proofs.YtamgbanmnededaaDoor
namespace Abs
open Go.RowKit
set_option linter.unusedVariables false
set_option linter.unusedSimpArgs false

def StepOk (Gl : Nat → Option (List AV)) (ρ : List Nat) (h : List XO) (σ : St) (rd : Opd → XV) (i : I) (v : XV) (kl : List Nat) (h' : List XO) : Prop :=
  ∃ q a H' ρ' tch, step Gl σ i = some (q, a, H') ∧ q ∧ Upd ρ h σ.h ρ' (killH kl h') H' kl tch ∧ VT ρ' (killH kl h') v a ∧ ∀ ok : Nat → Bool, leaves ok rd i = true → ∀ id ∈ tch, ok id = true
section
variable {ρ : List Nat} {h : List XO} {H : List AObj} {σ : St} {Gl : Nat → Option (List AV)} {rd : Opd → XV} {tt : Nat → Option Ty}
theorem StepOk.pure (hs : HS ρ h σ.h) {i : I} {v : XV} {q : Prop} {a : AV} (h1 : step Gl σ i = some (q, a, σ.h)) (h2 : q) (h3 : VT ρ h v a) : StepOk Gl ρ h σ rd i v [] h :=
  ⟨q, a, σ.h, ρ, [], h1, h2, Upd.same hs, h3, fun _ _ _ q => by simp at q⟩

theorem ok_fldX {off sz : Nat} {ag : Bool} {x v : XV} {a : AV} (hx : fldX off sz ag x = some v) (hv : VT ρ h x a) : ∃ cs, a = .agg cs ∧ if ag = true then off + sz ≤ cs.length ∧ VT ρ h v (.agg ((cs.drop off).take sz)) else ∃ c, cs[off]? = some c ∧ VT ρ h v c := by
  unfold fldX at hx
  split at hx
  · rename_i fs y
    obtain ⟨cs, rfl, hc⟩ := Wp.agg_inv hv
    have hc : All2 Wp cs (Ty.enc (.tup fs) y).cells := hc
    obtain ⟨T', x', rfl, hq⟩ := at_spec _ _ _ _ _ _ hx
    refine ⟨cs, rfl, ?_⟩
    cases ag with
    | true =>
      simp only [if_true] at hq ⊢
      refine ⟨by rw [hc.1]; exact hq.1, ?_⟩
      have := (hc.drop off).take sz
      show Wp _ _
      rw [hq.2]
      exact .agg _ _ this.1 this.2
    | false =>
      simp only [Bool.false_eq_true, if_false] at hq ⊢
      obtain ⟨c, h1, h2⟩ := hc.get_right hq
      exact ⟨c, h1, h2⟩
  · rename_i cs'
    obtain ⟨cs, rfl, hc⟩ := hv
    refine ⟨cs, rfl, ?_⟩
    cases ag with
    | true =>
      simp only [if_true] at hx ⊢
      split at hx
      · rename_i hl
        cases hx
        have := Nat.le_of_ble_eq_true hl
        exact ⟨by rw [← hc.1]; exact this, _, rfl, (hc.drop off).take sz⟩
      · cases hx
    | false =>
      simp only [Bool.false_eq_true, if_false] at hx ⊢
      obtain ⟨c, h1, h2⟩ := hc.get_left hx
      exact ⟨c, h1, VT.of1 h2⟩
  · cases hx

theorem bnd_iff {n m : Int} (h : bnd n m = true) : 0 ≤ n ∧ n < m := by
  simpa [bnd] using h

theorem ok_load_cells {T : Ty} {x : T.den} {o sz : Nat} {ag : Bool} {v : XV} {cs : List AV} (hx : atT T x o sz ag = some v) (hc : All2 Wp cs (Ty.enc T x).cells) : if ag = true then o + sz ≤ cs.length ∧ VT ρ h v (.agg ((cs.drop o).take sz)) else ∃ c, cs[o]? = some c ∧ VT ρ h v c := by
  obtain ⟨T', x', rfl, hq⟩ := at_spec _ _ _ _ _ _ hx
  cases ag with
  | true =>
    simp only [if_true] at hq ⊢
    refine ⟨by rw [hc.1]; exact hq.1, ?_⟩
    have := (hc.drop o).take sz
    show Wp _ _
    rw [hq.2]
    exact .agg _ _ this.1 this.2
  | false =>
    simp only [Bool.false_eq_true, if_false] at hq ⊢
    obtain ⟨c, h1, h2⟩ := hc.get_right hq
    exact ⟨c, h1, h2⟩
theorem getD_map_enc {T : Ty} (es : List T.den) {i : Nat} (hi : i < es.length) (u : AV) : (es.map (Ty.enc T)).getD i u = Ty.enc T (es.getD i T.dflt) := by
  simp [List.getD, List.getElem?_eq_getElem hi]

theorem ok_iaddr_row (hs : HS ρ h σ.h) {sz id ty off : Nat} {T : Ty} {fz : Bool} {es : List T.den} {x i : Opd} {k : IntKind} {n : Int} {len : Nat} (he : h[id]? = some (.row ty T fz es)) (hz : T.size = sz)
    (hx : σ.val Gl x = .row (ρ.getD id 0) es.length T.size off len) (hi : σ.val Gl i = .v (.int k n)) (hb : 0 ≤ n ∧ n < len) : StepOk Gl ρ h σ rd (.iaddr sz x i) (.ptr id (off + n.toNat) 0) [] h := by
  refine StepOk.pure hs (q := 0 ≤ n ∧ n < len) (a := .ptr (ρ.getD id 0) es.length (off + n.toNat) 0) ?_ hb ⟨_, he, rfl⟩
  simp only [step, hx, hi, hz, if_true]

theorem set_ok {T : Ty} {es : List T.den} {O : List AV} {i o : Nat} {z : T.den} {U : Ty} {y : U.den} {a : AV} (hO : All2 Wp O (es.map (Ty.enc T))) (hi : i < es.length) (hw : Wp a (Ty.enc U y)) (hz : setT y T (es.getD i T.dflt) o = some z) : o + U.size ≤ T.size ∧ All2 Wp (O.set i (setCells (O.getD i .any) o a.cells)) ((es.set i z).map (Ty.enc T)) := by
  obtain ⟨s1, s2, s3⟩ := set_spec y T _ o z hz
  refine ⟨s1, ?_⟩
  rw [List.map_set]
  refine hO.set ?_ i
  have he : Wp (O.getD i .any) (Ty.enc T (es.getD i T.dflt)) := by
    have := hO.getD (n := i) (by simpa using hi) .any .any
    rw [getD_map_enc es hi] at this; exact this
  have hc := hw.cells
  have hlen : a.cells.length = U.size := by rw [hc.1, enc_cells]
  rcases enc_agg (x := z) with ⟨ht, cs, hcs⟩ | ⟨ht, hp⟩
  · cases T with
    | tup fs =>
      obtain ⟨us, hu, hus⟩ := Wp.agg_inv (show Wp (O.getD i .any) (.agg (Ty.encL fs (es.getD i (Ty.dflt (.tup fs))))) from he)
      rw [hu]
      have s2 : Ty.encL fs z = (Ty.encL fs (es.getD i (Ty.dflt (.tup fs)))).take o ++ (Ty.enc U y).cells ++ (Ty.encL fs (es.getD i (Ty.dflt (.tup fs)))).drop (o + U.size) := s2
      show Wp (.agg (us.take o ++ a.cells ++ us.drop (o + a.cells.length))) (.agg (Ty.encL fs z))
      rw [s2, hlen]
      have := ((hus.take o).append hc).append (hus.drop (o + U.size))
      exact .agg _ _ this.1 this.2
    | _ => cases ht
  · obtain ⟨rfl, hu1⟩ := s3 ht
    have hna : ∀ us, O.getD i .any ≠ .agg us := fun us q => by
      rw [q] at he
      rcases enc_agg (x := es.getD i T.dflt) with ⟨q', _⟩ | ⟨_, q'⟩
      · rw [ht] at q'; cases q'
      · rcases q'.of_wp he with ⟨_, q', _⟩ | ⟨_, _, q'⟩ <;> cases q'
    have hsc : setCells (O.getD i .any) 0 a.cells = a.cells.headD .any := by
      cases hg : O.getD i .any <;> first | rfl | exact absurd hg (hna _)
    rw [hsc]
    have hz1 : (Ty.enc T z).cells = [Ty.enc T z] := hp.cells
    have ht1 : T.size = 1 := by rw [← enc_cells T z, hz1]; rfl
    rw [hz1, List.take_zero, List.nil_append, List.drop_eq_nil_of_le (by rw [enc_cells]; omega), List.append_nil] at s2
    rw [← s2] at hc
    obtain ⟨c, r, e1, e2, e3⟩ := hc.cons_right
    rw [e1]; exact e2
theorem whole_ok {T : Ty} {es : List T.den} {O : List AV} {i : Nat} {z : T.den} {a : AV} (hO : All2 Wp O (es.map (Ty.enc T))) (hi : i < es.length) (hw : Wp a (Ty.enc T z)) : All2 Wp (O.set i (setCells (O.getD i .any) 0 a.cells)) ((es.set i z).map (Ty.enc T)) := by
  rw [List.map_set]
  refine hO.set ?_ i
  have he : Wp (O.getD i .any) (Ty.enc T (es.getD i T.dflt)) := by
    have := hO.getD (n := i) (by simpa using hi) .any .any
    rw [getD_map_enc es hi] at this; exact this
  have hl1 : (O.getD i .any).cells.length = T.size := by rw [he.cells.1, enc_cells]
  have hl2 : a.cells.length = T.size := by rw [hw.cells.1, enc_cells]
  rcases enc_agg (x := z) with ⟨ht, cs, hcs⟩ | ⟨ht, hp⟩
  · cases T with
    | tup fs =>
      obtain ⟨us, hu, hus⟩ := Wp.agg_inv (show Wp (O.getD i .any) (.agg (Ty.encL fs (es.getD i (Ty.dflt (.tup fs))))) from he)
      obtain ⟨as, rfl, has⟩ := Wp.agg_inv (show Wp a (.agg (Ty.encL fs z)) from hw)
      rw [hu] at hl1 ⊢
      simp only [AV.cells] at hl1 hl2
      have : setCells (.agg us) 0 (AV.agg as).cells = .agg as := by
        simp only [setCells, AV.cells, List.take_zero, List.nil_append, Nat.zero_add, List.drop_eq_nil_of_le (show us.length ≤ as.length by omega), List.append_nil]
      rw [this]; exact hw
    | _ => cases ht
  · have hna : ∀ us, O.getD i .any ≠ .agg us := fun us q => by
      rw [q] at he
      rcases enc_agg (x := es.getD i T.dflt) with ⟨q', _⟩ | ⟨_, q'⟩
      · rw [ht] at q'; cases q'
      · rcases q'.of_wp he with ⟨_, q', _⟩ | ⟨_, _, q'⟩ <;> cases q'
    have hsc : setCells (O.getD i .any) 0 a.cells = a.cells.headD .any := by
      cases hg : O.getD i .any <;> first | rfl | exact absurd hg (hna _)
    rw [hsc, (hp.of_wp hw).cells]; exact hw

theorem elemsX_k {T : Ty} {v : Value} {ys : List T.den} (hx : elemsX0 h T (.k v) = some ys) : v = .slice none 0 0 ∧ ys = [] := by
  cases v with
  | slice ad n c =>
    cases ad with
    | some _ => cases hx
    | none =>
      cases n with
      | succ n => cases hx
      | zero =>
        cases c with
        | succ c => cases hx
        | zero => exact ⟨rfl, (Option.some.inj hx).symm⟩
  | _ => cases hx
theorem elems_ok0 (hs : HS ρ h σ.h) {T : Ty} {x : XV} {ys : List T.den} {a : AV} {sz : Nat} (hz : T.size = sz) (hx : elemsX0 h T x = some ys) (hv : VT ρ h x a) : ∃ as, elemsOf σ.h sz a = some as ∧ All2 Wp as (ys.map (Ty.enc T)) := by
  subst hz
  cases x with
  | d T' y =>
    have hx : castT (b := .list T) y = some ys := hx
    obtain ⟨q, rfl⟩ := castT_eq hx
    cases q
    rcases Wp.list_inv hv with ⟨rfl, hn⟩ | ⟨as, rfl, hc⟩
    · exact ⟨[], rfl, by
        show All2 Wp [] (List.map (Ty.enc T) y)
        rw [hn]; exact .nil⟩
    · exact ⟨as, by simp [elemsOf], hc⟩
  | k v =>
    obtain ⟨rfl, rfl⟩ := elemsX_k hx
    have hv : a = .v (.slice none 0 0) := hv
    subst hv
    exact ⟨[], rfl, .nil⟩
  | row id =>
    obtain ⟨ty, T', fz, es, he, rfl⟩ := hv
    have hx : castT (a := .list T') (b := .list T) es = some ys := by rw [← hx]; show _ = (match h[id]? with | some (.row _ T' _ es) => castT (a := .list T') (b := .list T) es | _ => none); rw [he]
    obtain ⟨q, rfl⟩ := castT_eq hx
    cases q
    obtain ⟨O, hO, o1, o2, o3, o4, o5⟩ := hs.hr _ _ he
    have hlen : O.es.length = es.length := by have := o5.1; simpa using this
    refine ⟨(O.es.drop 0).take es.length, by simp only [elemsOf, hO, hlen, o2, o3, and_self, if_true], ?_⟩
    rw [List.drop_zero, List.take_of_length_le (by omega)]
    exact o5
  | sub id off len =>
    obtain ⟨ty, T', fz, es, he, rfl⟩ := hv
    have hx : castT (a := .list T') (b := .list T) ((List.drop off es).take len) = some ys := by rw [← hx]; show _ = (match h[id]? with | some (.row _ T' _ es) => castT (a := .list T') (b := .list T) ((List.drop off es).take len) | _ => none); rw [he]
    obtain ⟨q, rfl⟩ := castT_eq hx
    cases q
    obtain ⟨O, hO, o1, o2, o3, o4, o5⟩ := hs.hr _ _ he
    have hlen : O.es.length = es.length := by have := o5.1; simpa using this
    refine ⟨(O.es.drop off).take len, by simp only [elemsOf, hO, hlen, o2, o3, and_self, if_true], ?_⟩
    show All2 Wp _ (List.map (Ty.enc _) _)
    rw [List.map_take, List.map_drop]
    exact (o5.drop _).take _
  | _ => cases hx
theorem elems_ok (hs : HS ρ h σ.h) {T : Ty} {x : XV} {ys : List T.den} {a : AV} {sz : Nat} (hz : T.size = sz) (hx : elemsX h T x = some ys) (hv : VT ρ h x a) : ∃ as, elemsOf σ.h sz a = some as ∧ All2 Wp as (ys.map (Ty.enc T)) := elems_ok0 hs hz hx (lst_vt hv)
theorem toDs_ok (hs : HS ρ h H) {T : Ty} : ∀ {xs : List XV} {ys : List T.den} {as : List AV}, toDs h T xs = some ys → All2 (VT ρ h) xs as → ∃ bs, keepAL H as = some bs ∧ All2 Wp bs (ys.map (Ty.enc T)) ∧ as.flatMap rowsA = (xs.flatMap rowsX).map (fun id => ρ.getD id 0) ∧ ∀ id ∈ xs.flatMap rowsX, isRow h id := by
  intro xs
  induction xs with
  | nil =>
    intro ys as hx hv
    cases hx
    have := hv.nil_left
    subst this
    exact ⟨[], rfl, .nil, rfl, by simp⟩
  | cons x xs ih =>
    intro ys as hx hv
    simp only [toDs] at hx
    split at hx
    · rename_i z l hz hl
      cases hx
      obtain ⟨a, as', rfl, hv1, hv2⟩ := hv.cons_left
      have hnt : ∀ vs, x ≠ .tup vs := fun vs q => by
        subst q
        cases T <;> simp [toD, lst] at hz
      obtain ⟨b, k1, k2, k3, k4⟩ := toD_keep hs hz (hv1.notup hnt)
      obtain ⟨bs, i1, i2, i3, i4⟩ := ih hl hv2
      refine ⟨b :: bs, by simp only [keepAL, k1, i1], .cons k2 i2, by simp [k3, i3], fun id hid => ?_⟩
      simp only [List.flatMap_cons, List.mem_append] at hid
      rcases hid with q | q
      · exact k4 id q
      · exact i4 id q
    · cases hx
theorem map_vt {xs : List Opd} (hrd : ∀ o, VT ρ h (rd o) (σ.val Gl o)) : All2 (VT ρ h) (xs.map rd) (xs.map (σ.val Gl)) :=
  ⟨by simp, fun i x a p q => by
    rw [List.getElem?_map] at p q
    cases ho : xs[i]? with
    | none => rw [ho] at p; cases p
    | some o => rw [ho] at p q; cases p; cases q; exact hrd o⟩
theorem lens_ok {T : Ty} {bs : List AV} {ys : List T.den} {sz : Nat} (hz : T.size = sz) (hc : All2 Wp bs (ys.map (Ty.enc T))) : bs.all (fun y => y.cells.length == sz) = true := by
  refine List.all_eq_true.2 fun b hb => ?_
  obtain ⟨i, hi⟩ := List.mem_iff_getElem?.1 hb
  obtain ⟨e, he, hw⟩ := hc.get_left hi
  rw [List.getElem?_map] at he
  cases hy : ys[i]? with
  | none => rw [hy] at he; cases he
  | some y => rw [hy] at he; cases he; rw [hw.cells.1, enc_cells, hz]; simp
end
end Abs
end Go.Proofs.YtamgbanmnededaaDoor
