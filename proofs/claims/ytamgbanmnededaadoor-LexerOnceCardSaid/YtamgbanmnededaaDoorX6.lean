/- The typed machine: a step of it is a step of the abstract machine. -/
import Derived.Test.YtamgbanmnededaaDoorX5
namespace Go.Proofs.YtamgbanmnededaaDoor
namespace Abs
open Go.RowKit
set_option linter.unusedVariables false
set_option linter.unusedSimpArgs false

section
variable {ρ : List Nat} {h : List XO} {H : List AObj} {σ : St} {Gl : Nat → Option (List AV)} {rd : Opd → XV} {tt : Nat → Option Ty}
theorem vt_int {k : IntKind} {n : Int} {a : AV} (hv : VT ρ h (.d (.int k) n) a) : a = .v (.int k n) := Wp.v_inv hv
theorem vt_bool {b : Bool} {a : AV} (hv : VT ρ h (.d .bool b) a) : a = .v (.bool b) := Wp.v_inv hv
theorem vt_str {s : ByteArray} {a : AV} (hv : VT ρ h (.d .str s) a) : a = .v (.string s) := Wp.v_inv hv
theorem vt_fnc {f : FuncId} {u : Unit} {a : AV} (hv : VT ρ h (.d (.fnc f) u) a) : a = .v (.func (.func f) #[] #[]) := Wp.v_inv hv
theorem vt_k {v : Value} {a : AV} (hv : VT ρ h (.k v) a) : a = .v v := hv
theorem VT.notup {x : XV} {a : AV} (hv : VT ρ h x a) (hx : ∀ vs, x ≠ .tup vs) : VA ρ h x a := by
  cases x <;> first | exact hv | exact absurd rfl (hx _)
theorem VT.noagg {x : XV} {a : AV} (hv : VT ρ h x a) (hx : ∀ vs, x ≠ .tup vs) (hy : ∀ vs, x ≠ .agg vs) : V1 ρ h x a := by
  cases x <;> first | exact hv | exact absurd rfl (hx _) | exact absurd rfl (hy _)
theorem vt_d {T : Ty} {x : T.den} {a : AV} (hw : Wp a (Ty.enc T x)) : VT ρ h (.d T x) a := hw

theorem iLe_le {a b : Int} (h : iLe a b = true) : a ≤ b := of_decide_eq_true h
theorem xbinI_ok {k : IntKind} {a b : Int} {op : BinOp} {p : Bool} {v : XV} (hx : xbinI k a b op = some (p, v)) (hp : p = true) : ∃ q r, binV op (.int k a) (.int k b) = some (q, r) ∧ q ∧ VT ρ h v (.v r) := by
  subst hp
  cases op <;> simp only [xbinI, Option.some.injEq, Prod.mk.injEq, reduceCtorEq] at hx
  all_goals first
    | (exact hx.elim; done)
    | (obtain ⟨hp, rfl⟩ := hx
       refine ⟨_, _, by simp only [binV, if_true]; rfl, ?_, Wp.refl _⟩
       first | trivial | (simp [iNe] at hp; exact hp))
theorem xbinS_ok {a b : ByteArray} {op : BinOp} {p : Bool} {v : XV} (hx : xbinS a b op = some (p, v)) (hp : p = true) : ∃ q r, binV op (.string a) (.string b) = some (q, r) ∧ q ∧ VT ρ h v (.v r) := by
  subst hp
  cases op <;> simp only [xbinS, Option.some.injEq, Prod.mk.injEq, reduceCtorEq] at hx
  all_goals first
    | (exact hx.elim; done)
    | (obtain ⟨hp, rfl⟩ := hx
       refine ⟨_, _, by simp only [binV]; rfl, ?_, Wp.refl _⟩
       first | trivial | (exact of_decide_eq_true hp))
theorem xbin_ok {op : BinOp} {x y v : XV} {p : Bool} {a b : AV} (hx : xbin op x y = some (p, v)) (hp : p = true) (ha : VT ρ h x a) (hb : VT ρ h y b) : ∃ va vb q r, a = .v va ∧ b = .v vb ∧ binV op va vb = some (q, r) ∧ q ∧ VT ρ h v (.v r) := by
  unfold xbin at hx
  split at hx
  · rename_i k m k' n
    have ea := vt_int ha
    have eb := vt_int hb
    split at hx
    · cases hx; exact ⟨_, _, _, _, ea, eb, rfl, iLe_le hp, Wp.refl _⟩
    · cases hx; exact ⟨_, _, _, _, ea, eb, rfl, iLe_le hp, Wp.refl _⟩
    · split at hx
      · rename_i hk
        subst hk
        obtain ⟨q, r, h1, h2, h3⟩ := xbinI_ok (ρ := ρ) (h := h) hx hp
        exact ⟨_, _, q, r, ea, eb, h1, h2, h3⟩
      · cases hx
  · have ea := vt_str ha
    have eb := vt_str hb
    obtain ⟨q, r, h1, h2, h3⟩ := xbinS_ok (ρ := ρ) (h := h) hx hp
    exact ⟨_, _, q, r, ea, eb, h1, h2, h3⟩
  · cases hx

theorem xasN_ok {x : XV} {n : Int} {a : AV} (hx : xasN x = some n) (ha : VT ρ h x a) : asN a = some n := by
  unfold xasN at hx
  split at hx
  · cases hx; rw [vt_int ha]; rfl
  · cases hx
theorem cutOk_iff {l u : Int} {n : Nat} (h : cutOk l u n = true) : 0 ≤ l ∧ l ≤ u ∧ u ≤ n := by
  simp only [cutOk, Bool.and_eq_true, decide_eq_true_eq] at h
  exact ⟨h.1.1, h.1.2, h.2⟩
theorem xcut_ok {n : Nat} {lo hi : Option Opd} {p : Bool} {l u : Int} (hrd : ∀ o, VT ρ h (rd o) (σ.val Gl o)) (hx : xcut n (lo.map rd) (hi.map rd) = some (p, l, u)) (hp : p = true) : cutB n (lo.map (σ.val Gl)) (hi.map (σ.val Gl)) = some (0 ≤ l ∧ l ≤ u ∧ u ≤ n, l, u) ∧ (0 ≤ l ∧ l ≤ u ∧ u ≤ n) := by
  cases lo with
  | none =>
    cases hi with
    | none => cases hx; exact ⟨rfl, by omega⟩
    | some b =>
      simp only [xcut, Option.map_none, Option.map_some] at hx
      split at hx
      · rename_i m hm
        cases hx
        exact ⟨by simp only [cutB, Option.map_none, Option.map_some, xasN_ok hm (hrd b)], cutOk_iff hp⟩
      · cases hx
  | some a =>
    cases hi with
    | none =>
      simp only [xcut, Option.map_none, Option.map_some] at hx
      split at hx
      · rename_i m hm
        cases hx
        exact ⟨by simp only [cutB, Option.map_none, Option.map_some, xasN_ok hm (hrd a)], cutOk_iff hp⟩
      · cases hx
    | some b =>
      simp only [xcut, Option.map_some] at hx
      split at hx
      · rename_i m m' hm hm'
        cases hx
        exact ⟨by simp only [cutB, Option.map_some, xasN_ok hm (hrd a), xasN_ok hm' (hrd b)], cutOk_iff hp⟩
      · cases hx

/-- The cells of a value. -/
theorem vx1_v (v : Value) : V1 ρ h (vx1 v) (.v v) := by
  cases v with
  | int k n => exact Wp.refl _
  | bool b => exact Wp.refl _
  | string s => exact Wp.refl _
  | func fn a b =>
    cases fn with
    | func f =>
      simp only [vx1]
      split
      · rename_i h1 h2
        have e1 : a = #[] := by simpa using h1
        have e2 : b = #[] := by simpa using h2
        subst e1 e2
        exact Wp.refl _
      · rfl
    | _ => rfl
  | _ => rfl
theorem st_ok {x : XV} {a : AV} (hv : V1 ρ h x a) (hx : okX x = true) : st1 false a = true ∧ a.cells = [a] := by
  cases x with
  | d T y =>
    rcases enc_agg (x := y) with ⟨q, _⟩ | ⟨_, q⟩
    · simp [okX, q] at hx
    · exact ⟨(q.of_wp hv).st false, (q.of_wp hv).cells⟩
  | k v => have hv : a = .v v := hv; subst hv; exact ⟨hx, rfl⟩
  | row id => obtain ⟨_, _, _, _, _, rfl⟩ := hv; exact ⟨rfl, rfl⟩
  | sub id o l => obtain ⟨_, _, _, _, _, rfl⟩ := hv; exact ⟨rfl, rfl⟩
  | ptr id i o => obtain ⟨_, _, rfl⟩ := hv; exact ⟨rfl, rfl⟩
  | _ => cases hx
theorem cells_ok {x : XV} {cs : List XV} {a : AV} (hx : cellsX x = some cs) (hv : VT ρ h x a) : All2 (V1 ρ h) cs a.cells ∧ stCells false a = some a.cells := by
  have one : ∀ x, okX x = true → V1 ρ h x a → cs = [x] → All2 (V1 ρ h) cs a.cells ∧ stCells false a = some a.cells := by
    intro x ho hv hc
    obtain ⟨s1, s2⟩ := st_ok hv ho
    subst hc
    rw [s2]
    refine ⟨.cons hv .nil, ?_⟩
    cases a <;> first | (cases s1; done) | (simp only [stCells, s1, if_true]; done)
  cases x with
  | d T y =>
    cases hx
    exact ⟨flat_v hv, wp_st hv false⟩
  | agg cs' =>
    simp only [cellsX] at hx
    split at hx
    · rename_i hall
      cases hx
      obtain ⟨as, rfl, hc⟩ := hv
      refine ⟨hc, ?_⟩
      have : as.all (st1 false) = true := List.all_eq_true.2 fun a ha => by
        obtain ⟨i, hi⟩ := List.mem_iff_getElem?.1 ha
        obtain ⟨x, hx, hv⟩ := hc.get_right hi
        exact (st_ok hv (List.all_eq_true.1 hall x (List.mem_of_getElem? hx))).1
      simp only [stCells, this, if_true, AV.cells]
    · cases hx
  | k v =>
    simp only [cellsX] at hx
    split at hx
    · rename_i ho; cases hx; exact one (.k v) ho hv rfl
    · cases hx
  | row id => cases hx; exact one (.row id) rfl hv rfl
  | sub id o l => cases hx; exact one (.sub id o l) rfl hv rfl
  | ptr id i o => cases hx; exact one (.ptr id i o) rfl hv rfl
  | _ => cases hx
end
end Abs
end Go.Proofs.YtamgbanmnededaaDoor
