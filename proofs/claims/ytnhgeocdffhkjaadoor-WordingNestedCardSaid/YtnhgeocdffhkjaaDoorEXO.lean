/- The law about nested write-backs: its own run. -/
import Derived.Test.YtnhgeocdffhkjaaDoorEXN
namespace Go.Proofs.YtnhgeocdffhkjaaDoor
namespace Abs
open Go.RowKit
set_option linter.unusedVariables false
set_option linter.unusedSimpArgs false
set_option maxRecDepth 20000
noncomputable def body3 : Code := Tryd.f3.body.getD .skip
noncomputable def z0 : Code := sq1 body3
noncomputable def z1 : Code := sq1 (sq2 body3)
noncomputable def zL : Code := sq2 (sq2 body3)
theorem body3_is : Tryd.f3.body = some (z0.seq (z1.seq zL)) := rfl
theorem kz0 : cC Tryd.prog hclD z0 = some (cOf z0) := by kernel_rfl
theorem kz1 : cC Tryd.prog hclD z1 = some (cOf z1) := by kernel_rfl
theorem kzL : cC Tryd.prog hclD zL = some (cOf zL) := by kernel_rfl
theorem nt3 : Tryd.f3.ntmps = 70 := rfl
theorem kr3 : cRes Tryd.prog Tryd.f3.results.toList = some [.t 4] := by kernel_rfl
/-- What is left of the beginning: how deep. -/
def stK (k : Int) : St := ⟨(List.replicate 70 .any).set 5 (.v (.int .i64 k)), []⟩
noncomputable def TK (k : Int) : TT := setP (.v (.int .i64 k)) (way 5) .e
theorem TK_ok (k : Int) : (⟨slots 70 (TK k), []⟩ : St) = stK k := by
  unfold TK stK
  rw [slots_set (by omega) (by omega), slots_e]
theorem Inv.wkK {Gl : Nat → Option (List AV)} {F : Addr → Option Value} {own : List Ent} {B : Nat} {w0 : W0} {t : List AV} {act : Act} {w : World} (h : Inv Gl F own B w0 ⟨t, []⟩ act w) {k : Int} (hl : t.length = 70) (h5 : t.getD 5 .any = .v (.int .i64 k)) : Inv Gl F own B w0 (stK k) act w := by
  refine { tl := by rw [h.tl]; show t.length = _; rw [hl]; simp [stK], tr := fun i x a p q => ?_, defers := h.defers, sub := h.sub, hl := h.hl, objs := h.objs, inj := h.inj, below := h.below, base := h.base, gl := h.gl, gw := h.gw, room := h.room, ext := h.ext, ext0 := h.ext0, nl := h.nl, fr := h.fr, pd := h.pd }
  have q : ((List.replicate 70 AV.any).set 5 (.v (.int .i64 k)))[i]? = some a := q
  by_cases hi : i = 5
  · subst hi
    rw [List.getElem?_set_self (by simp)] at q
    cases q
    have e : t[5]? = some (.v (.int .i64 k)) := by
      have hlt : 5 < t.length := by omega
      rw [List.getD_eq_getElem?_getD, List.getElem?_eq_getElem hlt] at h5
      rw [List.getElem?_eq_getElem hlt]
      exact congrArg some h5
    exact h.tr 5 x _ p e
  · rw [List.getElem?_set_ne (by omega), List.getElem?_replicate] at q
    split at q
    · cases q; exact .pure (.any _)
    · cases q
/-- The beginning, of one number. -/
noncomputable def begN (n : Nat) : Bool := match exT [] 0 (cOf z0) ⟨[.v (.int .u8 n), .any] ++ List.replicate (70 - [AV.v (.int .u8 n), .any].length) .any, []⟩ [] with
  | some (.nrm .normal τ V) => match exT [] 0 (cOf z1) τ V with
    | some (.nrm .normal τ' _) => match τ'.h with
      | [] => match τ'.t.getD 5 .any with
        | .v v => match v with
          | .int .i64 m => Nat.beq τ'.t.length 70 && eqI m (Int.ofNat (1 + n % 20))
          | _ => false
        | _ => false
      | _ => false
    | _ => false
  | _ => false
theorem eqI_ok {a b : Int} (h : eqI a b = true) : a = b := by
  cases a <;> cases b <;> first
    | (rename_i a b; have := Nat.eq_of_beq_eq_true h; subst this; rfl)
    | cases h
attribute [local irreducible] z0 z1 zL cOf exT
theorem begN_spec {n : Nat} (h : begN n = true) : ∃ τ V t V', exT [] 0 (cOf z0) ⟨[.v (.int .u8 n), .any] ++ List.replicate (70 - [AV.v (.int .u8 n), .any].length) .any, []⟩ [] = some (.nrm .normal τ V) ∧ exT [] 0 (cOf z1) τ V = some (.nrm .normal ⟨t, []⟩ V') ∧ t.length = 70 ∧ t.getD 5 .any = .v (.int .i64 (Int.ofNat (1 + n % 20))) := by
  unfold begN at h
  split at h
  · rename_i τ V h0
    split at h
    · rename_i τ' V' h1
      split at h
      · rename_i hh
        split at h
        · rename_i v hv
          split at h
          · rename_i m
            rw [Bool.and_eq_true] at h
            obtain ⟨t, hp⟩ := τ'
            simp only at hh hv h
            subst hh
            exact ⟨τ, V, t, V', h0, h1, Nat.eq_of_beq_eq_true h.1, by rw [hv, eqI_ok h.2]⟩
          · cases h
        · cases h
      · cases h
    · cases h
  · cases h
/-- The rest, of one depth. -/
noncomputable def restK (l : List Tb) (k : Int) : Bool := match fT l 0 70 (cOf zL) (TK k) [] [] with
  | .nrm e T _ _ => match isEnd e with
    | true => match (slots 70 T).getD 4 .any with
      | .v v => match v with
        | .bool b => b
        | _ => false
      | _ => false
    | false => false
  | _ => false
attribute [local irreducible] fT
theorem restK_spec {l : List Tb} {k : Int} (h : restK l k = true) : ∃ e τ V, exT l 0 (cOf zL) (stK k) [] = some (.nrm e τ V) ∧ isEnd e = true ∧ τ.t.getD 4 .any = .v (.bool true) := by
  unfold restK at h
  split at h
  · rename_i e T hh U hr
    split at h
    · rename_i he
      split at h
      · rename_i v hv
        split at h
        · subst h
          refine ⟨e, ⟨slots 70 T, hh⟩, U, ?_, he, hv⟩
          rw [← TK_ok]
          exact fT_run (by omega) hr
        · cases h
      · cases h
    · cases h
  · cases h
/-- The law, of one number. -/
theorem law3 {n : Nat} {l : List Tb} (hb : begN n = true) (hl : TbOk l) (hr : restK l (Int.ofNat (1 + n % 20)) = true) : Pure Tryd.prog GlD 3 [.v (.int .u8 n), .any] (.v (.bool true)) := by
  obtain ⟨τ, V, t, V', a1, a2, a3, a4⟩ := begN_spec hb
  obtain ⟨e, τ3, V3, b1, b2, b3⟩ := restK_spec hr
  refine Pure.ofW Tryd.func3 body3_is kr3 fun F own B w0 act w _ hI => ?_
  rw [nt3] at hI
  refine seq_run (exT_ok tb0) a1 kz0 hI fun F1 own1 act1 w1 hI1 => seq_run (exT_ok tb0) a2 kz1 hI1 fun F2 own2 act2 w2 hI2 => ?_
  refine wp_mono (((exT_ok hl) _ _ _ _ _ b1).2 zL kzL F2 own2 B w0 act2 w2 (Inv.wkK hI2 a3 a4)) ?_
  rintro e' a' w' ⟨rfl, _, F3, own3, τ', hI3, rfl⟩
  refine ⟨F3, own3, τ', hI3, isEnd_ok _ b2, True, _, .v (.bool true), rfl, trivial, ?_, Wk.refl _⟩
  show keepT τ'.h (τ'.t.getD 4 .any) = _
  rw [b3]; rfl
theorem begs : ∀ n, n < 256 → begN n = true := by
  have h : (List.range 256).all begN = true := by kernel_rfl
  intro n hn
  exact List.all_eq_true.1 h n (List.mem_range.2 hn)
end Abs
end Go.Proofs.YtnhgeocdffhkjaaDoor
