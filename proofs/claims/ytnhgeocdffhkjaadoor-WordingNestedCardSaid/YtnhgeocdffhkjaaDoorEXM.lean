/- Parse at this seat: of one text, by running it, where it dies. -/
import Derived.Test.YtnhgeocdffhkjaaDoorEXL
namespace Go.Proofs.YtnhgeocdffhkjaaDoor
namespace Abs
open Go.RowKit
set_option linter.unusedVariables false
set_option linter.unusedSimpArgs false
set_option maxRecDepth 20000
attribute [local irreducible] x1 x2 x3 o4 yB x5 o6 yC o9 y9 l9 cOf rs4
theorem o6_0 : ∃ o d, o6[0]? = some o ∧ 0 < o6.size ∧ cIns Tryd.prog false o6 o = some ⟨d, none, .call (.k (.func (.func 10) #[] #[])) [.t 6]⟩ := by
  unfold o6 yB body4
  exact ⟨_, some 21, rfl, (by show 0 < 2; omega), (by kernel_rfl)⟩
def one1 (a : AV) : Bool := match a with
  | .agg _ => false
  | _ => true
theorem one1_ok {a : AV} (h : one1 a = true) : a.cells = [a] := by
  cases a <;> first | rfl | cases h
noncomputable def T5 (p2 p3 p4 : Value) (b : AV) : TT := setP (.lptr [b]) (way 5) (setP (.v p4) (way 4) (setP (.v p3) (way 3) (setP (.v p2) (way 2) .e)))
theorem T5_ok (p2 p3 p4 : Value) (b : AV) : (⟨slots 23 (T5 p2 p3 p4 b), []⟩ : St) = st5 p2 p3 p4 b := by
  unfold T5 st5
  rw [slots_set (by omega) (by omega), slots_set (by omega) (by omega), slots_set (by omega) (by omega), slots_set (by omega) (by omega), slots_e]
/-- The tokens that it goes on with. -/
noncomputable def tok5 (T : TT) (h : List AObj) : Option (Nat × AObj × AV × AV) := match (slots 23 T).getD 5 .any with
  | .ptr id G i o => match (Nat.beq G 1 && Nat.beq i 0 && Nat.beq o 0) with
    | true => match h[id]? with
      | some ob => match ob.es with
        | [a] => match keepA h a with
          | some b => match (Nat.beq ob.sz 1 && one1 a && one1 b) with
            | true => some (id, ob, a, b)
            | false => none
          | none => none
        | _ => none
      | none => none
    | false => none
  | _ => none
theorem tok5_spec {T : TT} {h : List AObj} {q : Nat × AObj × AV × AV} (ht : tok5 T h = some q) : (slots 23 T).getD 5 .any = .ptr q.1 1 0 0 ∧ h[q.1]? = some q.2.1 ∧ q.2.1.es = [q.2.2.1] ∧ q.2.1.sz = 1 ∧ q.2.2.1.cells = [q.2.2.1] ∧ keepA h q.2.2.1 = some q.2.2.2 ∧ q.2.2.2.cells = [q.2.2.2] := by
  unfold tok5 at ht
  split at ht
  · rename_i id G i o hs
    split at ht
    · rename_i hb
      split at ht
      · rename_i ob hob
        split at ht
        · rename_i a hes
          split at ht
          · rename_i b hk
            split at ht
            · rename_i hc
              cases ht
              simp only [Bool.and_eq_true] at hb hc
              have e1 := Nat.eq_of_beq_eq_true hb.1.1
              have e2 := Nat.eq_of_beq_eq_true hb.1.2
              have e3 := Nat.eq_of_beq_eq_true hb.2
              subst e1 e2 e3
              exact ⟨hs, hob, hes, Nat.eq_of_beq_eq_true hc.1.1, one1_ok hc.1.2, hk, one1_ok hc.2⟩
            · cases ht
          · cases ht
        · cases ht
      · cases ht
    · cases ht
  · cases ht
noncomputable def cf3 (l : List Tb) : CF := cfF tabD (hdT l) (fT l)
theorem cf3_ok (l : List Tb) : CfE (cf3 l) (cfT l) := cfF_eq (fT_ex l)
/-- The places that stay, and what it dies of. -/
noncomputable def dieC (l : List Tb) (s : ByteArray) (p2 p3 p4 : Value) : Option (AV × AV × AV × Value) := match pre l s with
  | .nrm .normal T h U => match tok5 T h with
    | some q => match fT l 0 23 (cOf x5) (T5 p2 p3 p4 q.2.2.2) [] [] with
      | .nrm .normal T6 h6 _ => match cf3 l 10 [(slots 23 T6).getD 6 .any] h6 with
        | .pan v => some ((slots 23 T6).getD 2 .any, (slots 23 T6).getD 3 .any, (slots 23 T6).getD 4 .any, v)
        | _ => none
      | _ => none
    | none => none
  | _ => none
/-- What it answers then. -/
noncomputable def dieR (l : List Tb) (s : ByteArray) (a b : Value) : Option AV := match pre l s with
  | .nrm .normal T h U => match fin9 l (capsS ⟨slots 23 T, h⟩) h (.v (.iface 46 (.agg #[a, b]))) (.tup [.agg [.v a, .v b], .v (.bool true)]) with
    | some h9 => match resB GlD ⟨(slots 23 T).set 18 .any, h9⟩ rs4 with
      | some q => keepT h9 (oneB q)
      | none => none
    | none => none
  | _ => none
attribute [local irreducible] exT fT cfT pfT fin9 pre cf3 tok5
def foT : FO → TT
  | .nrm _ T _ _ => T
  | _ => .e
def foH : FO → List AObj
  | .nrm _ _ h _ => h
  | _ => []
def foU : FO → List Nat
  | .nrm _ _ _ U => U
  | _ => []
theorem dies_pure {l : List Tb} (hl : TbOk l) {s : ByteArray} {a b : Value} (ha : a.oneCell' = true) (hb : b.oneCell' = true) (hC : ∀ p2 p3 p4, dieC l s p2 p3 p4 = some (.v p2, .v p3, .v p4, .iface 46 (.agg #[a, b]))) {res : AV} (hR : dieR l s a b = some res) : Pure Tryd.prog GlD 4 [.v (.string s)] res := by
  unfold dieR at hR
  split at hR
  · rename_i T hh U hp
    split at hR
    · rename_i h9 hf
      split at hR
      · rename_i q hq
        obtain ⟨τ1, τ2, V1, V2, a1, a2, a3⟩ := pre_spec hp
        obtain ⟨τ9, V9, e9, τ9', V9', b1, b2, b3, b4⟩ := fin9_spec hf
        obtain ⟨o0, o1, h4⟩ := rec4'
        obtain ⟨o0', o1', h9'⟩ := rec9
        obtain ⟨ob6, d6, i1, i2, i3⟩ := o6_0
        unfold dieC at hC
        simp only [hp] at hC
        cases ht : tok5 T hh with
        | none => have := hC undef undef undef; rw [ht] at this; cases this
        | some t =>
          simp only [ht] at hC
          obtain ⟨t1, t2, t3, t4, t5, t6, t7⟩ := tok5_spec ht
          let F := fun p2 p3 p4 => fT l 0 23 (cOf x5) (T5 p2 p3 p4 t.2.2.2) [] []
          have key : ∀ p2 p3 p4, F p2 p3 p4 = .nrm .normal (foT (F p2 p3 p4)) (foH (F p2 p3 p4)) (foU (F p2 p3 p4)) ∧ cf3 l 10 [(slots 23 (foT (F p2 p3 p4))).getD 6 .any] (foH (F p2 p3 p4)) = .pan (.iface 46 (.agg #[a, b])) ∧ (slots 23 (foT (F p2 p3 p4))).getD 2 .any = .v p2 ∧ (slots 23 (foT (F p2 p3 p4))).getD 3 .any = .v p3 ∧ (slots 23 (foT (F p2 p3 p4))).getD 4 .any = .v p4 := by
            intro p2 p3 p4
            have := hC p2 p3 p4
            show fT l 0 23 (cOf x5) (T5 p2 p3 p4 t.2.2.2) [] [] = _ ∧ _
            split at this
            · rename_i T6 h6 U6 hF
              have eF : F p2 p3 p4 = .nrm .normal T6 h6 U6 := hF
              split at this
              · rename_i v hv
                simp only [Option.some.injEq, Prod.mk.injEq] at this
                obtain ⟨u1, u2, u3, u4⟩ := this
                rw [eF, hF]
                refine ⟨rfl, ?_, u1, u2, u3⟩
                rw [← u4]; exact hv
              · cases this
            · cases this
          refine parse_dies (τ3 := ⟨slots 23 T, hh⟩) (τ9' := τ9') (id := t.1) (ob := t.2.1) (a := t.2.2.1) (b := t.2.2.2) (τ5 := fun p2 p3 p4 => ⟨slots 23 (foT (F p2 p3 p4)), foH (F p2 p3 p4)⟩) (V5 := fun p2 p3 p4 => foU (F p2 p3 p4)) (v := .iface 46 (.agg #[a, b])) h4 h9' inv9 (exT_ok hl) (cfT_ok hl) (pfT_ok hl) k1 k2 k3 k5 k9 kr4 a1 a2 a3 (by simp [slots]) t1 t2 t3 t4 t5 t6 t7 ?_ ?_ i1 i2 i3 ?_ (ta_fail a b) (agg_R a b (.bool true) ha hb) b1 b2 b3 (by rw [b4]; exact hq) (by rw [b4]; exact hR)
          · intro p2 p3 p4
            rw [← T5_ok]
            exact fT_run (by omega) (key p2 p3 p4).1
          · intro p2 p3 p4
            exact (key p2 p3 p4).2.2
          · intro p2 p3 p4
            exact cf3_ok l _ _ _ _ (by rw [(key p2 p3 p4).2.1]; rfl)
      · cases hR
    · cases hR
  · cases hR
end Abs
end Go.Proofs.YtnhgeocdffhkjaaDoor
