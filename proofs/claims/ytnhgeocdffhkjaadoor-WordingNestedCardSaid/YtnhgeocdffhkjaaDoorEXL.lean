/- Parse at this seat: of one text, by running it. -/
import Derived.Test.YtnhgeocdffhkjaaDoorEXK
namespace Go.Proofs.YtnhgeocdffhkjaaDoor
namespace Abs
open Go.RowKit
set_option linter.unusedVariables false
set_option linter.unusedSimpArgs false
set_option maxRecDepth 20000
attribute [local irreducible] x1 x2 x3 o4 yB x5 o6 yC o9 y9 l9 cOf rs4
/-- A call's answer, told. -/
structure Tb where
  f : Nat
  key : Option ByteArray
  res : AV
def keyOk (k : Option ByteArray) (az : List AV) : Bool := match k with
  | none => match az with
    | [] => true
    | _ => false
  | some s => match az with
    | [a] => match a with
      | .v v => match v with
        | .string x => sameS x s
        | _ => false
      | _ => false
    | _ => false
noncomputable def hasF (l : List Tb) (f : Nat) : Bool := List.rec false (fun e _ ih => Bool.rec ih true (Nat.beq e.f f)) l
noncomputable def look (l : List Tb) (f : Nat) (az : List AV) : Option AV := List.rec none (fun e _ ih => Bool.rec ih (some e.res) (Nat.beq e.f f && keyOk e.key az)) l
noncomputable def tbP (l : List Tb) (f : Nat) : Option (List AV → Option AV) := Bool.rec none (some (look l f)) (hasF l f)
noncomputable def hdT (l : List Tb) : HandF := ⟨fun f => Bool.rec none (some fail21) (Nat.beq f 21), tbP l⟩
def TbOk (l : List Tb) : Prop := ∀ e ∈ l, callable Tryd.prog e.f = true ∧ ∀ az, keyOk e.key az = true → Pure Tryd.prog GlD e.f az e.res
theorem look_ok {l : List Tb} (h : TbOk l) {f : Nat} {az : List AV} {res : AV} (hl : look l f az = some res) : callable Tryd.prog f = true ∧ Pure Tryd.prog GlD f az res := by
  induction l with
  | nil => cases hl
  | cons e l ih =>
    have hl : (Bool.rec (look l f az) (some e.res) (Nat.beq e.f f && keyOk e.key az) : Option AV) = some res := hl
    cases hq : (Nat.beq e.f f && keyOk e.key az) with
    | false => rw [hq] at hl; exact ih (fun e' he => h e' (List.mem_cons_of_mem _ he)) hl
    | true =>
      rw [hq] at hl
      cases hl
      rw [Bool.and_eq_true] at hq
      have := Nat.eq_of_beq_eq_true hq.1
      subst this
      obtain ⟨h1, h2⟩ := h e (by simp)
      exact ⟨h1, h2 az hq.2⟩
theorem hdT_ok {l : List Tb} (h : TbOk l) : HandOk Tryd.prog GlD (hdT l).hand := by
  intro cf pf _ _
  refine ⟨fun f g hg az hp r hr => ?_, fun f g hg az res hr => ?_⟩
  · have hg : (match (Bool.rec none (some fail21) (Nat.beq f 21) : Option (List AV → List AObj → FR)) with | some g => some fun az h => (g az h).ir | none => none) = some g := hg
    cases hq : Nat.beq f 21 with
    | false => rw [hq] at hg; cases hg
    | true =>
      rw [hq] at hg
      cases hg
      have := Nat.eq_of_beq_eq_true hq
      subst this
      exact fail_ok hr
  · have hg : (Bool.rec none (some (look l f)) (hasF l f) : Option (List AV → Option AV)) = some g := hg
    cases hq : hasF l f with
    | false => rw [hq] at hg; cases hg
    | true => rw [hq] at hg; cases hg; exact look_ok h hr
def kF : Nat := 1000000
noncomputable def exT (l : List Tb) : Nat → C → St → List Nat → Option Out := exC GlD tabD (hdT l).hand kF
noncomputable def fT (l : List Tb) : EX := hC ⟨GlD, tabD, hdT l⟩ kF
theorem exT_ok {l : List Tb} (h : TbOk l) : ExOk Tryd.prog GlD hclD (exT l) := exC_ok hm (hdT_ok h) kF
theorem fT_ex (l : List Tb) : ExE (fT l) (exT l) := by
  unfold fT exT
  rw [hC_eq, gC_eq]
  exact fC_eq kF
/-- A function without deferrals. -/
theorem run_fn {l : List Tb} (h : TbOk l) {f : Nat} {az : List AV} {res : AV} (hr : pfF0 tabD (fT l) f az = some res) : Pure Tryd.prog GlD f az res := fast4 hm (hdT_ok h) kF hr
noncomputable def pre (l : List Tb) (s : ByteArray) : FO := seqK (fT l 0 23 (cOf x1) (argT [.v (.string s)] 0 .e) [] []) fun T h U => seqK (fT l 0 23 (cOf x2) T h U) fun T h U => fT l 0 23 (cOf x3) T h U
theorem seqK_spec {o : FO} {K : TT → List AObj → List Nat → FO} {T : TT} {h : List AObj} {U : List Nat} (hs : seqK o K = .nrm .normal T h U) : ∃ T1 h1 U1, o = .nrm .normal T1 h1 U1 ∧ K T1 h1 U1 = .nrm .normal T h U := by
  unfold seqK at hs
  split at hs
  · split at hs
    · exact ⟨_, _, _, rfl, hs⟩
    · rename_i e hne
      cases hs
      exact absurd rfl hne
  · cases hs
  · cases hs
theorem fT_run {l : List Tb} {N : Nat} {n : Nat} {c : C} {T : TT} {h : List AObj} {U : List Nat} {e : Exit} {T' : TT} {h' : List AObj} {U' : List Nat} (hn : n ≤ 65535) (hr : fT l N n c T h U = .nrm e T' h' U') : exT l N c ⟨slots n T, h⟩ U = some (.nrm e ⟨slots n T', h'⟩ U') :=
  fT_ex l N n c T h U _ hn (by rw [hr]; rfl)
theorem pre_spec {l : List Tb} {s : ByteArray} {T : TT} {h : List AObj} {U : List Nat} (hp : pre l s = .nrm .normal T h U) : ∃ τ1 τ2 V1 V2,
    exT l 0 (cOf x1) ⟨[.v (.string s)] ++ List.replicate (23 - [AV.v (.string s)].length) .any, []⟩ [] = some (.nrm .normal τ1 V1) ∧ exT l 0 (cOf x2) τ1 V1 = some (.nrm .normal τ2 V2) ∧ exT l 0 (cOf x3) τ2 V2 = some (.nrm .normal ⟨slots 23 T, h⟩ U) := by
  obtain ⟨T1, h1, U1, a1, b1⟩ := seqK_spec hp
  obtain ⟨T2, h2, U2, a2, b2⟩ := seqK_spec b1
  refine ⟨⟨slots 23 T1, h1⟩, ⟨slots 23 T2, h2⟩, U1, U2, ?_, fT_run (by omega) a2, fT_run (by omega) b2⟩
  rw [← arg_eq (by simp) (by omega)]
  exact fT_run (by omega) a1
noncomputable def cfT (l : List Tb) := cfA GlD tabD (hdT l).hand (exT l)
noncomputable def pfT (l : List Tb) := pfA GlD tabD (hdT l).hand (exT l)
theorem cfT_ok {l : List Tb} (h : TbOk l) : CfOk Tryd.prog GlD (cfT l) := cfA_ok (hdT_ok h) (exT_ok h)
theorem pfT_ok {l : List Tb} (h : TbOk l) : PfOk Tryd.prog GlD (pfT l) := pfA_ok (hdT_ok h) (exT_ok h)
/-- The deferred call, run. -/
noncomputable def fin9 (l : List Tb) (az : List AV) (h : List AObj) (a8 a9 : AV) : Option (List AObj) := match exOps GlD (cfT l) (pfT l) false 0 l9 (st9 az h a8 a9) [] with
  | some (.nrm .normal τ V) => match exT l 0 (cOf y9) τ V with
    | some (.nrm e τ' _) => match isEnd e with
      | true => some τ'.h
      | false => none
    | _ => none
  | _ => none
theorem fin9_spec {l : List Tb} {az : List AV} {h h9 : List AObj} {a8 a9 : AV} (hf : fin9 l az h a8 a9 = some h9) : ∃ τ V e τ' V', exOps GlD (cfT l) (pfT l) false 0 l9 (st9 az h a8 a9) [] = some (.nrm .normal τ V) ∧ exT l 0 (cOf y9) τ V = some (.nrm e τ' V') ∧ isEnd e = true ∧ τ'.h = h9 := by
  unfold fin9 at hf
  split at hf
  · split at hf
    · split at hf
      · rename_i he; cases hf; exact ⟨_, _, _, _, _, by assumption, by assumption, he, rfl⟩
      · cases hf
    · cases hf
  · cases hf
def nilA9 : AV := .tup [.agg [.v (.int .i64 0), .v (.int .i64 0)], .v (.bool false)]
attribute [local irreducible] exT fT cfT pfT fin9 pre
/-- What it answers, where nothing dies. -/
noncomputable def okP (l : List Tb) (s : ByteArray) : Option AV := match pre l s with
  | .nrm .normal T h U => match fT l 0 23 (cOf yB) (setP .any (way 18) T) h U with
    | .nrm e T' h' _ => match isEnd e with
      | true => match fin9 l (capsS ⟨slots 23 T, h⟩) h' (.v .nilIface) nilA9 with
        | some h9 => match resB GlD ⟨slots 23 T', h9⟩ rs4 with
          | some q => keepT h9 (oneB q)
          | none => none
        | none => none
      | false => none
    | _ => none
  | _ => none
theorem okP_pure {l : List Tb} (hl : TbOk l) {s : ByteArray} {res : AV} (h : okP l s = some res) : Pure Tryd.prog GlD 4 [.v (.string s)] res := by
  unfold okP at h
  split at h
  · rename_i T hh U hp
    split at h
    · rename_i e T' h' U' hB
      split at h
      · rename_i he
        split at h
        · rename_i h9 hf
          split at h
          · rename_i q hq
            obtain ⟨τ1, τ2, V1, V2, a1, a2, a3⟩ := pre_spec hp
            obtain ⟨τ9, V9, e9, τ9', V9', b1, b2, b3, b4⟩ := fin9_spec hf
            obtain ⟨o0, o1, h4⟩ := rec4
            obtain ⟨o0', o1', h9'⟩ := rec9
            refine parse_ok (VB := U') (τ3 := ⟨slots 23 T, hh⟩) (τB := ⟨slots 23 T', h'⟩) (τ9' := τ9') h4 h9' inv9 (exT_ok hl) (cfT_ok hl) (pfT_ok hl) k1 k2 k3 kyB k9 kr4 a1 a2 a3 (by simp [slots]) ?_ he ta_nil (agg_R _ _ _ rfl rfl) b1 b2 b3 (by rw [b4]; exact hq) (by rw [b4]; exact h)
            · show exT l 0 (cOf yB) ⟨(slots 23 T).set 18 .any, hh⟩ U = _
              rw [← slots_set (by omega) (by omega)]
              exact fT_run (by omega) hB
          · cases h
        · cases h
      · cases h
    · cases h
  · cases h
end Abs
end Go.Proofs.YtnhgeocdffhkjaaDoor
