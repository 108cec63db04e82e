/- Parse at this seat. -/
import Derived.Test.YtnhgeocdffhkjaaDoorEXI
namespace Go.Proofs.YtnhgeocdffhkjaaDoor
namespace Abs
open Go.RowKit
set_option linter.unusedVariables false
set_option linter.unusedSimpArgs false
set_option maxRecDepth 20000
def hclD : List Nat := [77, 10, 19, 20, 21, 22, 36, 37, 38, 39, 40, 41, 42, 43, 47, 53, 54, 55, 56, 57, 62, 66, 67, 68, 69, 70, 71, 72, 73, 74, 75, 78]
def g0C : List AV := [.v (.int .i64 31), .v (.int .i64 28), .v (.int .i64 31), .v (.int .i64 30), .v (.int .i64 31), .v (.int .i64 30), .v (.int .i64 31), .v (.int .i64 31), .v (.int .i64 30), .v (.int .i64 31), .v (.int .i64 30), .v (.int .i64 31)]
def g1C : List AV := [.v (.string ⟨#[]⟩), .v (.bool false), .v (.int .i64 0), .v (.int .i64 0), .v (.int .i64 0), .v (.string ⟨#[116, 114, 117, 101]⟩), .v (.bool false), .v (.int .i64 0), .v (.int .i64 0), .v (.int .i64 0), .v (.string ⟨#[102, 97, 108, 115, 101]⟩), .v (.bool false), .v (.int .i64 0), .v (.int .i64 0), .v (.int .i64 0), .v (.string ⟨#[]⟩), .v (.bool true), .v (.int .i64 0), .v (.int .i64 0), .v (.int .i64 0), .v (.string ⟨#[105, 110]⟩), .v (.bool true), .v (.int .i64 0), .v (.int .i64 0), .v (.int .i64 0), .v (.string ⟨#[102, 114, 111, 109]⟩), .v (.bool true), .v (.int .i64 0), .v (.int .i64 0), .v (.int .i64 0), .v (.string ⟨#[110, 111, 116]⟩), .v (.bool false), .v (.int .i64 1), .v (.int .i64 1), .v (.int .i64 3), .v (.string ⟨#[97, 110, 100]⟩), .v (.bool false), .v (.int .i64 2), .v (.int .i64 300), .v (.int .i64 2), .v (.string ⟨#[111, 114]⟩), .v (.bool false), .v (.int .i64 2), .v (.int .i64 300), .v (.int .i64 1)]
def GlD : Nat → Option (List AV) := fun g => match g with
  | 0 => some g0C
  | 1 => some g1C
  | _ => none
noncomputable def tabD : Nat → Option FnE := fnE Tryd.prog hclD
noncomputable def body4 : Code := Tryd.f4.body.getD .skip
noncomputable def body9 : Code := Tryd.f9.body.getD .skip
noncomputable def x1 : Code := sq1 body4
noncomputable def x2 : Code := sq1 (sq2 body4)
noncomputable def x3 : Code := sq1 (sq2 (sq2 body4))
noncomputable def o4 : Array Oper := rgO (sq1 (sq2 (sq2 (sq2 body4))))
noncomputable def yB : Code := sq2 (sq2 (sq2 (sq2 body4)))
noncomputable def x5 : Code := sq1 yB
noncomputable def o6 : Array Oper := rgO (sq1 (sq2 yB))
noncomputable def yC : Code := sq2 (sq2 yB)
noncomputable def o9 : Array Oper := rgO (sq1 body9)
noncomputable def y9 : Code := sq2 body9
noncomputable def l9 : List Ins := insF Tryd.prog o9 2
theorem rec4 : ∃ a b, Rec4 Tryd.prog 4 9 Tryd.f4 x1 x2 x3 o4 yB a b := ⟨_, _, Tryd.func4, rfl, rfl, rfl, rfl, rfl, rfl, rfl, rfl, rfl, rfl, rfl, rfl⟩
theorem rec4' : ∃ a b, Rec4 Tryd.prog 4 9 Tryd.f4 x1 x2 x3 o4 (x5.seq ((Code.region 6 o6 false).seq yC)) a b := rec4
theorem rec9 : ∃ a b, Rec9 Tryd.prog 9 Tryd.f9 o9 y9 l9 a b 46 := ⟨_, _, Tryd.func9, rfl, rfl, rfl, rfl, rfl, rfl, rfl, rfl, rfl, rfl, rfl, rfl, (by kernel_rfl), rfl, (by kernel_rfl)⟩
/-- Code, made. -/
noncomputable def cOf (x : Code) : C := (cC Tryd.prog hclD x).getD .skip
theorem k1 : cC Tryd.prog hclD x1 = some (cOf x1) := by kernel_rfl
theorem k2 : cC Tryd.prog hclD x2 = some (cOf x2) := by kernel_rfl
theorem k3 : cC Tryd.prog hclD x3 = some (cOf x3) := by kernel_rfl
theorem kyB : cC Tryd.prog hclD yB = some (cOf yB) := by kernel_rfl
theorem k5 : cC Tryd.prog hclD x5 = some (cOf x5) := by kernel_rfl
theorem k9 : cC Tryd.prog hclD y9 = some (cOf y9) := by kernel_rfl
noncomputable def rs4 : List RV := (cRes Tryd.prog Tryd.f4.results.toList).getD []
theorem kr4 : cRes Tryd.prog Tryd.f4.results.toList = some rs4 := by kernel_rfl
theorem hm : Tryd.prog.follows .mixedOrders = true := by kernel_rfl
theorem inv9 (act : Act) (w : World) : (invoke (.fn (.func 9) (capsA act)) #[]).run Tryd.prog w = .ok (.enter 9 (capsA act)) w := by
  have hb : Tryd.f9.body ≠ none := by intro h; cases h
  have hn : ¬ Tryd.f9.name = "runtime.NumGoroutine" := by decide
  simp [invoke, callFunc, Tryd.func9, hb, hn]
theorem ta_nil (w : World) : (Instr.typeAssert .nilIface 20 46 true).run Tryd.prog w = .ok (.tuple #[.agg #[.int .i64 0, .int .i64 0], .bool false]) w := by kernel_rfl
theorem ta_fail (a b : Value) (w : World) : (Instr.typeAssert (.iface 46 (.agg #[a, b])) 20 46 true).run Tryd.prog w = .ok (.tuple #[.agg #[a, b], .bool true]) w := by kernel_rfl
theorem agg_R (a b q : Value) (ha : a.oneCell' = true) (hb : b.oneCell' = true) (F : Addr → Option Value) : RP F (.tuple #[.agg #[a, b], q]) (.tup [.agg [.v a, .v b], .v q]) := by
  refine .tup _ _ rfl fun j x c p r => ?_
  match j, p, r with
  | 0, p, r =>
    cases p; cases r
    refine .agg _ _ rfl (fun j x p => ?_) fun j x c p r => ?_
    · match j, p with
      | 0, p => cases p; exact ha
      | 1, p => cases p; exact hb
      | n + 2, p => simp at p
    · match j, p, r with
      | 0, p, r => cases p; cases r; exact .v _
      | 1, p, r => cases p; cases r; exact .v _
      | n + 2, p, r => simp at p
  | 1, p, r => cases p; cases r; exact .v _
  | n + 2, p, r => simp at p
end Abs
end Go.Proofs.YtnhgeocdffhkjaaDoor
