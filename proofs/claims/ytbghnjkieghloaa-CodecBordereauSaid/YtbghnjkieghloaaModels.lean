/- The functions' models on the typed machine, printed by a program of mine; that they are the code's is checked by the kernel. -/
import Derived.Test.YtbghnjkieghloaaModelsA
namespace Go.Proofs.Ytbghnjkieghloaa
namespace Abs
set_option maxRecDepth 100000
set_option linter.unusedVariables false
/- 54 treaty/treatymade2.treaty -/
def r54_0 : List Ins := [⟨some 3, none, .box 70 4 (.t 1)⟩,
  ⟨some 4, none, .mov (.k (.int .i64 0))⟩]
def r54_1 : List Ins := [⟨some 5, none, .faddr 1 (.t 3)⟩,
  ⟨some 6, none, .load 1 false (.t 5)⟩,
  ⟨some 7, none, .len (.t 6)⟩,
  ⟨some 8, none, .bin .gtr (.t 7) (.k (.int .i64 0))⟩,
  ⟨some 9, none, .mov (.t 8)⟩,
  ⟨some 10, some (9, true), .mov (.t 0)⟩,
  ⟨some 11, some (9, true), .call (.k (.func (.func 32) #[] #[])) [(.t 10), (.k (.int .i64 8))]⟩,
  ⟨some 12, some (9, true), .bin .gtr (.t 11) (.k (.int .i64 0))⟩,
  ⟨some 13, none, .pick (.t 9) (.t 12) (.k (.bool false))⟩]
def r54_2 : List (Nat × Ins) := [(0, ⟨some 14, none, .faddr 1 (.t 3)⟩),
  (1, ⟨some 15, none, .load 1 false (.t 14)⟩),
  (0, ⟨some 16, none, .mov (.t 0)⟩),
  (0, ⟨some 17, none, .faddr 1 (.t 3)⟩),
  (0, ⟨some 18, none, .load 1 false (.t 17)⟩),
  (0, ⟨some 19, none, .len (.t 18)⟩),
  (2, ⟨some 20, none, .call (.k (.func (.func 32) #[] #[])) [(.t 16), (.t 19)]⟩),
  (0, ⟨some 21, none, .iaddr 21 (.t 15) (.t 20)⟩),
  (0, ⟨some 22, none, .faddr 0 (.t 21)⟩),
  (0, ⟨some 23, none, .load 1 false (.t 22)⟩),
  (0, ⟨some 4, none, .mov (.t 23)⟩)]
def r54_3 : List Ins := [⟨some 24, none, .mov (.t 0)⟩,
  ⟨some 25, none, .call (.k (.func (.func 32) #[] #[])) [(.t 24), (.k (.int .i64 4))]⟩,
  ⟨some 4, none, .mov (.t 25)⟩]
def x54 : XC := (.seq (.ops false r54_0) (.seq (.seq (.ops false r54_1) (.cond (.t 13) (.seq (.rops [0] r54_2) .ret) .skip)) (.seq (.ops false r54_3) .ret)))
theorem F54 : Fn Try.prog 54 26 x54.er [.t 4] := ⟨Try.f54, hcl, Try.func54, by kernel_rfl, by kernel_rfl, by kernel_rfl, by kernel_rfl⟩
noncomputable def m54 (a0 : DS8) (a1 : List Int) (a2 : Int) : Option (Int × (List Int) × Int × Unit) :=
  cond (iLt 0 (lenI a0.2.1))
  ((m32 8 a1 a2).bind fun y427 =>
   cond (iLt 0 y427.1)
   ((m32 (lenI a0.2.1) y427.2.1 y427.2.2.1).bind fun y428 =>
    cond (bnd y428.1 (lenI a0.2.1))
    (some ((atI a0.2.1 y428.1 (0, 0, (0, 0, ()), [], [], 0, 0, 0, 0, 0, 0, 0, 0, 0, 0, [], false, 0, [], [], ())).1, y428.2.1, y428.2.2.1, ())) none)
   ((m32 4 y427.2.1 y427.2.2.1).bind fun y429 =>
    some (y429.1, y429.2.1, y429.2.2.1, ())))
  ((m32 4 a1 a2).bind fun y430 =>
   some (y430.1, y430.2.1, y430.2.2.1, ()))
noncomputable def cfg54 : Cfg := ⟨ttab, gtab, [], [h32]⟩
def ish54 : Sh := ⟨2, [(1, tS8)], [(0, .ptr 0 0 0)], [.box 98 [.d (.list (.int .i64)), .d (.int .i64)]]⟩
def osh54 : Sh := ⟨1, [(0, (.int .i64))], [], [.box 98 [.d (.list (.int .i64)), .d (.int .i64)]]⟩
theorem eqn54 (x : DS8 × (List Int) × Int × Unit) : xfunH cfg54 x54 26 [.t 4] [] ish54 osh54 x = m54 x.1 x.2.1 x.2.2.1 := by kernel_rfl
noncomputable def h54 : HI := ⟨54, ish54, osh54, fun (x : DS8 × (List Int) × Int × Unit) => m54 x.1 x.2.1 x.2.2.1⟩
theorem okh54 : HOk Try.prog (gx gtab) h54 := hok mixed (cfg_h okh32 (cfg_nil _ _) : CfgOk _ cfg54) F54 eqn54
/- 63 treaty/treatyref25.Index -/
def r63_0 : List Ins := [⟨some 4, none, .mov (.k (.int .i64 0))⟩]
def r63_1 : List Ins := [⟨some 7, none, .mov (.t 0)⟩,
  ⟨some 8, none, .len (.t 7)⟩,
  ⟨some 9, none, .mov (.k (.int .i64 0))⟩]
def r63_2 : List Ins := [⟨some 10, none, .bin .lss (.t 9) (.t 8)⟩]
def r63_3 : List Ins := [⟨some 11, none, .mov (.t 9)⟩,
  ⟨some 12, none, .iaddr 21 (.t 7) (.t 9)⟩,
  ⟨some 13, none, .load 21 true (.t 12)⟩,
  ⟨some 6, none, .alloc 107 (.agg #[.int .i64 0, .int .i64 0, .int .i64 0, .int .i64 0, .slice none 0 0, .slice none 0 0, .int .i64 0, .int .i64 0, .int .i64 0, .int .i64 0, .int .i64 0, .int .i64 0, .int .i64 0, .int .i64 0, .int .i64 0, .int .i64 0, .slice none 0 0, .bool false, .int .i64 0, .slice none 0 0, .slice none 0 0])⟩,
  ⟨some 5, none, .mov (.t 11)⟩,
  ⟨none, none, .store 21 (.t 6) (.t 13)⟩]
def r63_4 : List Ins := [⟨some 14, none, .faddr 0 (.t 6)⟩,
  ⟨some 15, none, .load 1 false (.t 14)⟩,
  ⟨some 16, none, .mov (.t 1)⟩,
  ⟨some 17, none, .bin .eql (.t 15) (.t 16)⟩]
def r63_5 : List Ins := [⟨some 18, none, .mov (.t 5)⟩,
  ⟨some 4, none, .mov (.t 18)⟩]
def r63_6 : List Ins := [⟨some 19, none, .bin .add (.t 9) (.k (.int .i64 1))⟩,
  ⟨some 9, none, .mov (.t 19)⟩]
def r63_7 : List Ins := [⟨some 4, none, .mov (.k (.int .i64 (-1)))⟩]
def x63 : XC := (.seq (.ops false r63_0) (.seq (.seq (.ops false r63_1) (.block 0 (.loop [] ⟨20, [(1, (.int .i64)), (7, (.list tS3)), (8, (.int .i64)), (9, (.int .i64))], [], []⟩ (.seq (.ops false r63_2) (.seq (.cond (.t 10) .skip (.exit 0)) (.seq (.block 1 (.seq (.ops false r63_3) (.seq (.ops false r63_4) (.cond (.t 17) (.seq (.ops false r63_5) .ret) .skip)))) (.ops false r63_6))))))) (.seq (.ops false r63_7) .ret)))
theorem F63 : Fn Try.prog 63 20 x63.er [.t 4] := ⟨Try.f63, hcl, Try.func63, by kernel_rfl, by kernel_rfl, by kernel_rfl, by kernel_rfl⟩
noncomputable def m63 (a0 : List DS3) (a1 : Int) : Option (Int × Unit) :=
  loopO (S := Int × (List DS3) × Int × Int × Unit) (R := Int × Unit) (fun s433 =>
   cond (iLt s433.2.2.2.1 s433.2.2.1)
   (cond (bnd s433.2.2.2.1 (lenI s433.2.1))
    (cond (iEq ((atI s433.2.1 s433.2.2.2.1 (0, 0, (0, 0, ()), [], [], 0, 0, 0, 0, 0, 0, 0, 0, 0, 0, [], false, 0, [], [], ())).1) s433.1)
     (some (.inr (s433.2.2.2.1, ())))
     (some (.inl (s433.1, s433.2.1, s433.2.2.1, iAdd .i64 s433.2.2.2.1 1, ())))) none)
   (some (.inr ((-1), ()))))
  (a1, a0, lenI a0, 0, ())
noncomputable def cfg63 : Cfg := ⟨ttab, gtab, [], []⟩
theorem eqn63 (x : (List DS3) × Int × Unit) : xfun cfg63 x63 20 [.t 4] [(.list tS3), (.int .i64)] [(.int .i64)] x = m63 x.1 x.2.1 := by kernel_rfl
noncomputable def i63 : PI := ⟨63, [(.list tS3), (.int .i64)], [(.int .i64)], fun (x : (List DS3) × Int × Unit) => m63 x.1 x.2.1⟩
theorem oki63 : POk Try.prog (gx gtab) i63 := pok mixed (cfg_nil _ _ : CfgOk _ cfg63) F63 eqn63
/- 55 treaty/treatymade2.party -/
def r55_0 : List Ins := [⟨some 4, none, .box 70 4 (.t 1)⟩,
  ⟨some 6, none, .mov (.k (.int .i64 0))⟩]
def r55_1 : List Ins := [⟨some 8, none, .faddr 1 (.t 4)⟩,
  ⟨some 9, none, .load 1 false (.t 8)⟩,
  ⟨some 10, none, .mov (.t 2)⟩,
  ⟨some 11, none, .call (.k (.func (.func 63) #[] #[])) [(.t 9), (.t 10)]⟩,
  ⟨some 7, none, .mov (.t 11)⟩]
def r55_2 : List Ins := [⟨some 12, none, .mov (.t 7)⟩,
  ⟨some 13, none, .bin .geq (.t 12) (.k (.int .i64 0))⟩,
  ⟨some 14, none, .mov (.t 13)⟩,
  ⟨some 15, some (14, true), .faddr 1 (.t 4)⟩,
  ⟨some 16, some (14, true), .load 1 false (.t 15)⟩,
  ⟨some 17, some (14, true), .mov (.t 7)⟩,
  ⟨some 18, some (14, true), .iaddr 21 (.t 16) (.t 17)⟩,
  ⟨some 19, some (14, true), .faddr 20 (.t 18)⟩,
  ⟨some 20, some (14, true), .load 1 false (.t 19)⟩,
  ⟨some 21, some (14, true), .len (.t 20)⟩,
  ⟨some 22, some (14, true), .bin .gtr (.t 21) (.k (.int .i64 0))⟩,
  ⟨some 23, none, .pick (.t 14) (.t 22) (.k (.bool false))⟩,
  ⟨some 24, none, .mov (.t 23)⟩,
  ⟨some 25, some (24, true), .mov (.t 0)⟩,
  ⟨some 26, some (24, true), .call (.k (.func (.func 32) #[] #[])) [(.t 25), (.k (.int .i64 8))]⟩,
  ⟨some 27, some (24, true), .bin .gtr (.t 26) (.k (.int .i64 0))⟩,
  ⟨some 28, none, .pick (.t 24) (.t 27) (.k (.bool false))⟩]
def r55_3 : List (Nat × Ins) := [(0, ⟨some 29, none, .faddr 1 (.t 4)⟩),
  (1, ⟨some 30, none, .load 1 false (.t 29)⟩),
  (0, ⟨some 31, none, .mov (.t 7)⟩),
  (0, ⟨some 32, none, .iaddr 21 (.t 30) (.t 31)⟩),
  (0, ⟨some 33, none, .faddr 20 (.t 32)⟩),
  (1, ⟨some 34, none, .load 1 false (.t 33)⟩),
  (0, ⟨some 35, none, .mov (.t 0)⟩),
  (0, ⟨some 36, none, .faddr 1 (.t 4)⟩),
  (0, ⟨some 37, none, .load 1 false (.t 36)⟩),
  (0, ⟨some 38, none, .mov (.t 7)⟩),
  (0, ⟨some 39, none, .iaddr 21 (.t 37) (.t 38)⟩),
  (0, ⟨some 40, none, .faddr 20 (.t 39)⟩),
  (0, ⟨some 41, none, .load 1 false (.t 40)⟩),
  (0, ⟨some 42, none, .len (.t 41)⟩),
  (2, ⟨some 43, none, .call (.k (.func (.func 32) #[] #[])) [(.t 35), (.t 42)]⟩),
  (0, ⟨some 44, none, .iaddr 2 (.t 34) (.t 43)⟩),
  (0, ⟨some 45, none, .faddr 0 (.t 44)⟩),
  (0, ⟨some 46, none, .load 1 false (.t 45)⟩),
  (0, ⟨some 6, none, .mov (.t 46)⟩)]
def r55_4 : List Ins := [⟨some 47, none, .mov (.t 0)⟩,
  ⟨some 48, none, .call (.k (.func (.func 32) #[] #[])) [(.t 47), (.k (.int .i64 6))]⟩,
  ⟨some 6, none, .mov (.t 48)⟩]
def x55 : XC := (.seq (.ops false r55_0) (.seq (.ops false r55_1) (.seq (.seq (.ops false r55_2) (.cond (.t 28) (.seq (.rops [0] r55_3) .ret) .skip)) (.seq (.ops false r55_4) .ret))))
theorem F55 : Fn Try.prog 55 49 x55.er [.t 6] := ⟨Try.f55, hcl, Try.func55, by kernel_rfl, by kernel_rfl, by kernel_rfl, by kernel_rfl⟩
noncomputable def m55 (a0 : DS8) (a1 : Int) (a2 : List Int) (a3 : Int) : Option (Int × (List Int) × Int × Unit) :=
  (m63 a0.2.1 a1).bind fun y439 =>
  cond (or (bnd y439.1 (lenI a0.2.1)) (not (bEq (iLe 0 y439.1) true)))
  (cond (cond (iLe 0 y439.1) (iLt 0 (lenI ((atI a0.2.1 y439.1 (0, 0, (0, 0, ()), [], [], 0, 0, 0, 0, 0, 0, 0, 0, 0, 0, [], false, 0, [], [], ())).2.2.2.2.2.2.2.2.2.2.2.2.2.2.2.2.2.2.2.1))) false)
   ((m32 8 a2 a3).bind fun y440 =>
    cond (iLt 0 y440.1)
    (cond (bnd y439.1 (lenI a0.2.1))
     (cond (bnd y439.1 (lenI a0.2.1))
      ((m32 (lenI ((atI a0.2.1 y439.1 (0, 0, (0, 0, ()), [], [], 0, 0, 0, 0, 0, 0, 0, 0, 0, 0, [], false, 0, [], [], ())).2.2.2.2.2.2.2.2.2.2.2.2.2.2.2.2.2.2.2.1)) y440.2.1 y440.2.2.1).bind fun y441 =>
       cond (bnd y441.1 (lenI ((atI a0.2.1 y439.1 (0, 0, (0, 0, ()), [], [], 0, 0, 0, 0, 0, 0, 0, 0, 0, 0, [], false, 0, [], [], ())).2.2.2.2.2.2.2.2.2.2.2.2.2.2.2.2.2.2.2.1)))
       (some ((atI ((atI a0.2.1 y439.1 (0, 0, (0, 0, ()), [], [], 0, 0, 0, 0, 0, 0, 0, 0, 0, 0, [], false, 0, [], [], ())).2.2.2.2.2.2.2.2.2.2.2.2.2.2.2.2.2.2.2.1) y441.1 (0, 0, ())).1, y441.2.1, y441.2.2.1, ())) none) none) none)
    ((m32 6 y440.2.1 y440.2.2.1).bind fun y442 =>
     some (y442.1, y442.2.1, y442.2.2.1, ())))
   ((m32 6 a2 a3).bind fun y443 =>
    some (y443.1, y443.2.1, y443.2.2.1, ()))) none
noncomputable def cfg55 : Cfg := ⟨ttab, gtab, [i63], [h32]⟩
def ish55 : Sh := ⟨3, [(1, tS8), (2, (.int .i64))], [(0, .ptr 0 0 0)], [.box 98 [.d (.list (.int .i64)), .d (.int .i64)]]⟩
def osh55 : Sh := ⟨1, [(0, (.int .i64))], [], [.box 98 [.d (.list (.int .i64)), .d (.int .i64)]]⟩
theorem eqn55 (x : DS8 × Int × (List Int) × Int × Unit) : xfunH cfg55 x55 49 [.t 6] [] ish55 osh55 x = m55 x.1 x.2.1 x.2.2.1 x.2.2.2.1 := by kernel_rfl
noncomputable def h55 : HI := ⟨55, ish55, osh55, fun (x : DS8 × Int × (List Int) × Int × Unit) => m55 x.1 x.2.1 x.2.2.1 x.2.2.2.1⟩
theorem okh55 : HOk Try.prog (gx gtab) h55 := hok mixed (cfg_p oki63 (cfg_h okh32 (cfg_nil _ _)) : CfgOk _ cfg55) F55 eqn55
/- 57 treaty/treatymade2.Changed -/
def r57_0 : List Ins := [⟨some 4, none, .mov (.k (.slice none 0 0))⟩]
def r57_1 : List Ins := [⟨some 9, none, .bslice 76 10 []⟩,
  ⟨some 10, none, .mov (.t 1)⟩,
  ⟨some 11, none, .app 76 10 80 (.t 9) (.t 10)⟩,
  ⟨some 5, none, .mov (.t 11)⟩]
def r57_2 : List Ins := [⟨some 12, none, .mov (.t 0)⟩,
  ⟨some 13, none, .call (.k (.func (.func 32) #[] #[])) [(.t 12), (.k (.int .i64 4))]⟩,
  ⟨some 6, none, .mov (.t 13)⟩]
def r57_3 : List Ins := [⟨some 14, none, .mov (.t 6)⟩,
  ⟨some 15, none, .bin .gtr (.t 14) (.k (.int .i64 0))⟩]
def r57_4 : List Ins := [⟨some 18, none, .mov (.t 5)⟩,
  ⟨some 19, none, .len (.t 18)⟩,
  ⟨some 20, none, .bin .eql (.t 19) (.k (.int .i64 0))⟩,
  ⟨some 21, none, .mov (.t 20)⟩,
  ⟨some 22, some (21, false), .mov (.t 0)⟩,
  ⟨some 23, some (21, false), .call (.k (.func (.func 32) #[] #[])) [(.t 22), (.k (.int .i64 5))]⟩,
  ⟨some 24, some (21, false), .bin .eql (.t 23) (.k (.int .i64 0))⟩,
  ⟨some 25, none, .pick (.t 21) (.k (.bool true)) (.t 24)⟩]
def r57_5 : List Ins := [⟨some 26, none, .mov (.t 5)⟩,
  ⟨some 27, none, .len (.t 26)⟩,
  ⟨some 28, none, .bin .lss (.t 27) (.k (.int .i64 12))⟩]
def r57_6 : List Ins := [⟨some 7, none, .mov (.k (.int .i64 1))⟩]
def r57_7 : List Ins := [⟨some 29, none, .mov (.t 5)⟩,
  ⟨some 30, none, .len (.t 29)⟩,
  ⟨some 31, none, .bin .gtr (.t 30) (.k (.int .i64 0))⟩]
def r57_8 : List Ins := [⟨some 32, none, .mov (.t 5)⟩,
  ⟨some 33, none, .mov (.t 5)⟩,
  ⟨some 34, none, .len (.t 33)⟩,
  ⟨some 35, none, .bin .sub (.t 34) (.k (.int .i64 1))⟩,
  ⟨some 36, none, .iaddr 10 (.t 32) (.t 35)⟩,
  ⟨some 37, none, .faddr 0 (.t 36)⟩,
  ⟨some 38, none, .load 1 false (.t 37)⟩,
  ⟨some 39, none, .bin .add (.t 38) (.k (.int .i64 1))⟩,
  ⟨some 7, none, .mov (.t 39)⟩]
def r57_9 : List Ins := [⟨some 40, none, .mov (.t 5)⟩,
  ⟨some 41, none, .mov (.t 7)⟩,
  ⟨some 42, none, .mov (.t 0)⟩,
  ⟨some 43, none, .call (.k (.func (.func 32) #[] #[])) [(.t 42), (.k (.int .i64 5))]⟩,
  ⟨some 44, none, .mov (.t 0)⟩,
  ⟨some 45, none, .call (.k (.func (.func 32) #[] #[])) [(.t 44), (.k (.int .i64 90))]⟩,
  ⟨some 46, none, .mov (.t 0)⟩,
  ⟨some 47, none, .call (.k (.func (.func 32) #[] #[])) [(.t 46), (.k (.int .i64 3))]⟩,
  ⟨some 48, none, .mov (.t 0)⟩,
  ⟨some 49, none, .call (.k (.func (.func 32) #[] #[])) [(.t 48), (.k (.int .i64 3))]⟩,
  ⟨some 50, none, .mov (.t 0)⟩,
  ⟨some 51, none, .call (.k (.func (.func 56) #[] #[])) [(.t 50)]⟩,
  ⟨some 52, none, .mov (.t 0)⟩,
  ⟨some 53, none, .call (.k (.func (.func 56) #[] #[])) [(.t 52)]⟩,
  ⟨some 54, none, .build [.int .i64 0, .int .i64 0, .int .i64 0, .int .i64 0, .int .i64 0, .int .i64 0, .int .i64 0, .int .i64 0, .int .i64 0, .int .i64 0] [(0, 1, (.t 41)), (2, 1, (.t 43)), (3, 1, (.t 45)), (4, 1, (.t 47)), (5, 1, (.t 49)), (7, 1, (.t 51)), (8, 1, (.t 53))]⟩,
  ⟨some 55, none, .bslice 76 10 [(.t 54)]⟩,
  ⟨some 56, none, .app 76 10 80 (.t 40) (.t 55)⟩,
  ⟨some 5, none, .mov (.t 56)⟩]
def r57_10 : List Ins := [⟨some 57, none, .mov (.t 0)⟩,
  ⟨some 58, none, .mov (.t 5)⟩,
  ⟨some 59, none, .len (.t 58)⟩,
  ⟨some 60, none, .call (.k (.func (.func 32) #[] #[])) [(.t 57), (.t 59)]⟩,
  ⟨some 8, none, .mov (.t 60)⟩]
def r57_11 : List Ins := [⟨some 61, none, .mov (.t 0)⟩,
  ⟨some 62, none, .call (.k (.func (.func 32) #[] #[])) [(.t 61), (.k (.int .i64 4))]⟩]
def r57_12 : List Ins := [⟨some 76, none, .bin .eql (.t 62) (.k (.int .i64 0))⟩,
  ⟨some 75, none, .mov (.t 76)⟩]
def r57_13 : List Ins := [⟨some 77, none, .mov (.t 5)⟩,
  ⟨some 78, none, .mov (.t 8)⟩,
  ⟨some 79, none, .mov (.t 8)⟩,
  ⟨some 80, none, .slice3 10 (.t 77) (.t 78) (.t 79)⟩,
  ⟨some 81, none, .mov (.t 5)⟩,
  ⟨some 82, none, .mov (.t 8)⟩,
  ⟨some 83, none, .bin .add (.t 82) (.k (.int .i64 1))⟩,
  ⟨some 84, none, .slice 10 (.t 81) (some (.t 83)) none⟩,
  ⟨some 85, none, .app 76 10 80 (.t 80) (.t 84)⟩,
  ⟨some 5, none, .mov (.t 85)⟩]
def r57_14 : List Ins := [⟨some 87, none, .bin .eql (.t 62) (.k (.int .i64 1))⟩,
  ⟨some 86, none, .mov (.t 87)⟩]
def r57_15 : List Ins := [⟨some 88, none, .mov (.t 5)⟩,
  ⟨some 89, none, .mov (.t 8)⟩,
  ⟨some 90, none, .mov (.t 0)⟩,
  ⟨some 91, none, .mov (.t 5)⟩,
  ⟨some 92, none, .mov (.t 8)⟩,
  ⟨some 93, none, .iaddr 10 (.t 91) (.t 92)⟩,
  ⟨some 94, none, .faddr 8 (.t 93)⟩,
  ⟨some 95, none, .load 1 false (.t 94)⟩,
  ⟨some 96, none, .bin .add (.t 95) (.k (.int .i64 1))⟩,
  ⟨some 97, none, .call (.k (.func (.func 32) #[] #[])) [(.t 90), (.t 96)]⟩,
  ⟨some 98, none, .iaddr 10 (.t 88) (.t 89)⟩,
  ⟨some 99, none, .faddr 9 (.t 98)⟩,
  ⟨none, none, .store 1 (.t 99) (.t 97)⟩]
def r57_16 : List (Nat × Ins) := [(0, ⟨some 63, none, .mov (.t 5)⟩),
  (0, ⟨some 64, none, .mov (.t 8)⟩),
  (0, ⟨some 65, none, .mov (.t 5)⟩),
  (0, ⟨some 66, none, .mov (.t 8)⟩),
  (0, ⟨some 67, none, .iaddr 10 (.t 65) (.t 66)⟩),
  (0, ⟨some 68, none, .faddr 9 (.t 67)⟩),
  (1, ⟨some 69, none, .load 1 false (.t 68)⟩),
  (0, ⟨some 70, none, .mov (.t 0)⟩),
  (2, ⟨some 71, none, .call (.k (.func (.func 56) #[] #[])) [(.t 70)]⟩),
  (0, ⟨some 72, none, .bin .add (.t 69) (.t 71)⟩),
  (0, ⟨some 73, none, .iaddr 10 (.t 63) (.t 64)⟩),
  (0, ⟨some 74, none, .faddr 8 (.t 73)⟩),
  (0, ⟨none, none, .store 1 (.t 74) (.t 72)⟩)]
def r57_17 : List Ins := [⟨some 16, none, .mov (.t 6)⟩,
  ⟨some 17, none, .bin .sub (.t 16) (.k (.int .i64 1))⟩,
  ⟨some 6, none, .mov (.t 17)⟩]
def r57_18 : List Ins := [⟨some 100, none, .mov (.t 5)⟩,
  ⟨some 4, none, .mov (.t 100)⟩]
def x57 : XC := (.seq (.ops false r57_0) (.seq (.ops false r57_1) (.seq (.seq (.ops false r57_2) (.block 0 (.loop [.tr 5] ⟨101, [(6, (.int .i64))], [(0, .ptr 0 0 0), (5, .row 1)], [.box 98 [.d (.list (.int .i64)), .d (.int .i64)], .row 76 tS0 false]⟩ (.seq (.seq (.ops false r57_3) (.cond (.t 15) .skip (.exit 0))) (.seq (.block 1 (.seq (.seq (.ops false r57_4) (.cond (.t 25) (.seq (.seq (.ops false r57_5) (.cond (.t 28) (.seq (.ops false r57_6) (.seqj [] ⟨101, [(6, (.int .i64)), (7, (.int .i64))], [(0, .ptr 0 0 0), (5, .row 1)], [.box 98 [.d (.list (.int .i64)), .d (.int .i64)], .row 76 tS0 false]⟩ (.seq (.ops false r57_7) (.cond (.t 31) (.ops false r57_8) .skip)) (.ops false r57_9))) .skip)) (.exit 1)) .skip)) (.seq (.ops false r57_10) (.seq (.ops false r57_11) (.block 2 (.seq (.ops false r57_12) (.cond (.t 75) (.ops true r57_13) (.seq (.ops false r57_14) (.cond (.t 86) (.ops false r57_15) (.rops [0] r57_16)))))))))) (.ops false r57_17)))))) (.seq (.ops false r57_18) .ret))))
theorem F57 : Fn Try.prog 57 101 x57.er [.t 4] := ⟨Try.f57, hcl, Try.func57, by kernel_rfl, by kernel_rfl, by kernel_rfl, by kernel_rfl⟩
noncomputable def m57 (a0 : List DS0) (a1 : List Int) (a2 : Int) : Option ((List DS0) × (List Int) × Int × Unit) :=
  cond (fits (List.length ([] : List DS0) + List.length a0) 80)
  ((m32 4 a1 a2).bind fun y472 =>
   loopO (S := Int × (List Int) × Int × (List DS0) × Unit) (R := (List DS0) × (List Int) × Int × Unit) (fun s473 =>
    cond (iLt 0 s473.1)
    (cond (iEq (lenI s473.2.2.2.1) 0)
     (cond (iLt (lenI s473.2.2.2.1) 12)
      (joinO (S := Int × Int × (List Int) × Int × (List DS0) × Unit) (R := (Int × (List Int) × Int × (List DS0) × Unit) ⊕ ((List DS0) × (List Int) × Int × Unit))
       (cond (iLt 0 (lenI s473.2.2.2.1))
        (cond (bnd (iSub .i64 (lenI s473.2.2.2.1) 1) (lenI s473.2.2.2.1))
         (cond (inB (Int.toNat (iSub .i64 (lenI s473.2.2.2.1) 1)) s473.2.2.2.1)
          (some (.inl (s473.1, iAdd .i64 ((List.getD s473.2.2.2.1 (Int.toNat (iSub .i64 (lenI s473.2.2.2.1) 1)) (0, 0, 0, 0, 0, 0, 0, 0, 0, 0, ())).1) 1, s473.2.1, s473.2.2.1, s473.2.2.2.1, ()))) none) none)
        (some (.inl (s473.1, 1, s473.2.1, s473.2.2.1, s473.2.2.2.1, ()))))
       (fun j474 =>
        (m32 5 j474.2.2.1 j474.2.2.2.1).bind fun y475 =>
        (m32 90 y475.2.1 y475.2.2.1).bind fun y476 =>
        (m32 3 y476.2.1 y476.2.2.1).bind fun y477 =>
        (m32 3 y477.2.1 y477.2.2.1).bind fun y478 =>
        (m56 y478.2.1 y478.2.2.1).bind fun y479 =>
        (m56 y479.2.1 y479.2.2.1).bind fun y480 =>
        cond (fits (List.length j474.2.2.2.2.1 + List.length ([(j474.2.1, 0, y475.1, y476.1, y477.1, y478.1, 0, y479.1, y480.1, 0, ())] : List DS0)) 80)
        (some (.inl (iSub .i64 j474.1 1, y480.2.1, y480.2.2.1, j474.2.2.2.2.1 ++ ([(j474.2.1, 0, y475.1, y476.1, y477.1, y478.1, 0, y479.1, y480.1, 0, ())] : List DS0), ()))) none))
      (some (.inl (iSub .i64 s473.1 1, s473.2.1, s473.2.2.1, s473.2.2.2.1, ()))))
     ((m32 5 s473.2.1 s473.2.2.1).bind fun y481 =>
      cond (iEq y481.1 0)
      (cond (iLt (lenI s473.2.2.2.1) 12)
       (joinO (S := Int × Int × (List Int) × Int × (List DS0) × Unit) (R := (Int × (List Int) × Int × (List DS0) × Unit) ⊕ ((List DS0) × (List Int) × Int × Unit))
        (cond (iLt 0 (lenI s473.2.2.2.1))
         (cond (bnd (iSub .i64 (lenI s473.2.2.2.1) 1) (lenI s473.2.2.2.1))
          (cond (inB (Int.toNat (iSub .i64 (lenI s473.2.2.2.1) 1)) s473.2.2.2.1)
           (some (.inl (s473.1, iAdd .i64 ((List.getD s473.2.2.2.1 (Int.toNat (iSub .i64 (lenI s473.2.2.2.1) 1)) (0, 0, 0, 0, 0, 0, 0, 0, 0, 0, ())).1) 1, y481.2.1, y481.2.2.1, s473.2.2.2.1, ()))) none) none)
         (some (.inl (s473.1, 1, y481.2.1, y481.2.2.1, s473.2.2.2.1, ()))))
        (fun j482 =>
         (m32 5 j482.2.2.1 j482.2.2.2.1).bind fun y483 =>
         (m32 90 y483.2.1 y483.2.2.1).bind fun y484 =>
         (m32 3 y484.2.1 y484.2.2.1).bind fun y485 =>
         (m32 3 y485.2.1 y485.2.2.1).bind fun y486 =>
         (m56 y486.2.1 y486.2.2.1).bind fun y487 =>
         (m56 y487.2.1 y487.2.2.1).bind fun y488 =>
         cond (fits (List.length j482.2.2.2.2.1 + List.length ([(j482.2.1, 0, y483.1, y484.1, y485.1, y486.1, 0, y487.1, y488.1, 0, ())] : List DS0)) 80)
         (some (.inl (iSub .i64 j482.1 1, y488.2.1, y488.2.2.1, j482.2.2.2.2.1 ++ ([(j482.2.1, 0, y483.1, y484.1, y485.1, y486.1, 0, y487.1, y488.1, 0, ())] : List DS0), ()))) none))
       (some (.inl (iSub .i64 s473.1 1, y481.2.1, y481.2.2.1, s473.2.2.2.1, ()))))
      ((m32 (lenI s473.2.2.2.1) y481.2.1 y481.2.2.1).bind fun y489 =>
       (m32 4 y489.2.1 y489.2.2.1).bind fun y490 =>
       cond (iEq y490.1 0)
       (cond (and (cutOk 0 y489.1 (List.length s473.2.2.2.1)) (iEq y489.1 y489.1))
        (cond (cutOk (iAdd .i64 y489.1 1) ((List.length s473.2.2.2.1 : Nat) : Int) (List.length s473.2.2.2.1))
         (cond (someE (List.take (Int.toNat (((List.length s473.2.2.2.1 : Nat) : Int) - (iAdd .i64 y489.1 1))) (List.drop (Int.toNat (iAdd .i64 y489.1 1)) s473.2.2.2.1)))
          (cond (fits ((Int.toNat y489.1) + List.length (List.take (Int.toNat (((List.length s473.2.2.2.1 : Nat) : Int) - (iAdd .i64 y489.1 1))) (List.drop (Int.toNat (iAdd .i64 y489.1 1)) s473.2.2.2.1))) 80)
           (some (.inl (iSub .i64 s473.1 1, y490.2.1, y490.2.2.1, (List.take (Int.toNat y489.1) s473.2.2.2.1) ++ (List.take (Int.toNat (((List.length s473.2.2.2.1 : Nat) : Int) - (iAdd .i64 y489.1 1))) (List.drop (Int.toNat (iAdd .i64 y489.1 1)) s473.2.2.2.1)), ()))) none)
          (some (.inl (iSub .i64 s473.1 1, y490.2.1, y490.2.2.1, List.take (Int.toNat y489.1) s473.2.2.2.1, ())))) none) none)
       (cond (iEq y490.1 1)
        (cond (bnd y489.1 (lenI s473.2.2.2.1))
         (cond (inB (Int.toNat y489.1) s473.2.2.2.1)
          ((m32 (iAdd .i64 ((List.getD s473.2.2.2.1 (Int.toNat y489.1) (0, 0, 0, 0, 0, 0, 0, 0, 0, 0, ())).2.2.2.2.2.2.2.2.1) 1) y490.2.1 y490.2.2.1).bind fun y491 =>
           cond (bnd y489.1 (lenI s473.2.2.2.1))
           (cond (inB (Int.toNat y489.1) s473.2.2.2.1)
            (some (.inl (iSub .i64 s473.1 1, y491.2.1, y491.2.2.1, List.set s473.2.2.2.1 (Int.toNat y489.1) ((List.getD s473.2.2.2.1 (Int.toNat y489.1) (0, 0, 0, 0, 0, 0, 0, 0, 0, 0, ())).1, (List.getD s473.2.2.2.1 (Int.toNat y489.1) (0, 0, 0, 0, 0, 0, 0, 0, 0, 0, ())).2.1, (List.getD s473.2.2.2.1 (Int.toNat y489.1) (0, 0, 0, 0, 0, 0, 0, 0, 0, 0, ())).2.2.1, (List.getD s473.2.2.2.1 (Int.toNat y489.1) (0, 0, 0, 0, 0, 0, 0, 0, 0, 0, ())).2.2.2.1, (List.getD s473.2.2.2.1 (Int.toNat y489.1) (0, 0, 0, 0, 0, 0, 0, 0, 0, 0, ())).2.2.2.2.1, (List.getD s473.2.2.2.1 (Int.toNat y489.1) (0, 0, 0, 0, 0, 0, 0, 0, 0, 0, ())).2.2.2.2.2.1, (List.getD s473.2.2.2.1 (Int.toNat y489.1) (0, 0, 0, 0, 0, 0, 0, 0, 0, 0, ())).2.2.2.2.2.2.1, (List.getD s473.2.2.2.1 (Int.toNat y489.1) (0, 0, 0, 0, 0, 0, 0, 0, 0, 0, ())).2.2.2.2.2.2.2.1, (List.getD s473.2.2.2.1 (Int.toNat y489.1) (0, 0, 0, 0, 0, 0, 0, 0, 0, 0, ())).2.2.2.2.2.2.2.2.1, y491.1, ()), ()))) none) none) none) none)
        (cond (bnd y489.1 (lenI s473.2.2.2.1))
         (cond (inB (Int.toNat y489.1) s473.2.2.2.1)
          ((m56 y490.2.1 y490.2.2.1).bind fun y492 =>
           cond (bnd y489.1 (lenI s473.2.2.2.1))
           (cond (inB (Int.toNat y489.1) s473.2.2.2.1)
            (some (.inl (iSub .i64 s473.1 1, y492.2.1, y492.2.2.1, List.set s473.2.2.2.1 (Int.toNat y489.1) ((List.getD s473.2.2.2.1 (Int.toNat y489.1) (0, 0, 0, 0, 0, 0, 0, 0, 0, 0, ())).1, (List.getD s473.2.2.2.1 (Int.toNat y489.1) (0, 0, 0, 0, 0, 0, 0, 0, 0, 0, ())).2.1, (List.getD s473.2.2.2.1 (Int.toNat y489.1) (0, 0, 0, 0, 0, 0, 0, 0, 0, 0, ())).2.2.1, (List.getD s473.2.2.2.1 (Int.toNat y489.1) (0, 0, 0, 0, 0, 0, 0, 0, 0, 0, ())).2.2.2.1, (List.getD s473.2.2.2.1 (Int.toNat y489.1) (0, 0, 0, 0, 0, 0, 0, 0, 0, 0, ())).2.2.2.2.1, (List.getD s473.2.2.2.1 (Int.toNat y489.1) (0, 0, 0, 0, 0, 0, 0, 0, 0, 0, ())).2.2.2.2.2.1, (List.getD s473.2.2.2.1 (Int.toNat y489.1) (0, 0, 0, 0, 0, 0, 0, 0, 0, 0, ())).2.2.2.2.2.2.1, (List.getD s473.2.2.2.1 (Int.toNat y489.1) (0, 0, 0, 0, 0, 0, 0, 0, 0, 0, ())).2.2.2.2.2.2.2.1, iAdd .i64 ((List.getD s473.2.2.2.1 (Int.toNat y489.1) (0, 0, 0, 0, 0, 0, 0, 0, 0, 0, ())).2.2.2.2.2.2.2.2.2.1) y492.1, (List.getD s473.2.2.2.1 (Int.toNat y489.1) (0, 0, 0, 0, 0, 0, 0, 0, 0, 0, ())).2.2.2.2.2.2.2.2.2.1, ()), ()))) none) none) none) none)))))
    (some (.inr (s473.2.2.2.1, s473.2.1, s473.2.2.1, ()))))
   (y472.1, y472.2.1, y472.2.2.1, ([] : List DS0) ++ a0, ())) none
noncomputable def cfg57 : Cfg := ⟨ttab, gtab, [], [h32, h56]⟩
def ish57 : Sh := ⟨2, [(1, (.list tS0))], [(0, .ptr 0 0 0)], [.box 98 [.d (.list (.int .i64)), .d (.int .i64)]]⟩
def osh57 : Sh := ⟨1, [(0, (.list tS0))], [], [.box 98 [.d (.list (.int .i64)), .d (.int .i64)]]⟩
theorem eqn57 (x : (List DS0) × (List Int) × Int × Unit) : xfunH cfg57 x57 101 [.t 4] [.fz 4 (.list tS0)] ish57 osh57 x = m57 x.1 x.2.1 x.2.2.1 := by kernel_rfl
noncomputable def h57 : HI := ⟨57, ish57, osh57, fun (x : (List DS0) × (List Int) × Int × Unit) => m57 x.1 x.2.1 x.2.2.1⟩
theorem okh57 : HOk Try.prog (gx gtab) h57 := hok mixed (cfg_h okh32 (cfg_h okh56 (cfg_nil _ _)) : CfgOk _ cfg57) F57 eqn57
/- 36 treaty/treatymade2.Command -/
def r36_0 : List Ins := [⟨some 4, none, .box 70 4 (.t 1)⟩,
  ⟨some 6, none, .alloc 38 (.agg #[.int .i64 0, .slice none 0 0, .int .i64 0, .int .i64 0, .int .i64 0, .int .i64 0])⟩]
def r36_1 : List Ins := [⟨some 10, none, .mov (.t 0)⟩,
  ⟨some 11, none, .call (.k (.func (.func 32) #[] #[])) [(.t 10), (.k (.int .i64 8))]⟩]
def r36_2 : List Ins := [⟨some 13, none, .bin .eql (.t 11) (.k (.int .i64 0))⟩,
  ⟨some 12, none, .mov (.t 13)⟩]
def r36_3 : List Ins := [⟨some 14, none, .build [.int .i64 0, .slice none 0 0, .int .i64 0, .int .i64 0, .int .i64 0, .int .i64 0] [(0, 1, (.k (.int .i64 2)))]⟩,
  ⟨none, none, .store 6 (.t 6) (.t 14)⟩]
def r36_4 : List Ins := [⟨some 16, none, .bin .eql (.t 11) (.k (.int .i64 1))⟩,
  ⟨some 15, none, .mov (.t 16)⟩]
def r36_5 : List Ins := [⟨some 17, none, .mov (.t 0)⟩,
  ⟨some 18, none, .load 4 true (.t 4)⟩,
  ⟨some 19, none, .call (.k (.func (.func 54) #[] #[])) [(.t 17), (.t 18)]⟩,
  ⟨some 20, none, .build [.int .i64 0, .slice none 0 0, .int .i64 0, .int .i64 0, .int .i64 0, .int .i64 0] [(0, 1, (.k (.int .i64 3))), (2, 1, (.t 19))]⟩,
  ⟨some 7, none, .alloc 38 (.agg #[.int .i64 0, .slice none 0 0, .int .i64 0, .int .i64 0, .int .i64 0, .int .i64 0])⟩,
  ⟨none, none, .store 6 (.t 7) (.t 20)⟩]
def r36_6 : List Ins := [⟨some 21, none, .mov (.t 0)⟩,
  ⟨some 22, none, .load 4 true (.t 4)⟩,
  ⟨some 23, none, .faddr 2 (.t 7)⟩,
  ⟨some 24, none, .load 1 false (.t 23)⟩,
  ⟨some 25, none, .call (.k (.func (.func 55) #[] #[])) [(.t 21), (.t 22), (.t 24)]⟩,
  ⟨some 26, none, .faddr 4 (.t 7)⟩,
  ⟨none, none, .store 1 (.t 26) (.t 25)⟩]
def r36_7 : List Ins := [⟨some 27, none, .load 6 true (.t 7)⟩,
  ⟨none, none, .store 6 (.t 6) (.t 27)⟩]
def r36_8 : List Ins := [⟨some 29, none, .bin .eql (.t 11) (.k (.int .i64 2))⟩,
  ⟨some 28, none, .mov (.t 29)⟩]
def r36_9 : List Ins := [⟨some 30, none, .mov (.t 0)⟩,
  ⟨some 31, none, .load 4 true (.t 4)⟩,
  ⟨some 32, none, .call (.k (.func (.func 54) #[] #[])) [(.t 30), (.t 31)]⟩,
  ⟨some 33, none, .mov (.t 0)⟩,
  ⟨some 34, none, .call (.k (.func (.func 56) #[] #[])) [(.t 33)]⟩,
  ⟨some 35, none, .build [.int .i64 0, .slice none 0 0, .int .i64 0, .int .i64 0, .int .i64 0, .int .i64 0] [(0, 1, (.k (.int .i64 4))), (2, 1, (.t 32)), (5, 1, (.t 34))]⟩,
  ⟨some 8, none, .alloc 38 (.agg #[.int .i64 0, .slice none 0 0, .int .i64 0, .int .i64 0, .int .i64 0, .int .i64 0])⟩,
  ⟨none, none, .store 6 (.t 8) (.t 35)⟩]
def r36_10 : List Ins := [⟨some 36, none, .mov (.t 0)⟩,
  ⟨some 37, none, .load 4 true (.t 4)⟩,
  ⟨some 38, none, .faddr 2 (.t 8)⟩,
  ⟨some 39, none, .load 1 false (.t 38)⟩,
  ⟨some 40, none, .call (.k (.func (.func 55) #[] #[])) [(.t 36), (.t 37), (.t 39)]⟩,
  ⟨some 41, none, .faddr 4 (.t 8)⟩,
  ⟨none, none, .store 1 (.t 41) (.t 40)⟩]
def r36_11 : List Ins := [⟨some 42, none, .load 6 true (.t 8)⟩,
  ⟨none, none, .store 6 (.t 6) (.t 42)⟩]
def r36_12 : List Ins := [⟨some 44, none, .bin .eql (.t 11) (.k (.int .i64 3))⟩,
  ⟨some 43, none, .mov (.t 44)⟩]
def r36_13 : List Ins := [⟨some 45, none, .mov (.t 0)⟩,
  ⟨some 46, none, .load 4 true (.t 4)⟩,
  ⟨some 47, none, .call (.k (.func (.func 54) #[] #[])) [(.t 45), (.t 46)]⟩,
  ⟨some 48, none, .build [.int .i64 0, .slice none 0 0, .int .i64 0, .int .i64 0, .int .i64 0, .int .i64 0] [(0, 1, (.k (.int .i64 5))), (2, 1, (.t 47))]⟩,
  ⟨some 9, none, .alloc 38 (.agg #[.int .i64 0, .slice none 0 0, .int .i64 0, .int .i64 0, .int .i64 0, .int .i64 0])⟩,
  ⟨none, none, .store 6 (.t 9) (.t 48)⟩]
def r36_14 : List Ins := [⟨some 49, none, .mov (.t 0)⟩,
  ⟨some 50, none, .load 4 true (.t 4)⟩,
  ⟨some 51, none, .call (.k (.func (.func 54) #[] #[])) [(.t 49), (.t 50)]⟩,
  ⟨some 52, none, .faddr 3 (.t 9)⟩,
  ⟨none, none, .store 1 (.t 52) (.t 51)⟩]
def r36_15 : List Ins := [⟨some 53, none, .load 6 true (.t 9)⟩,
  ⟨none, none, .store 6 (.t 6) (.t 53)⟩]
def r36_16 : List Ins := [⟨some 55, none, .bin .eql (.t 11) (.k (.int .i64 4))⟩,
  ⟨some 54, none, .mov (.t 55)⟩]
def r36_17 : List Ins := [⟨some 56, none, .mov (.t 0)⟩,
  ⟨some 57, none, .call (.k (.func (.func 38) #[] #[])) [(.t 56), (.k (.int .i64 5))]⟩,
  ⟨some 58, none, .build [.int .i64 0, .slice none 0 0, .int .i64 0, .int .i64 0, .int .i64 0, .int .i64 0] [(0, 1, (.k (.int .i64 1))), (1, 1, (.t 57))]⟩,
  ⟨none, none, .store 6 (.t 6) (.t 58)⟩]
def r36_18 : List Ins := [⟨some 59, none, .mov (.t 0)⟩,
  ⟨some 60, none, .mov (.t 2)⟩,
  ⟨some 61, none, .call (.k (.func (.func 57) #[] #[])) [(.t 59), (.t 60)]⟩,
  ⟨some 62, none, .build [.int .i64 0, .slice none 0 0, .int .i64 0, .int .i64 0, .int .i64 0, .int .i64 0] [(0, 1, (.k (.int .i64 1))), (1, 1, (.t 61))]⟩,
  ⟨none, none, .store 6 (.t 6) (.t 62)⟩]
def x36 : XC := (.seq (.ops false r36_0) (.seq (.seq (.ops false r36_1) (.block 0 (.seq (.ops false r36_2) (.cond (.t 12) (.seq (.ops false r36_3) .ret) (.seq (.ops false r36_4) (.cond (.t 15) (.seq (.ops false r36_5) (.seq (.ops false r36_6) (.seq (.ops false r36_7) .ret))) (.seq (.ops false r36_8) (.cond (.t 28) (.seq (.ops false r36_9) (.seq (.ops false r36_10) (.seq (.ops false r36_11) .ret))) (.seq (.ops false r36_12) (.cond (.t 43) (.seq (.ops false r36_13) (.seq (.ops false r36_14) (.seq (.ops false r36_15) .ret))) (.seq (.ops false r36_16) (.cond (.t 54) (.seq (.ops false r36_17) .ret) .skip)))))))))))) (.seq (.ops false r36_18) .ret)))
theorem F36 : Fn Try.prog 36 63 x36.er [.c 6 6 true] := ⟨Try.f36, hcl, Try.func36, by kernel_rfl, by kernel_rfl, by kernel_rfl, by kernel_rfl⟩
noncomputable def m36 (a0 : DS8) (a1 : List DS0) (a2 : List Int) (a3 : Int) : Option (Int × (List DS0) × Int × Int × Int × Int × (List Int) × Int × Unit) :=
  (m32 8 a2 a3).bind fun y494 =>
  cond (iEq y494.1 0)
  (some (2, ([] : List DS0), 0, 0, 0, 0, y494.2.1, y494.2.2.1, ()))
  (cond (iEq y494.1 1)
   ((m54 (a0.1, a0.2.1, a0.2.2.1, a0.2.2.2.1, ()) y494.2.1 y494.2.2.1).bind fun y495 =>
    (m55 (a0.1, a0.2.1, a0.2.2.1, a0.2.2.2.1, ()) y495.1 y495.2.1 y495.2.2.1).bind fun y496 =>
    some (3, ([] : List DS0), y495.1, 0, y496.1, 0, y496.2.1, y496.2.2.1, ()))
   (cond (iEq y494.1 2)
    ((m54 (a0.1, a0.2.1, a0.2.2.1, a0.2.2.2.1, ()) y494.2.1 y494.2.2.1).bind fun y497 =>
     (m56 y497.2.1 y497.2.2.1).bind fun y498 =>
     (m55 (a0.1, a0.2.1, a0.2.2.1, a0.2.2.2.1, ()) y497.1 y498.2.1 y498.2.2.1).bind fun y499 =>
     some (4, ([] : List DS0), y497.1, 0, y499.1, y498.1, y499.2.1, y499.2.2.1, ()))
    (cond (iEq y494.1 3)
     ((m54 (a0.1, a0.2.1, a0.2.2.1, a0.2.2.2.1, ()) y494.2.1 y494.2.2.1).bind fun y500 =>
      (m54 (a0.1, a0.2.1, a0.2.2.1, a0.2.2.2.1, ()) y500.2.1 y500.2.2.1).bind fun y501 =>
      some (5, ([] : List DS0), y500.1, y501.1, 0, 0, y501.2.1, y501.2.2.1, ()))
     (cond (iEq y494.1 4)
      ((m38 5 y494.2.1 y494.2.2.1).bind fun y502 =>
       some (1, y502.1, 0, 0, 0, 0, y502.2.1, y502.2.2.1, ()))
      ((m57 a1 y494.2.1 y494.2.2.1).bind fun y503 =>
       some (1, y503.1, 0, 0, 0, 0, y503.2.1, y503.2.2.1, ()))))))
noncomputable def cfg36 : Cfg := ⟨ttab, gtab, [], [h32, h38, h54, h55, h56, h57]⟩
def ish36 : Sh := ⟨3, [(1, tS8), (2, (.list tS0))], [(0, .ptr 0 0 0)], [.box 98 [.d (.list (.int .i64)), .d (.int .i64)]]⟩
def osh36 : Sh := ⟨1, [], [(0, .agg [.d (.int .i64), .d (.list tS0), .d (.int .i64), .d (.int .i64), .d (.int .i64), .d (.int .i64)])], [.box 98 [.d (.list (.int .i64)), .d (.int .i64)]]⟩
theorem eqn36 (x : DS8 × (List DS0) × (List Int) × Int × Unit) : xfunH cfg36 x36 63 [.c 6 6 true] [] ish36 osh36 x = m36 x.1 x.2.1 x.2.2.1 x.2.2.2.1 := by kernel_rfl
noncomputable def h36 : HI := ⟨36, ish36, osh36, fun (x : DS8 × (List DS0) × (List Int) × Int × Unit) => m36 x.1 x.2.1 x.2.2.1 x.2.2.2.1⟩
theorem okh36 : HOk Try.prog (gx gtab) h36 := hok mixed (cfg_h okh32 (cfg_h okh38 (cfg_h okh54 (cfg_h okh55 (cfg_h okh56 (cfg_h okh57 (cfg_nil _ _)))))) : CfgOk _ cfg36) F36 eqn36
/- 18 treaty/treatylaw40.command -/
def r18_0 : List Ins := [⟨some 2, none, .alloc 38 (.agg #[.int .i64 0, .slice none 0 0, .int .i64 0, .int .i64 0, .int .i64 0, .int .i64 0])⟩]
def r18_1 : List Ins := [⟨some 3, none, .mov (.t 0)⟩,
  ⟨some 4, none, .mov (.t 0)⟩,
  ⟨some 5, none, .call (.k (.func (.func 37) #[] #[])) [(.t 4), (.k (.int .i64 3))]⟩,
  ⟨some 6, none, .build [.int .i64 0, .slice none 0 0, .slice none 0 0, .slice none 0 0] [(1, 1, (.t 5))]⟩,
  ⟨some 7, none, .mov (.t 0)⟩,
  ⟨some 8, none, .call (.k (.func (.func 38) #[] #[])) [(.t 7), (.k (.int .i64 4))]⟩,
  ⟨some 9, none, .call (.k (.func (.func 36) #[] #[])) [(.t 3), (.t 6), (.t 8)]⟩,
  ⟨none, none, .store 6 (.t 2) (.t 9)⟩]
def x18 : XC := (.seq (.ops false r18_0) (.seq (.ops false r18_1) .ret))
theorem F18 : Fn Try.prog 18 10 x18.er [.c 2 6 true] := ⟨Try.f18, hcl, Try.func18, by kernel_rfl, by kernel_rfl, by kernel_rfl, by kernel_rfl⟩
noncomputable def m18 (a0 : List Int) (a1 : Int) : Option (Int × (List DS0) × Int × Int × Int × Int × (List Int) × Int × Unit) :=
  (m37 3 a0 a1).bind fun y505 =>
  (m38 4 y505.2.1 y505.2.2.1).bind fun y506 =>
  (m36 (0, y505.1, ([] : List DS2), ([] : List DS4), ()) y506.1 y506.2.1 y506.2.2.1).bind fun y507 =>
  some (y507.1, y507.2.1, y507.2.2.1, y507.2.2.2.1, y507.2.2.2.2.1, y507.2.2.2.2.2.1, y507.2.2.2.2.2.2.1, y507.2.2.2.2.2.2.2.1, ())
noncomputable def cfg18 : Cfg := ⟨ttab, gtab, [], [h36, h37, h38]⟩
def ish18 : Sh := ⟨1, [], [(0, .ptr 0 0 0)], [.box 98 [.d (.list (.int .i64)), .d (.int .i64)]]⟩
def osh18 : Sh := ⟨1, [], [(0, .agg [.d (.int .i64), .d (.list tS0), .d (.int .i64), .d (.int .i64), .d (.int .i64), .d (.int .i64)])], [.box 98 [.d (.list (.int .i64)), .d (.int .i64)]]⟩
theorem eqn18 (x : (List Int) × Int × Unit) : xfunH cfg18 x18 10 [.c 2 6 true] [] ish18 osh18 x = m18 x.1 x.2.1 := by kernel_rfl
noncomputable def h18 : HI := ⟨18, ish18, osh18, fun (x : (List Int) × Int × Unit) => m18 x.1 x.2.1⟩
theorem okh18 : HOk Try.prog (gx gtab) h18 := hok mixed (cfg_h okh36 (cfg_h okh37 (cfg_h okh38 (cfg_nil _ _))) : CfgOk _ cfg18) F18 eqn18
/- 61 treaty/treatyref40.fields -/
def r61_0 : List Ins := [⟨some 1, none, .box 76 10 (.t 0)⟩,
  ⟨some 2, none, .mov (.k (.slice none 0 0))⟩]
def r61_1 : List Ins := [⟨some 3, none, .faddr 0 (.t 1)⟩,
  ⟨some 4, none, .load 1 false (.t 3)⟩,
  ⟨some 5, none, .faddr 1 (.t 1)⟩,
  ⟨some 6, none, .load 1 false (.t 5)⟩,
  ⟨some 7, none, .faddr 2 (.t 1)⟩,
  ⟨some 8, none, .load 1 false (.t 7)⟩,
  ⟨some 9, none, .faddr 3 (.t 1)⟩,
  ⟨some 10, none, .load 1 false (.t 9)⟩,
  ⟨some 11, none, .faddr 4 (.t 1)⟩,
  ⟨some 12, none, .load 1 false (.t 11)⟩,
  ⟨some 13, none, .faddr 5 (.t 1)⟩,
  ⟨some 14, none, .load 1 false (.t 13)⟩,
  ⟨some 15, none, .faddr 6 (.t 1)⟩,
  ⟨some 16, none, .load 1 false (.t 15)⟩,
  ⟨some 17, none, .faddr 7 (.t 1)⟩,
  ⟨some 18, none, .load 1 false (.t 17)⟩,
  ⟨some 19, none, .faddr 8 (.t 1)⟩,
  ⟨some 20, none, .load 1 false (.t 19)⟩,
  ⟨some 21, none, .faddr 9 (.t 1)⟩,
  ⟨some 22, none, .load 1 false (.t 21)⟩,
  ⟨some 23, none, .bslice 3 1 [(.t 4), (.t 6), (.t 8), (.t 10), (.t 12), (.t 14), (.t 16), (.t 18), (.t 20), (.t 22)]⟩,
  ⟨some 2, none, .mov (.t 23)⟩]
def x61 : XC := (.seq (.ops false r61_0) (.seq (.ops false r61_1) .ret))
theorem F61 : Fn Try.prog 61 24 x61.er [.t 2] := ⟨Try.f61, hcl, Try.func61, by kernel_rfl, by kernel_rfl, by kernel_rfl, by kernel_rfl⟩
noncomputable def m61 (a0 : DS0) : Option ((List Int) × Unit) :=
  some (([a0.1, a0.2.1, a0.2.2.1, a0.2.2.2.1, a0.2.2.2.2.1, a0.2.2.2.2.2.1, a0.2.2.2.2.2.2.1, a0.2.2.2.2.2.2.2.1, a0.2.2.2.2.2.2.2.2.1, a0.2.2.2.2.2.2.2.2.2.1] : List Int), ())
noncomputable def cfg61 : Cfg := ⟨ttab, gtab, [], []⟩
theorem eqn61 (x : DS0 × Unit) : xfun cfg61 x61 24 [.t 2] [tS0] [(.list (.int .i64))] x = m61 x.1 := by kernel_rfl
noncomputable def i61 : PI := ⟨61, [tS0], [(.list (.int .i64))], fun (x : DS0 × Unit) => m61 x.1⟩
theorem oki61 : POk Try.prog (gx gtab) i61 := pok mixed (cfg_nil _ _ : CfgOk _ cfg61) F61 eqn61
/- 42 treaty/treatyref40.numbers -/
def r42_0 : List Ins := [⟨some 1, none, .box 38 6 (.t 0)⟩,
  ⟨some 2, none, .mov (.k (.slice none 0 0))⟩,
  ⟨some 3, none, .mov (.k (.bool false))⟩,
  ⟨some 4, none, .mov (.k (.bool false))⟩]
def r42_1 : List Ins := [⟨some 5, none, .mov (.k (.slice none 0 0))⟩]
def r42_2 : List Ins := [⟨some 10, none, .load 6 true (.t 1)⟩,
  ⟨some 6, none, .alloc 38 (.agg #[.int .i64 0, .slice none 0 0, .int .i64 0, .int .i64 0, .int .i64 0, .int .i64 0])⟩,
  ⟨none, none, .store 6 (.t 6) (.t 10)⟩]
def r42_3 : List Ins := [⟨some 11, none, .faddr 0 (.t 6)⟩,
  ⟨none, none, .store 1 (.t 11) (.k (.int .i64 0))⟩,
  ⟨some 12, none, .faddr 1 (.t 6)⟩,
  ⟨none, none, .store 1 (.t 12) (.k (.slice none 0 0))⟩]
def r42_4 : List Ins := [⟨some 13, none, .faddr 0 (.t 1)⟩,
  ⟨some 14, none, .load 1 false (.t 13)⟩]
def r42_5 : List Ins := [⟨some 16, none, .bin .eql (.t 14) (.k (.int .i64 1))⟩,
  ⟨some 15, none, .mov (.t 16)⟩]
def r42_6 : List Ins := [⟨some 17, none, .faddr 1 (.t 1)⟩,
  ⟨some 18, none, .load 1 false (.t 17)⟩,
  ⟨some 19, none, .len (.t 18)⟩,
  ⟨some 20, none, .bslice 3 1 [(.t 19)]⟩,
  ⟨some 5, none, .mov (.t 20)⟩]
def r42_7 : List Ins := [⟨some 21, none, .faddr 1 (.t 1)⟩,
  ⟨some 22, none, .load 1 false (.t 21)⟩,
  ⟨some 23, none, .len (.t 22)⟩,
  ⟨some 24, none, .mov (.k (.int .i64 0))⟩]
def r42_8 : List Ins := [⟨some 25, none, .bin .lss (.t 24) (.t 23)⟩]
def r42_9 : List Ins := [⟨some 26, none, .iaddr 10 (.t 22) (.t 24)⟩,
  ⟨some 27, none, .load 10 true (.t 26)⟩,
  ⟨some 8, none, .alloc 76 (.agg #[.int .i64 0, .int .i64 0, .int .i64 0, .int .i64 0, .int .i64 0, .int .i64 0, .int .i64 0, .int .i64 0, .int .i64 0, .int .i64 0])⟩,
  ⟨none, none, .store 10 (.t 8) (.t 27)⟩]
def r42_10 : List Ins := [⟨some 28, none, .mov (.t 5)⟩,
  ⟨some 29, none, .load 10 true (.t 8)⟩,
  ⟨some 30, none, .call (.k (.func (.func 61) #[] #[])) [(.t 29)]⟩,
  ⟨some 31, none, .app 3 1 8 (.t 28) (.t 30)⟩,
  ⟨some 5, none, .mov (.t 31)⟩]
def r42_11 : List Ins := [⟨some 32, none, .bin .add (.t 24) (.k (.int .i64 1))⟩,
  ⟨some 24, none, .mov (.t 32)⟩]
def r42_12 : List Ins := [⟨some 34, none, .bin .eql (.t 14) (.k (.int .i64 2))⟩,
  ⟨some 33, none, .mov (.t 34)⟩]
def r42_13 : List Ins := [⟨some 36, none, .bin .eql (.t 14) (.k (.int .i64 3))⟩,
  ⟨some 35, none, .mov (.t 36)⟩]
def r42_14 : List Ins := [⟨some 37, none, .faddr 2 (.t 1)⟩,
  ⟨some 38, none, .load 1 false (.t 37)⟩,
  ⟨some 39, none, .faddr 4 (.t 1)⟩,
  ⟨some 40, none, .load 1 false (.t 39)⟩,
  ⟨some 41, none, .bslice 3 1 [(.t 38), (.t 40)]⟩,
  ⟨some 5, none, .mov (.t 41)⟩]
def r42_15 : List Ins := [⟨some 42, none, .faddr 2 (.t 6)⟩,
  ⟨none, none, .store 1 (.t 42) (.k (.int .i64 0))⟩,
  ⟨some 43, none, .faddr 4 (.t 6)⟩,
  ⟨none, none, .store 1 (.t 43) (.k (.int .i64 0))⟩]
def r42_16 : List Ins := [⟨some 45, none, .bin .eql (.t 14) (.k (.int .i64 4))⟩,
  ⟨some 44, none, .mov (.t 45)⟩]
def r42_17 : List Ins := [⟨some 46, none, .faddr 2 (.t 1)⟩,
  ⟨some 47, none, .load 1 false (.t 46)⟩,
  ⟨some 48, none, .faddr 4 (.t 1)⟩,
  ⟨some 49, none, .load 1 false (.t 48)⟩,
  ⟨some 50, none, .faddr 5 (.t 1)⟩,
  ⟨some 51, none, .load 1 false (.t 50)⟩,
  ⟨some 52, none, .bslice 3 1 [(.t 47), (.t 49), (.t 51)]⟩,
  ⟨some 5, none, .mov (.t 52)⟩]
def r42_18 : List Ins := [⟨some 53, none, .faddr 2 (.t 6)⟩,
  ⟨none, none, .store 1 (.t 53) (.k (.int .i64 0))⟩,
  ⟨some 54, none, .faddr 4 (.t 6)⟩,
  ⟨none, none, .store 1 (.t 54) (.k (.int .i64 0))⟩,
  ⟨some 55, none, .faddr 5 (.t 6)⟩,
  ⟨none, none, .store 1 (.t 55) (.k (.int .i64 0))⟩]
def r42_19 : List Ins := [⟨some 57, none, .bin .eql (.t 14) (.k (.int .i64 5))⟩,
  ⟨some 56, none, .mov (.t 57)⟩]
def r42_20 : List Ins := [⟨some 58, none, .faddr 2 (.t 1)⟩,
  ⟨some 59, none, .load 1 false (.t 58)⟩,
  ⟨some 60, none, .faddr 3 (.t 1)⟩,
  ⟨some 61, none, .load 1 false (.t 60)⟩,
  ⟨some 62, none, .bslice 3 1 [(.t 59), (.t 61)]⟩,
  ⟨some 5, none, .mov (.t 62)⟩]
def r42_21 : List Ins := [⟨some 63, none, .faddr 2 (.t 6)⟩,
  ⟨none, none, .store 1 (.t 63) (.k (.int .i64 0))⟩,
  ⟨some 64, none, .faddr 3 (.t 6)⟩,
  ⟨none, none, .store 1 (.t 64) (.k (.int .i64 0))⟩]
def r42_22 : List Ins := [⟨some 2, none, .mov (.k (.slice none 0 0))⟩,
  ⟨some 3, none, .mov (.k (.bool false))⟩,
  ⟨some 4, none, .mov (.k (.bool false))⟩]
def r42_23 : List Ins := [⟨some 65, none, .faddr 2 (.t 6)⟩,
  ⟨some 66, none, .load 1 false (.t 65)⟩,
  ⟨some 67, none, .bin .eql (.t 66) (.k (.int .i64 0))⟩,
  ⟨some 68, none, .mov (.t 67)⟩,
  ⟨some 69, some (68, true), .faddr 3 (.t 6)⟩,
  ⟨some 70, some (68, true), .load 1 false (.t 69)⟩,
  ⟨some 71, some (68, true), .bin .eql (.t 70) (.k (.int .i64 0))⟩,
  ⟨some 72, none, .pick (.t 68) (.t 71) (.k (.bool false))⟩,
  ⟨some 73, none, .mov (.t 72)⟩,
  ⟨some 74, some (73, true), .faddr 4 (.t 6)⟩,
  ⟨some 75, some (73, true), .load 1 false (.t 74)⟩,
  ⟨some 76, some (73, true), .bin .eql (.t 75) (.k (.int .i64 0))⟩,
  ⟨some 77, none, .pick (.t 73) (.t 76) (.k (.bool false))⟩,
  ⟨some 78, none, .mov (.t 77)⟩,
  ⟨some 79, some (78, true), .faddr 5 (.t 6)⟩,
  ⟨some 80, some (78, true), .load 1 false (.t 79)⟩,
  ⟨some 81, some (78, true), .bin .eql (.t 80) (.k (.int .i64 0))⟩,
  ⟨some 82, none, .pick (.t 78) (.t 81) (.k (.bool false))⟩,
  ⟨some 83, none, .mov (.t 82)⟩,
  ⟨some 84, some (83, true), .faddr 0 (.t 1)⟩,
  ⟨some 85, some (83, true), .load 1 false (.t 84)⟩,
  ⟨some 86, some (83, true), .bin .eql (.t 85) (.k (.int .i64 1))⟩,
  ⟨some 87, some (83, true), .mov (.t 86)⟩,
  ⟨some 88, some (87, false), .faddr 1 (.t 1)⟩,
  ⟨some 89, some (87, false), .load 1 false (.t 88)⟩,
  ⟨some 90, some (87, false), .len (.t 89)⟩,
  ⟨some 91, some (87, false), .bin .eql (.t 90) (.k (.int .i64 0))⟩,
  ⟨some 92, some (83, true), .pick (.t 87) (.k (.bool true)) (.t 91)⟩,
  ⟨some 93, none, .pick (.t 83) (.t 92) (.k (.bool false))⟩,
  ⟨some 9, none, .mov (.t 93)⟩]
def r42_24 : List Ins := [⟨some 94, none, .faddr 0 (.t 1)⟩,
  ⟨some 95, none, .load 1 false (.t 94)⟩,
  ⟨some 96, none, .bslice 3 1 [(.t 95)]⟩,
  ⟨some 97, none, .mov (.t 5)⟩,
  ⟨some 98, none, .app 3 1 8 (.t 96) (.t 97)⟩,
  ⟨some 99, none, .mov (.t 9)⟩,
  ⟨some 2, none, .mov (.t 98)⟩,
  ⟨some 3, none, .mov (.t 99)⟩,
  ⟨some 4, none, .mov (.k (.bool true))⟩]
def x42 : XC := (.seq (.ops false r42_0) (.seq (.ops false r42_1) (.seq (.ops false r42_2) (.seq (.ops false r42_3) (.seq (.seq (.ops false r42_4) (.block 0 (.seq (.ops false r42_5) (.cond (.t 15) (.seq (.ops false r42_6) (.seq (.ops false r42_7) (.block 1 (.loop [] ⟨100, [(22, (.list tS0)), (23, (.int .i64)), (24, (.int .i64))], [(1, .ptr 0 0 0), (5, .row 1), (6, .ptr 2 0 0)], [.box 38 [.d (.int .i64), .d (.list tS0), .d (.int .i64), .d (.int .i64), .d (.int .i64), .d (.int .i64)], .row 3 (.int .i64) false, .box 38 [.d (.int .i64), .nil, .d (.int .i64), .d (.int .i64), .d (.int .i64), .d (.int .i64)]]⟩ (.seq (.ops false r42_8) (.seq (.cond (.t 25) .skip (.exit 1)) (.seq (.block 2 (.seq (.ops false r42_9) (.ops false r42_10))) (.ops false r42_11)))))))) (.seq (.ops false r42_12) (.cond (.t 33) .skip (.seq (.ops false r42_13) (.cond (.t 35) (.seq (.ops false r42_14) (.ops false r42_15)) (.seq (.ops false r42_16) (.cond (.t 44) (.seq (.ops false r42_17) (.ops false r42_18)) (.seq (.ops false r42_19) (.cond (.t 56) (.seq (.ops false r42_20) (.ops false r42_21)) (.seq (.ops false r42_22) .ret))))))))))))) (.seq (.ops false r42_23) (.seq (.ops false r42_24) .ret)))))))
theorem F42 : Fn Try.prog 42 100 x42.er [.t 2, .t 3, .t 4] := ⟨Try.f42, hcl, Try.func42, by kernel_rfl, by kernel_rfl, by kernel_rfl, by kernel_rfl⟩
noncomputable def m42 (a0 : DS1) : Option ((List Int) × Bool × Bool × Unit) :=
  cond (iEq a0.1 1)
  (loopO (S := (List DS0) × Int × Int × Int × (List DS0) × Int × Int × Int × Int × (List Int) × Int × Int × Int × Int × Int × Unit) (R := (List Int) × Bool × Bool × Unit) (fun s513 =>
    cond (iLt s513.2.2.1 s513.2.1)
    (cond (bnd s513.2.2.1 (lenI s513.1))
     ((m61 ((atI s513.1 s513.2.2.1 (0, 0, 0, 0, 0, 0, 0, 0, 0, 0, ())).1, (atI s513.1 s513.2.2.1 (0, 0, 0, 0, 0, 0, 0, 0, 0, 0, ())).2.1, (atI s513.1 s513.2.2.1 (0, 0, 0, 0, 0, 0, 0, 0, 0, 0, ())).2.2.1, (atI s513.1 s513.2.2.1 (0, 0, 0, 0, 0, 0, 0, 0, 0, 0, ())).2.2.2.1, (atI s513.1 s513.2.2.1 (0, 0, 0, 0, 0, 0, 0, 0, 0, 0, ())).2.2.2.2.1, (atI s513.1 s513.2.2.1 (0, 0, 0, 0, 0, 0, 0, 0, 0, 0, ())).2.2.2.2.2.1, (atI s513.1 s513.2.2.1 (0, 0, 0, 0, 0, 0, 0, 0, 0, 0, ())).2.2.2.2.2.2.1, (atI s513.1 s513.2.2.1 (0, 0, 0, 0, 0, 0, 0, 0, 0, 0, ())).2.2.2.2.2.2.2.1, (atI s513.1 s513.2.2.1 (0, 0, 0, 0, 0, 0, 0, 0, 0, 0, ())).2.2.2.2.2.2.2.2.1, (atI s513.1 s513.2.2.1 (0, 0, 0, 0, 0, 0, 0, 0, 0, 0, ())).2.2.2.2.2.2.2.2.2.1, ())).bind fun y514 =>
      cond (fits (List.length s513.2.2.2.2.2.2.2.2.2.1 + List.length y514.1) 8)
      (some (.inl (s513.1, s513.2.1, iAdd .i64 s513.2.2.1 1, s513.2.2.2.1, s513.2.2.2.2.1, s513.2.2.2.2.2.1, s513.2.2.2.2.2.2.1, s513.2.2.2.2.2.2.2.1, s513.2.2.2.2.2.2.2.2.1, s513.2.2.2.2.2.2.2.2.2.1 ++ y514.1, s513.2.2.2.2.2.2.2.2.2.2.1, s513.2.2.2.2.2.2.2.2.2.2.2.1, s513.2.2.2.2.2.2.2.2.2.2.2.2.1, s513.2.2.2.2.2.2.2.2.2.2.2.2.2.1, s513.2.2.2.2.2.2.2.2.2.2.2.2.2.2.1, ()))) none) none)
    (Option.map Sum.inr (cond (cond (cond (cond (iEq s513.2.2.2.2.2.2.2.2.2.2.2.1 0) (iEq s513.2.2.2.2.2.2.2.2.2.2.2.2.1 0) false) (iEq s513.2.2.2.2.2.2.2.2.2.2.2.2.2.1 0) false) (iEq s513.2.2.2.2.2.2.2.2.2.2.2.2.2.2.1 0) false)
      (cond (fits (List.length ([s513.2.2.2.1] : List Int) + List.length s513.2.2.2.2.2.2.2.2.2.1) 8)
       (some (([s513.2.2.2.1] : List Int) ++ s513.2.2.2.2.2.2.2.2.2.1, cond (iEq s513.2.2.2.1 1) true (iEq (lenI s513.2.2.2.2.1) 0), true, ())) none)
      (cond (fits (List.length ([s513.2.2.2.1] : List Int) + List.length s513.2.2.2.2.2.2.2.2.2.1) 8)
       (some (([s513.2.2.2.1] : List Int) ++ s513.2.2.2.2.2.2.2.2.2.1, false, true, ())) none))))
   (a0.2.1, lenI a0.2.1, 0, a0.1, a0.2.1, a0.2.2.1, a0.2.2.2.1, a0.2.2.2.2.1, a0.2.2.2.2.2.1, ([lenI a0.2.1] : List Int), 0, a0.2.2.1, a0.2.2.2.1, a0.2.2.2.2.1, a0.2.2.2.2.2.1, ()))
  (cond (iEq a0.1 2)
   (cond (cond (cond (cond (iEq a0.2.2.1 0) (iEq a0.2.2.2.1 0) false) (iEq a0.2.2.2.2.1 0) false) (iEq a0.2.2.2.2.2.1 0) false)
    (cond (fits (List.length ([a0.1] : List Int) + List.length ([] : List Int)) 8)
     (some (([a0.1] : List Int) ++ ([] : List Int), cond (iEq a0.1 1) true (iEq (lenI a0.2.1) 0), true, ())) none)
    (cond (fits (List.length ([a0.1] : List Int) + List.length ([] : List Int)) 8)
     (some (([a0.1] : List Int) ++ ([] : List Int), false, true, ())) none))
   (cond (iEq a0.1 3)
    (cond (cond (cond (iEq a0.2.2.2.1 0) true false) (iEq a0.2.2.2.2.2.1 0) false)
     (cond (fits (List.length ([a0.1] : List Int) + List.length ([a0.2.2.1, a0.2.2.2.2.1] : List Int)) 8)
      (some (([a0.1] : List Int) ++ ([a0.2.2.1, a0.2.2.2.2.1] : List Int), cond (iEq a0.1 1) true (iEq (lenI a0.2.1) 0), true, ())) none)
     (cond (fits (List.length ([a0.1] : List Int) + List.length ([a0.2.2.1, a0.2.2.2.2.1] : List Int)) 8)
      (some (([a0.1] : List Int) ++ ([a0.2.2.1, a0.2.2.2.2.1] : List Int), false, true, ())) none))
    (cond (iEq a0.1 4)
     (cond (cond (cond (iEq a0.2.2.2.1 0) true false) true false)
      (cond (fits (List.length ([a0.1] : List Int) + List.length ([a0.2.2.1, a0.2.2.2.2.1, a0.2.2.2.2.2.1] : List Int)) 8)
       (some (([a0.1] : List Int) ++ ([a0.2.2.1, a0.2.2.2.2.1, a0.2.2.2.2.2.1] : List Int), cond (iEq a0.1 1) true (iEq (lenI a0.2.1) 0), true, ())) none)
      (cond (fits (List.length ([a0.1] : List Int) + List.length ([a0.2.2.1, a0.2.2.2.2.1, a0.2.2.2.2.2.1] : List Int)) 8)
       (some (([a0.1] : List Int) ++ ([a0.2.2.1, a0.2.2.2.2.1, a0.2.2.2.2.2.1] : List Int), false, true, ())) none))
     (cond (iEq a0.1 5)
      (cond (cond (iEq a0.2.2.2.2.1 0) (iEq a0.2.2.2.2.2.1 0) false)
       (cond (fits (List.length ([a0.1] : List Int) + List.length ([a0.2.2.1, a0.2.2.2.1] : List Int)) 8)
        (some (([a0.1] : List Int) ++ ([a0.2.2.1, a0.2.2.2.1] : List Int), cond (iEq a0.1 1) true (iEq (lenI a0.2.1) 0), true, ())) none)
       (cond (fits (List.length ([a0.1] : List Int) + List.length ([a0.2.2.1, a0.2.2.2.1] : List Int)) 8)
        (some (([a0.1] : List Int) ++ ([a0.2.2.1, a0.2.2.2.1] : List Int), false, true, ())) none))
      (some (([] : List Int), false, false, ()))))))
noncomputable def cfg42 : Cfg := ⟨ttab, gtab, [i61], []⟩
theorem eqn42 (x : DS1 × Unit) : xfun cfg42 x42 100 [.t 2, .t 3, .t 4] [tS1] [(.list (.int .i64)), .bool, .bool] x = m42 x.1 := by kernel_rfl
noncomputable def i42 : PI := ⟨42, [tS1], [(.list (.int .i64)), .bool, .bool], fun (x : DS1 × Unit) => m42 x.1⟩
theorem oki42 : POk Try.prog (gx gtab) i42 := pok mixed (cfg_p oki61 (cfg_nil _ _) : CfgOk _ cfg42) F42 eqn42
/- 43 treaty/treatyref40.encode -/
def r43_0 : List Ins := [⟨some 2, none, .mov (.k (.slice none 0 0))⟩,
  ⟨some 3, none, .mov (.k (.int .i64 0))⟩]
def r43_1 : List Ins := [⟨some 4, none, .mov (.k (.slice none 0 0))⟩]
def r43_2 : List Ins := [⟨some 9, none, .mov (.t 0)⟩,
  ⟨some 10, none, .len (.t 9)⟩,
  ⟨some 11, none, .mov (.k (.int .i64 0))⟩]
def r43_3 : List Ins := [⟨some 12, none, .bin .lss (.t 11) (.t 10)⟩]
def r43_4 : List Ins := [⟨some 13, none, .iaddr 1 (.t 9) (.t 11)⟩,
  ⟨some 14, none, .load 1 false (.t 13)⟩,
  ⟨some 6, none, .mov (.t 14)⟩]
def r43_5 : List Ins := [⟨some 16, none, .mov (.t 6)⟩,
  ⟨some 17, none, .call (.k (.func (.func 14) #[] #[])) [(.k (.slice none 0 0)), (.t 16)]⟩,
  ⟨some 15, none, .mov (.t 17)⟩,
  ⟨some 18, none, .ext 0 (.t 15)⟩,
  ⟨some 19, none, .ext 1 (.t 15)⟩,
  ⟨some 7, none, .mov (.t 18)⟩,
  ⟨some 8, none, .mov (.t 19)⟩]
def r43_6 : List Ins := [⟨some 20, none, .mov (.t 8)⟩,
  ⟨some 21, none, .bin .neq (.t 20) (.k (.int .i64 0))⟩]
def r43_7 : List Ins := [⟨some 22, none, .mov (.t 8)⟩,
  ⟨some 2, none, .mov (.k (.slice none 0 0))⟩,
  ⟨some 3, none, .mov (.t 22)⟩]
def r43_8 : List Ins := [⟨some 23, none, .mov (.t 4)⟩,
  ⟨some 24, none, .mov (.t 7)⟩,
  ⟨some 25, none, .app 5 1 1 (.t 23) (.t 24)⟩,
  ⟨some 4, none, .mov (.t 25)⟩]
def r43_9 : List Ins := [⟨some 26, none, .bin .add (.t 11) (.k (.int .i64 1))⟩,
  ⟨some 11, none, .mov (.t 26)⟩]
def r43_10 : List Ins := [⟨some 27, none, .mov (.t 4)⟩,
  ⟨some 2, none, .mov (.t 27)⟩,
  ⟨some 3, none, .mov (.k (.int .i64 0))⟩]
def x43 : XC := (.seq (.ops false r43_0) (.seq (.ops false r43_1) (.seq (.seq (.ops false r43_2) (.block 0 (.loop [.gh 4 5 (.int .u8)] ⟨28, [(9, (.list (.int .i64))), (10, (.int .i64)), (11, (.int .i64))], [(4, .row 0)], [.row 5 (.int .u8) false]⟩ (.seq (.ops false r43_3) (.seq (.cond (.t 12) .skip (.exit 0)) (.seq (.block 1 (.seq (.ops false r43_4) (.seq (.ops false r43_5) (.seq (.seq (.ops false r43_6) (.cond (.t 21) (.seq (.ops false r43_7) .ret) .skip)) (.ops false r43_8))))) (.ops false r43_9))))))) (.seq (.ops false r43_10) .ret))))
theorem F43 : Fn Try.prog 43 28 x43.er [.t 2, .t 3] := ⟨Try.f43, hcl, Try.func43, by kernel_rfl, by kernel_rfl, by kernel_rfl, by kernel_rfl⟩
noncomputable def m43 (a0 : List Int) : Option ((List Int) × Int × Unit) :=
  loopO (S := (List Int) × Int × Int × (List Int) × Unit) (R := (List Int) × Int × Unit) (fun s518 =>
   cond (iLt s518.2.2.1 s518.2.1)
   (cond (bnd s518.2.2.1 (lenI s518.1))
    ((m14 ([] : List Int) (atI s518.1 s518.2.2.1 0)).bind fun y519 =>
     cond (iNe y519.2.1 0)
     (some (.inr (([] : List Int), y519.2.1, ())))
     (cond (fits (List.length s518.2.2.2.1 + List.length y519.1) 1)
      (some (.inl (s518.1, s518.2.1, iAdd .i64 s518.2.2.1 1, s518.2.2.2.1 ++ y519.1, ()))) none)) none)
   (some (.inr (s518.2.2.2.1, 0, ()))))
  (a0, lenI a0, 0, ([] : List Int), ())
noncomputable def cfg43 : Cfg := ⟨ttab, gtab, [i14], []⟩
theorem eqn43 (x : (List Int) × Unit) : xfun cfg43 x43 28 [.t 2, .t 3] [(.list (.int .i64))] [(.list (.int .u8)), (.int .i64)] x = m43 x.1 := by kernel_rfl
noncomputable def i43 : PI := ⟨43, [(.list (.int .i64))], [(.list (.int .u8)), (.int .i64)], fun (x : (List Int) × Unit) => m43 x.1⟩
theorem oki43 : POk Try.prog (gx gtab) i43 := pok mixed (cfg_p oki14 (cfg_nil _ _) : CfgOk _ cfg43) F43 eqn43
/- 20 treaty/treatyref40.EncodeCommand -/
def r20_0 : List Ins := [⟨some 1, none, .box 38 6 (.t 0)⟩,
  ⟨some 2, none, .mov (.k (.slice none 0 0))⟩,
  ⟨some 3, none, .mov (.k (.int .i64 0))⟩]
def r20_1 : List Ins := [⟨some 8, none, .load 6 true (.t 1)⟩,
  ⟨some 9, none, .call (.k (.func (.func 42) #[] #[])) [(.t 8)]⟩,
  ⟨some 7, none, .mov (.t 9)⟩,
  ⟨some 10, none, .ext 0 (.t 7)⟩,
  ⟨some 11, none, .ext 1 (.t 7)⟩,
  ⟨some 12, none, .ext 2 (.t 7)⟩,
  ⟨some 4, none, .mov (.t 10)⟩,
  ⟨some 5, none, .mov (.t 11)⟩,
  ⟨some 6, none, .mov (.t 12)⟩]
def r20_2 : List Ins := [⟨some 13, none, .mov (.t 6)⟩,
  ⟨some 14, none, .un .not (.t 13)⟩]
def r20_3 : List Ins := [⟨some 2, none, .mov (.k (.slice none 0 0))⟩,
  ⟨some 3, none, .mov (.k (.int .i64 11))⟩]
def r20_4 : List Ins := [⟨some 15, none, .mov (.t 5)⟩,
  ⟨some 16, none, .un .not (.t 15)⟩]
def r20_5 : List Ins := [⟨some 2, none, .mov (.k (.slice none 0 0))⟩,
  ⟨some 3, none, .mov (.k (.int .i64 20))⟩]
def r20_6 : List Ins := [⟨some 17, none, .faddr 1 (.t 1)⟩,
  ⟨some 18, none, .load 1 false (.t 17)⟩,
  ⟨some 19, none, .len (.t 18)⟩,
  ⟨some 20, none, .bin .gtr (.t 19) (.k (.int .i64 64))⟩]
def r20_7 : List Ins := [⟨some 2, none, .mov (.k (.slice none 0 0))⟩,
  ⟨some 3, none, .mov (.k (.int .i64 4))⟩]
def r20_8 : List Ins := [⟨some 21, none, .mov (.t 4)⟩,
  ⟨some 22, none, .call (.k (.func (.func 43) #[] #[])) [(.t 21)]⟩,
  ⟨some 23, none, .ext 0 (.t 22)⟩,
  ⟨some 24, none, .ext 1 (.t 22)⟩,
  ⟨some 2, none, .mov (.t 23)⟩,
  ⟨some 3, none, .mov (.t 24)⟩]
def x20 : XC := (.seq (.ops false r20_0) (.seq (.ops false r20_1) (.seq (.seq (.ops false r20_2) (.cond (.t 14) (.seq (.ops false r20_3) .ret) .skip)) (.seq (.seq (.ops false r20_4) (.cond (.t 16) (.seq (.ops false r20_5) .ret) .skip)) (.seq (.seq (.ops false r20_6) (.cond (.t 20) (.seq (.ops false r20_7) .ret) .skip)) (.seq (.ops false r20_8) .ret))))))
theorem F20 : Fn Try.prog 20 25 x20.er [.t 2, .t 3] := ⟨Try.f20, hcl, Try.func20, by kernel_rfl, by kernel_rfl, by kernel_rfl, by kernel_rfl⟩
noncomputable def m20 (a0 : DS1) : Option ((List Int) × Int × Unit) :=
  (m42 (a0.1, a0.2.1, a0.2.2.1, a0.2.2.2.1, a0.2.2.2.2.1, a0.2.2.2.2.2.1, ())).bind fun y515 =>
  cond (not y515.2.2.1)
  (some (([] : List Int), 11, ()))
  (cond (not y515.2.1)
   (some (([] : List Int), 20, ()))
   (cond (iLt 64 (lenI a0.2.1))
    (some (([] : List Int), 4, ()))
    ((m43 y515.1).bind fun y520 =>
     some (y520.1, y520.2.1, ()))))
noncomputable def cfg20 : Cfg := ⟨ttab, gtab, [i42, i43], []⟩
theorem eqn20 (x : DS1 × Unit) : xfun cfg20 x20 25 [.t 2, .t 3] [tS1] [(.list (.int .u8)), (.int .i64)] x = m20 x.1 := by kernel_rfl
noncomputable def i20 : PI := ⟨20, [tS1], [(.list (.int .u8)), (.int .i64)], fun (x : DS1 × Unit) => m20 x.1⟩
theorem oki20 : POk Try.prog (gx gtab) i20 := pok mixed (cfg_p oki42 (cfg_p oki43 (cfg_nil _ _)) : CfgOk _ cfg20) F20 eqn20
/- 21 treaty/treatylaw40.spoilt -/
def r21_0 : List Ins := [⟨some 6, none, .mov (.k (.slice none 0 0))⟩]
def r21_1 : List Ins := [⟨some 9, none, .bslice 5 1 []⟩,
  ⟨some 10, none, .mov (.t 0)⟩,
  ⟨some 11, none, .app 5 1 1 (.t 9) (.t 10)⟩,
  ⟨some 7, none, .mov (.t 11)⟩]
def r21_2 : List Ins := [⟨some 12, none, .mov (.t 7)⟩,
  ⟨some 13, none, .len (.t 12)⟩,
  ⟨some 14, none, .bin .eql (.t 13) (.k (.int .i64 0))⟩]
def r21_3 : List Ins := [⟨some 15, none, .mov (.t 2)⟩,
  ⟨some 16, none, .bslice 5 1 [(.t 15)]⟩,
  ⟨some 6, none, .mov (.t 16)⟩]
def r21_4 : List Ins := [⟨some 17, none, .mov (.t 1)⟩,
  ⟨some 18, none, .bin .shr (.t 17) (.k (.int .u64 2))⟩,
  ⟨some 19, none, .bin .and (.t 18) (.k (.int .i64 255))⟩,
  ⟨some 20, none, .mov (.t 7)⟩,
  ⟨some 21, none, .len (.t 20)⟩,
  ⟨some 22, none, .bin .rem (.t 19) (.t 21)⟩,
  ⟨some 8, none, .mov (.t 22)⟩]
def r21_5 : List Ins := [⟨some 23, none, .mov (.t 1)⟩,
  ⟨some 24, none, .bin .and (.t 23) (.k (.int .i64 3))⟩]
def r21_6 : List Ins := [⟨some 29, none, .bin .eql (.t 24) (.k (.int .i64 0))⟩,
  ⟨some 28, none, .mov (.t 29)⟩]
def r21_7 : List Ins := [⟨some 30, none, .mov (.t 7)⟩,
  ⟨some 31, none, .mov (.t 8)⟩,
  ⟨some 32, none, .mov (.t 2)⟩,
  ⟨some 33, none, .iaddr 1 (.t 30) (.t 31)⟩,
  ⟨none, none, .store 1 (.t 33) (.t 32)⟩]
def r21_8 : List Ins := [⟨some 35, none, .bin .eql (.t 24) (.k (.int .i64 1))⟩,
  ⟨some 34, none, .mov (.t 35)⟩]
def r21_9 : List Ins := [⟨some 36, none, .bslice 5 1 []⟩,
  ⟨some 37, none, .mov (.t 7)⟩,
  ⟨some 38, none, .mov (.t 8)⟩,
  ⟨some 39, none, .slice 1 (.t 37) none (some (.t 38))⟩,
  ⟨some 40, none, .app 5 1 1 (.t 36) (.t 39)⟩,
  ⟨some 41, none, .mov (.t 2)⟩,
  ⟨some 42, none, .blist 5 1 [(.t 41)]⟩,
  ⟨some 43, none, .app 5 1 1 (.t 40) (.t 42)⟩,
  ⟨some 44, none, .mov (.t 7)⟩,
  ⟨some 45, none, .mov (.t 8)⟩,
  ⟨some 46, none, .slice 1 (.t 44) (some (.t 45)) none⟩,
  ⟨some 47, none, .app 5 1 1 (.t 43) (.t 46)⟩,
  ⟨some 7, none, .mov (.t 47)⟩]
def r21_10 : List Ins := [⟨some 49, none, .bin .eql (.t 24) (.k (.int .i64 2))⟩,
  ⟨some 48, none, .mov (.t 49)⟩]
def r21_11 : List Ins := [⟨some 50, none, .mov (.t 7)⟩,
  ⟨some 51, none, .mov (.t 8)⟩,
  ⟨some 52, none, .mov (.t 8)⟩,
  ⟨some 53, none, .slice3 1 (.t 50) (.t 51) (.t 52)⟩,
  ⟨some 54, none, .mov (.t 7)⟩,
  ⟨some 55, none, .mov (.t 8)⟩,
  ⟨some 56, none, .bin .add (.t 55) (.k (.int .i64 1))⟩,
  ⟨some 57, none, .slice 1 (.t 54) (some (.t 56)) none⟩,
  ⟨some 58, none, .app 5 1 1 (.t 53) (.t 57)⟩,
  ⟨some 7, none, .mov (.t 58)⟩]
def r21_12 : List Ins := [⟨some 25, none, .mov (.t 7)⟩,
  ⟨some 26, none, .mov (.t 8)⟩,
  ⟨some 27, none, .slice 1 (.t 25) none (some (.t 26))⟩,
  ⟨some 7, none, .mov (.t 27)⟩]
def r21_13 : List Ins := [⟨some 59, none, .mov (.t 7)⟩,
  ⟨some 6, none, .mov (.t 59)⟩]
def x21 : XC := (.seq (.ops false r21_0) (.seq (.ops false r21_1) (.seq (.seq (.ops false r21_2) (.cond (.t 14) (.seq (.ops false r21_3) .ret) .skip)) (.seq (.ops false r21_4) (.seq (.seq (.ops false r21_5) (.block 0 (.seq (.ops false r21_6) (.cond (.t 28) (.ops false r21_7) (.seq (.ops false r21_8) (.cond (.t 34) (.ops true r21_9) (.seq (.ops false r21_10) (.cond (.t 48) (.ops true r21_11) (.ops false r21_12))))))))) (.seq (.ops false r21_13) .ret))))))
theorem F21 : Fn Try.prog 21 60 x21.er [.t 6] := ⟨Try.f21, hcl, Try.func21, by kernel_rfl, by kernel_rfl, by kernel_rfl, by kernel_rfl⟩
noncomputable def m21 (a0 : List Int) (a1 : Int) (a2 : Int) : Option ((List Int) × Unit) :=
  cond (fits (List.length ([] : List Int) + List.length a0) 1)
  (cond (iEq (lenI (([] : List Int) ++ a0)) 0)
   (some (([a2] : List Int), ()))
   (cond (iLe 0 2)
    (cond (iNe (lenI (([] : List Int) ++ a0)) 0)
     (cond (iEq (iAnd .i64 a1 3) 0)
      (cond (bnd (iRem (iAnd .i64 (iShr .i64 a1 2) 255) (lenI (([] : List Int) ++ a0))) (lenI (([] : List Int) ++ a0)))
       (cond (inB (Int.toNat (iRem (iAnd .i64 (iShr .i64 a1 2) 255) (lenI (([] : List Int) ++ a0)))) (([] : List Int) ++ a0))
        (some (List.set (([] : List Int) ++ a0) (Int.toNat (iRem (iAnd .i64 (iShr .i64 a1 2) 255) (lenI (([] : List Int) ++ a0)))) a2, ())) none) none)
      (cond (iEq (iAnd .i64 a1 3) 1)
       (cond (cutOk 0 (iRem (iAnd .i64 (iShr .i64 a1 2) 255) (lenI (([] : List Int) ++ a0))) (List.length (([] : List Int) ++ a0)))
        (cond (fits (List.length ([] : List Int) + List.length (List.take (Int.toNat ((iRem (iAnd .i64 (iShr .i64 a1 2) 255) (lenI (([] : List Int) ++ a0))) - 0)) (List.drop 0 (([] : List Int) ++ a0)))) 1)
         (cond (fits (List.length (([] : List Int) ++ (List.take (Int.toNat ((iRem (iAnd .i64 (iShr .i64 a1 2) 255) (lenI (([] : List Int) ++ a0))) - 0)) (List.drop 0 (([] : List Int) ++ a0)))) + List.length ([a2] : List Int)) 1)
          (cond (cutOk (iRem (iAnd .i64 (iShr .i64 a1 2) 255) (lenI (([] : List Int) ++ a0))) ((List.length (([] : List Int) ++ a0) : Nat) : Int) (List.length (([] : List Int) ++ a0)))
           (cond (fits (List.length ((([] : List Int) ++ (List.take (Int.toNat ((iRem (iAnd .i64 (iShr .i64 a1 2) 255) (lenI (([] : List Int) ++ a0))) - 0)) (List.drop 0 (([] : List Int) ++ a0)))) ++ ([a2] : List Int)) + List.length (List.take (Int.toNat (((List.length (([] : List Int) ++ a0) : Nat) : Int) - (iRem (iAnd .i64 (iShr .i64 a1 2) 255) (lenI (([] : List Int) ++ a0))))) (List.drop (Int.toNat (iRem (iAnd .i64 (iShr .i64 a1 2) 255) (lenI (([] : List Int) ++ a0)))) (([] : List Int) ++ a0)))) 1)
            (some (((([] : List Int) ++ (List.take (Int.toNat ((iRem (iAnd .i64 (iShr .i64 a1 2) 255) (lenI (([] : List Int) ++ a0))) - 0)) (List.drop 0 (([] : List Int) ++ a0)))) ++ ([a2] : List Int)) ++ (List.take (Int.toNat (((List.length (([] : List Int) ++ a0) : Nat) : Int) - (iRem (iAnd .i64 (iShr .i64 a1 2) 255) (lenI (([] : List Int) ++ a0))))) (List.drop (Int.toNat (iRem (iAnd .i64 (iShr .i64 a1 2) 255) (lenI (([] : List Int) ++ a0)))) (([] : List Int) ++ a0))), ())) none) none) none) none) none)
       (cond (iEq (iAnd .i64 a1 3) 2)
        (cond (and (cutOk 0 (iRem (iAnd .i64 (iShr .i64 a1 2) 255) (lenI (([] : List Int) ++ a0))) (List.length (([] : List Int) ++ a0))) (iEq (iRem (iAnd .i64 (iShr .i64 a1 2) 255) (lenI (([] : List Int) ++ a0))) (iRem (iAnd .i64 (iShr .i64 a1 2) 255) (lenI (([] : List Int) ++ a0)))))
         (cond (cutOk (iAdd .i64 (iRem (iAnd .i64 (iShr .i64 a1 2) 255) (lenI (([] : List Int) ++ a0))) 1) ((List.length (([] : List Int) ++ a0) : Nat) : Int) (List.length (([] : List Int) ++ a0)))
          (cond (someE (List.take (Int.toNat (((List.length (([] : List Int) ++ a0) : Nat) : Int) - (iAdd .i64 (iRem (iAnd .i64 (iShr .i64 a1 2) 255) (lenI (([] : List Int) ++ a0))) 1))) (List.drop (Int.toNat (iAdd .i64 (iRem (iAnd .i64 (iShr .i64 a1 2) 255) (lenI (([] : List Int) ++ a0))) 1)) (([] : List Int) ++ a0))))
           (cond (fits ((Int.toNat (iRem (iAnd .i64 (iShr .i64 a1 2) 255) (lenI (([] : List Int) ++ a0)))) + List.length (List.take (Int.toNat (((List.length (([] : List Int) ++ a0) : Nat) : Int) - (iAdd .i64 (iRem (iAnd .i64 (iShr .i64 a1 2) 255) (lenI (([] : List Int) ++ a0))) 1))) (List.drop (Int.toNat (iAdd .i64 (iRem (iAnd .i64 (iShr .i64 a1 2) 255) (lenI (([] : List Int) ++ a0))) 1)) (([] : List Int) ++ a0)))) 1)
            (some ((List.take (Int.toNat (iRem (iAnd .i64 (iShr .i64 a1 2) 255) (lenI (([] : List Int) ++ a0)))) (([] : List Int) ++ a0)) ++ (List.take (Int.toNat (((List.length (([] : List Int) ++ a0) : Nat) : Int) - (iAdd .i64 (iRem (iAnd .i64 (iShr .i64 a1 2) 255) (lenI (([] : List Int) ++ a0))) 1))) (List.drop (Int.toNat (iAdd .i64 (iRem (iAnd .i64 (iShr .i64 a1 2) 255) (lenI (([] : List Int) ++ a0))) 1)) (([] : List Int) ++ a0))), ())) none)
           (some (List.take (Int.toNat (iRem (iAnd .i64 (iShr .i64 a1 2) 255) (lenI (([] : List Int) ++ a0)))) (List.drop 0 (([] : List Int) ++ a0)), ()))) none) none)
        (cond (cutOk 0 (iRem (iAnd .i64 (iShr .i64 a1 2) 255) (lenI (([] : List Int) ++ a0))) (List.length (([] : List Int) ++ a0)))
         (some (List.take (Int.toNat ((iRem (iAnd .i64 (iShr .i64 a1 2) 255) (lenI (([] : List Int) ++ a0))) - 0)) (List.drop 0 (([] : List Int) ++ a0)), ())) none)))) none) none)) none
noncomputable def cfg21 : Cfg := ⟨ttab, gtab, [], []⟩
theorem eqn21 (x : (List Int) × Int × Int × Unit) : xfun cfg21 x21 60 [.t 6] [(.list (.int .u8)), (.int .i64), (.int .u8)] [(.list (.int .u8))] x = m21 x.1 x.2.1 x.2.2.1 := by kernel_rfl
noncomputable def i21 : PI := ⟨21, [(.list (.int .u8)), (.int .i64), (.int .u8)], [(.list (.int .u8))], fun (x : (List Int) × Int × Int × Unit) => m21 x.1 x.2.1 x.2.2.1⟩
theorem oki21 : POk Try.prog (gx gtab) i21 := pok mixed (cfg_nil _ _ : CfgOk _ cfg21) F21 eqn21
/- 47 (*treaty/treatyref40.reader).next -/
def r47_0 : List Ins := [⟨some 2, none, .mov (.k (.int .i64 0))⟩]
def r47_1 : List Ins := [⟨some 6, none, .mov (.t 0)⟩,
  ⟨some 7, none, .nck (.t 6)⟩,
  ⟨some 8, none, .faddr 1 (.t 7)⟩,
  ⟨some 9, none, .load 1 false (.t 8)⟩,
  ⟨some 10, none, .bin .neq (.t 9) (.k (.int .i64 0))⟩]
def r47_2 : List Ins := [⟨some 2, none, .mov (.k (.int .i64 0))⟩]
def r47_3 : List Ins := [⟨some 12, none, .mov (.t 0)⟩,
  ⟨some 13, none, .nck (.t 12)⟩,
  ⟨some 14, none, .faddr 0 (.t 13)⟩,
  ⟨some 15, none, .load 1 false (.t 14)⟩,
  ⟨some 16, none, .call (.k (.func (.func 17) #[] #[])) [(.t 15)]⟩,
  ⟨some 11, none, .mov (.t 16)⟩,
  ⟨some 17, none, .ext 0 (.t 11)⟩,
  ⟨some 18, none, .ext 1 (.t 11)⟩,
  ⟨some 19, none, .ext 2 (.t 11)⟩,
  ⟨some 3, none, .mov (.t 17)⟩,
  ⟨some 4, none, .mov (.t 18)⟩,
  ⟨some 5, none, .mov (.t 19)⟩]
def r47_4 : List Ins := [⟨some 20, none, .mov (.t 5)⟩,
  ⟨some 21, none, .bin .neq (.t 20) (.k (.int .i64 0))⟩]
def r47_5 : List Ins := [⟨some 22, none, .mov (.t 0)⟩,
  ⟨some 23, none, .mov (.t 5)⟩,
  ⟨some 24, none, .nck (.t 22)⟩,
  ⟨some 25, none, .faddr 1 (.t 24)⟩,
  ⟨none, none, .store 1 (.t 25) (.t 23)⟩]
def r47_6 : List Ins := [⟨some 2, none, .mov (.k (.int .i64 0))⟩]
def r47_7 : List Ins := [⟨some 26, none, .mov (.t 0)⟩,
  ⟨some 27, none, .mov (.t 0)⟩,
  ⟨some 28, none, .nck (.t 27)⟩,
  ⟨some 29, none, .faddr 0 (.t 28)⟩,
  ⟨some 30, none, .load 1 false (.t 29)⟩,
  ⟨some 31, none, .mov (.t 4)⟩,
  ⟨some 32, none, .slice 1 (.t 30) (some (.t 31)) none⟩,
  ⟨some 33, none, .nck (.t 26)⟩,
  ⟨some 34, none, .faddr 0 (.t 33)⟩,
  ⟨none, none, .store 1 (.t 34) (.t 32)⟩]
def r47_8 : List Ins := [⟨some 35, none, .mov (.t 3)⟩,
  ⟨some 2, none, .mov (.t 35)⟩]
def x47 : XC := (.seq (.ops false r47_0) (.seq (.seq (.ops false r47_1) (.cond (.t 10) (.seq (.ops false r47_2) .ret) .skip)) (.seq (.ops false r47_3) (.seq (.seq (.ops false r47_4) (.cond (.t 21) (.seq (.ops false r47_5) (.seq (.ops false r47_6) .ret)) .skip)) (.seq (.ops false r47_7) (.seq (.ops false r47_8) .ret))))))
theorem F47 : Fn Try.prog 47 36 x47.er [.t 2] := ⟨Try.f47, hcl, Try.func47, by kernel_rfl, by kernel_rfl, by kernel_rfl, by kernel_rfl⟩
noncomputable def m47 (a0 : List Int) (a1 : Int) : Option (Int × (List Int) × Int × Unit) :=
  cond (iNe a1 0)
  (some (0, a0, a1, ()))
  ((m17 a0).bind fun y528 =>
   cond (iNe y528.2.2.1 0)
   (some (0, a0, y528.2.2.1, ()))
   (cond (cutOk y528.2.1 ((List.length a0 : Nat) : Int) (List.length a0))
    (some (y528.1, cutL y528.2.1 ((List.length a0 : Nat) : Int) a0, a1, ())) none))
noncomputable def cfg47 : Cfg := ⟨ttab, gtab, [i17], []⟩
def ish47 : Sh := ⟨1, [], [(0, .ptr 0 0 0)], [.box 86 [.d (.list (.int .u8)), .d (.int .i64)]]⟩
def osh47 : Sh := ⟨1, [(0, (.int .i64))], [], [.box 86 [.d (.list (.int .u8)), .d (.int .i64)]]⟩
theorem eqn47 (x : (List Int) × Int × Unit) : xfunH cfg47 x47 36 [.t 2] [] ish47 osh47 x = m47 x.1 x.2.1 := by kernel_rfl
noncomputable def h47 : HI := ⟨47, ish47, osh47, fun (x : (List Int) × Int × Unit) => m47 x.1 x.2.1⟩
theorem okh47 : HOk Try.prog (gx gtab) h47 := hok mixed (cfg_p oki17 (cfg_nil _ _) : CfgOk _ cfg47) F47 eqn47
/- 48 (*treaty/treatyref40.reader).count -/
def r48_0 : List Ins := [⟨some 4, none, .mov (.k (.int .i64 0))⟩]
def r48_1 : List Ins := [⟨some 6, none, .mov (.t 0)⟩,
  ⟨some 7, none, .call (.k (.func (.func 47) #[] #[])) [(.t 6)]⟩,
  ⟨some 5, none, .mov (.t 7)⟩]
def r48_2 : List Ins := [⟨some 8, none, .mov (.t 0)⟩,
  ⟨some 9, none, .nck (.t 8)⟩,
  ⟨some 10, none, .faddr 1 (.t 9)⟩,
  ⟨some 11, none, .load 1 false (.t 10)⟩,
  ⟨some 12, none, .bin .eql (.t 11) (.k (.int .i64 0))⟩,
  ⟨some 13, none, .mov (.t 12)⟩,
  ⟨some 14, some (13, true), .mov (.t 5)⟩,
  ⟨some 15, some (13, true), .bin .lss (.t 14) (.k (.int .i64 0))⟩,
  ⟨some 16, some (13, true), .mov (.t 15)⟩,
  ⟨some 17, some (16, false), .mov (.t 5)⟩,
  ⟨some 18, some (16, false), .mov (.t 1)⟩,
  ⟨some 19, some (16, false), .bin .gtr (.t 17) (.t 18)⟩,
  ⟨some 20, some (13, true), .pick (.t 16) (.k (.bool true)) (.t 19)⟩,
  ⟨some 21, none, .pick (.t 13) (.t 20) (.k (.bool false))⟩]
def r48_3 : List Ins := [⟨some 22, none, .mov (.t 0)⟩,
  ⟨some 23, none, .nck (.t 22)⟩,
  ⟨some 24, none, .faddr 1 (.t 23)⟩,
  ⟨none, none, .store 1 (.t 24) (.k (.int .i64 4))⟩]
def r48_4 : List Ins := [⟨some 25, none, .mov (.t 0)⟩,
  ⟨some 26, none, .nck (.t 25)⟩,
  ⟨some 27, none, .faddr 1 (.t 26)⟩,
  ⟨some 28, none, .load 1 false (.t 27)⟩,
  ⟨some 29, none, .bin .neq (.t 28) (.k (.int .i64 0))⟩]
def r48_5 : List Ins := [⟨some 4, none, .mov (.k (.int .i64 0))⟩]
def r48_6 : List Ins := [⟨some 30, none, .mov (.t 5)⟩,
  ⟨some 4, none, .mov (.t 30)⟩]
def x48 : XC := (.seq (.ops false r48_0) (.seq (.ops false r48_1) (.seq (.seq (.ops false r48_2) (.cond (.t 21) (.ops false r48_3) .skip)) (.seq (.seq (.ops false r48_4) (.cond (.t 29) (.seq (.ops false r48_5) .ret) .skip)) (.seq (.ops false r48_6) .ret)))))
theorem F48 : Fn Try.prog 48 31 x48.er [.t 4] := ⟨Try.f48, hcl, Try.func48, by kernel_rfl, by kernel_rfl, by kernel_rfl, by kernel_rfl⟩
noncomputable def m48 (a0 : Int) (a1 : List Int) (a2 : Int) : Option (Int × (List Int) × Int × Unit) :=
  (m47 a1 a2).bind fun y531 =>
  cond (iEq y531.2.2.1 0)
  (cond (cond (iLt y531.1 0) true (iLt a0 y531.1))
   (some (0, y531.2.1, 4, ()))
   (cond (iNe y531.2.2.1 0)
    (some (0, y531.2.1, y531.2.2.1, ()))
    (some (y531.1, y531.2.1, y531.2.2.1, ()))))
  (cond (iNe y531.2.2.1 0)
   (some (0, y531.2.1, y531.2.2.1, ()))
   (some (y531.1, y531.2.1, y531.2.2.1, ())))
noncomputable def cfg48 : Cfg := ⟨ttab, gtab, [], [h47]⟩
def ish48 : Sh := ⟨2, [(1, (.int .i64))], [(0, .ptr 0 0 0)], [.box 86 [.d (.list (.int .u8)), .d (.int .i64)]]⟩
def osh48 : Sh := ⟨1, [(0, (.int .i64))], [], [.box 86 [.d (.list (.int .u8)), .d (.int .i64)]]⟩
theorem eqn48 (x : Int × (List Int) × Int × Unit) : xfunH cfg48 x48 31 [.t 4] [] ish48 osh48 x = m48 x.1 x.2.1 x.2.2.1 := by kernel_rfl
noncomputable def h48 : HI := ⟨48, ish48, osh48, fun (x : Int × (List Int) × Int × Unit) => m48 x.1 x.2.1 x.2.2.1⟩
theorem okh48 : HOk Try.prog (gx gtab) h48 := hok mixed (cfg_h okh47 (cfg_nil _ _) : CfgOk _ cfg48) F48 eqn48
/- 49 treaty/treatyref40.loss -/
def r49_0 : List Ins := [⟨some 2, none, .alloc 76 (.agg #[.int .i64 0, .int .i64 0, .int .i64 0, .int .i64 0, .int .i64 0, .int .i64 0, .int .i64 0, .int .i64 0, .int .i64 0, .int .i64 0])⟩]
def r49_1 : List Ins := [⟨some 3, none, .mov (.t 0)⟩,
  ⟨some 4, none, .iaddr 1 (.t 3) (.k (.int .i64 0))⟩,
  ⟨some 5, none, .load 1 false (.t 4)⟩,
  ⟨some 6, none, .mov (.t 0)⟩,
  ⟨some 7, none, .iaddr 1 (.t 6) (.k (.int .i64 1))⟩,
  ⟨some 8, none, .load 1 false (.t 7)⟩,
  ⟨some 9, none, .mov (.t 0)⟩,
  ⟨some 10, none, .iaddr 1 (.t 9) (.k (.int .i64 2))⟩,
  ⟨some 11, none, .load 1 false (.t 10)⟩,
  ⟨some 12, none, .mov (.t 0)⟩,
  ⟨some 13, none, .iaddr 1 (.t 12) (.k (.int .i64 3))⟩,
  ⟨some 14, none, .load 1 false (.t 13)⟩,
  ⟨some 15, none, .mov (.t 0)⟩,
  ⟨some 16, none, .iaddr 1 (.t 15) (.k (.int .i64 4))⟩,
  ⟨some 17, none, .load 1 false (.t 16)⟩,
  ⟨some 18, none, .mov (.t 0)⟩,
  ⟨some 19, none, .iaddr 1 (.t 18) (.k (.int .i64 5))⟩,
  ⟨some 20, none, .load 1 false (.t 19)⟩,
  ⟨some 21, none, .mov (.t 0)⟩,
  ⟨some 22, none, .iaddr 1 (.t 21) (.k (.int .i64 6))⟩,
  ⟨some 23, none, .load 1 false (.t 22)⟩,
  ⟨some 24, none, .mov (.t 0)⟩,
  ⟨some 25, none, .iaddr 1 (.t 24) (.k (.int .i64 7))⟩,
  ⟨some 26, none, .load 1 false (.t 25)⟩,
  ⟨some 27, none, .mov (.t 0)⟩,
  ⟨some 28, none, .iaddr 1 (.t 27) (.k (.int .i64 8))⟩,
  ⟨some 29, none, .load 1 false (.t 28)⟩,
  ⟨some 30, none, .mov (.t 0)⟩,
  ⟨some 31, none, .iaddr 1 (.t 30) (.k (.int .i64 9))⟩,
  ⟨some 32, none, .load 1 false (.t 31)⟩,
  ⟨some 33, none, .build [.int .i64 0, .int .i64 0, .int .i64 0, .int .i64 0, .int .i64 0, .int .i64 0, .int .i64 0, .int .i64 0, .int .i64 0, .int .i64 0] [(0, 1, (.t 5)), (1, 1, (.t 8)), (2, 1, (.t 11)), (3, 1, (.t 14)), (4, 1, (.t 17)), (5, 1, (.t 20)), (6, 1, (.t 23)), (7, 1, (.t 26)), (8, 1, (.t 29)), (9, 1, (.t 32))]⟩,
  ⟨none, none, .store 10 (.t 2) (.t 33)⟩]
def x49 : XC := (.seq (.ops false r49_0) (.seq (.ops true r49_1) .ret))
theorem F49 : Fn Try.prog 49 34 x49.er [.c 2 10 true] := ⟨Try.f49, hcl, Try.func49, by kernel_rfl, by kernel_rfl, by kernel_rfl, by kernel_rfl⟩
noncomputable def m49 (a0 : List Int) : Option (DS0 × Unit) :=
  cond (bnd 0 (lenI a0))
  (cond (bnd 1 (lenI a0))
   (cond (bnd 2 (lenI a0))
    (cond (bnd 3 (lenI a0))
     (cond (bnd 4 (lenI a0))
      (cond (bnd 5 (lenI a0))
       (cond (bnd 6 (lenI a0))
        (cond (bnd 7 (lenI a0))
         (cond (bnd 8 (lenI a0))
          (cond (bnd 9 (lenI a0))
           (some ((atI a0 0 0, atI a0 1 0, atI a0 2 0, atI a0 3 0, atI a0 4 0, atI a0 5 0, atI a0 6 0, atI a0 7 0, atI a0 8 0, atI a0 9 0, ()), ())) none) none) none) none) none) none) none) none) none) none
noncomputable def cfg49 : Cfg := ⟨ttab, gtab, [], []⟩
theorem eqn49 (x : (List Int) × Unit) : xfun cfg49 x49 34 [.c 2 10 true] [(.list (.int .i64))] [tS0] x = m49 x.1 := by kernel_rfl
noncomputable def i49 : PI := ⟨49, [(.list (.int .i64))], [tS0], fun (x : (List Int) × Unit) => m49 x.1⟩
theorem oki49 : POk Try.prog (gx gtab) i49 := pok mixed (cfg_nil _ _ : CfgOk _ cfg49) F49 eqn49
/- 50 (*treaty/treatyref40.reader).end -/
def r50_0 : List Ins := [⟨some 2, none, .mov (.k (.int .i64 0))⟩]
def r50_1 : List Ins := [⟨some 3, none, .mov (.t 0)⟩,
  ⟨some 4, none, .nck (.t 3)⟩,
  ⟨some 5, none, .faddr 1 (.t 4)⟩,
  ⟨some 6, none, .load 1 false (.t 5)⟩,
  ⟨some 7, none, .bin .eql (.t 6) (.k (.int .i64 0))⟩,
  ⟨some 8, none, .mov (.t 7)⟩,
  ⟨some 9, some (8, true), .mov (.t 0)⟩,
  ⟨some 10, some (8, true), .nck (.t 9)⟩,
  ⟨some 11, some (8, true), .faddr 0 (.t 10)⟩,
  ⟨some 12, some (8, true), .load 1 false (.t 11)⟩,
  ⟨some 13, some (8, true), .len (.t 12)⟩,
  ⟨some 14, some (8, true), .bin .gtr (.t 13) (.k (.int .i64 0))⟩,
  ⟨some 15, none, .pick (.t 8) (.t 14) (.k (.bool false))⟩]
def r50_2 : List Ins := [⟨some 16, none, .mov (.t 0)⟩,
  ⟨some 17, none, .nck (.t 16)⟩,
  ⟨some 18, none, .faddr 1 (.t 17)⟩,
  ⟨none, none, .store 1 (.t 18) (.k (.int .i64 5))⟩]
def r50_3 : List Ins := [⟨some 19, none, .mov (.t 0)⟩,
  ⟨some 20, none, .nck (.t 19)⟩,
  ⟨some 21, none, .faddr 1 (.t 20)⟩,
  ⟨some 22, none, .load 1 false (.t 21)⟩,
  ⟨some 2, none, .mov (.t 22)⟩]
def x50 : XC := (.seq (.ops false r50_0) (.seq (.seq (.ops false r50_1) (.cond (.t 15) (.ops false r50_2) .skip)) (.seq (.ops false r50_3) .ret)))
theorem F50 : Fn Try.prog 50 23 x50.er [.t 2] := ⟨Try.f50, hcl, Try.func50, by kernel_rfl, by kernel_rfl, by kernel_rfl, by kernel_rfl⟩
noncomputable def m50 (a0 : List Int) (a1 : Int) : Option (Int × (List Int) × Int × Unit) :=
  cond (cond (iEq a1 0) (iLt 0 (lenI a0)) false)
  (some (5, a0, 5, ()))
  (some (a1, a0, a1, ()))
noncomputable def cfg50 : Cfg := ⟨ttab, gtab, [], []⟩
def ish50 : Sh := ⟨1, [], [(0, .ptr 0 0 0)], [.box 86 [.d (.list (.int .u8)), .d (.int .i64)]]⟩
def osh50 : Sh := ⟨1, [(0, (.int .i64))], [], [.box 86 [.d (.list (.int .u8)), .d (.int .i64)]]⟩
theorem eqn50 (x : (List Int) × Int × Unit) : xfunH cfg50 x50 23 [.t 2] [] ish50 osh50 x = m50 x.1 x.2.1 := by kernel_rfl
noncomputable def h50 : HI := ⟨50, ish50, osh50, fun (x : (List Int) × Int × Unit) => m50 x.1 x.2.1⟩
theorem okh50 : HOk Try.prog (gx gtab) h50 := hok mixed (cfg_nil _ _ : CfgOk _ cfg50) F50 eqn50
/- 23 treaty/treatyref40.DecodeCommand -/
def r23_0 : List Ins := [⟨some 2, none, .alloc 38 (.agg #[.int .i64 0, .slice none 0 0, .int .i64 0, .int .i64 0, .int .i64 0, .int .i64 0])⟩,
  ⟨some 3, none, .mov (.k (.int .i64 0))⟩]
def r23_1 : List Ins := [⟨some 10, none, .mov (.t 0)⟩,
  ⟨some 11, none, .build [.slice none 0 0, .int .i64 0] [(0, 1, (.t 10))]⟩,
  ⟨some 12, none, .box 86 2 (.t 11)⟩,
  ⟨some 4, none, .mov (.t 12)⟩]
def r23_2 : List Ins := [⟨some 13, none, .mov (.t 4)⟩,
  ⟨some 14, none, .call (.k (.func (.func 47) #[] #[])) [(.t 13)]⟩,
  ⟨some 15, none, .build [.int .i64 0, .slice none 0 0, .int .i64 0, .int .i64 0, .int .i64 0, .int .i64 0] [(0, 1, (.t 14))]⟩,
  ⟨some 5, none, .alloc 38 (.agg #[.int .i64 0, .slice none 0 0, .int .i64 0, .int .i64 0, .int .i64 0, .int .i64 0])⟩,
  ⟨none, none, .store 6 (.t 5) (.t 15)⟩]
def r23_3 : List Ins := [⟨some 16, none, .mov (.t 4)⟩,
  ⟨some 17, none, .nck (.t 16)⟩,
  ⟨some 18, none, .faddr 1 (.t 17)⟩,
  ⟨some 19, none, .load 1 false (.t 18)⟩,
  ⟨some 20, none, .bin .neq (.t 19) (.k (.int .i64 0))⟩]
def r23_4 : List (Nat × Ins) := [(0, ⟨some 21, none, .build [.int .i64 0, .slice none 0 0, .int .i64 0, .int .i64 0, .int .i64 0, .int .i64 0] []⟩),
  (0, ⟨some 22, none, .mov (.t 4)⟩),
  (0, ⟨some 23, none, .nck (.t 22)⟩),
  (0, ⟨some 24, none, .faddr 1 (.t 23)⟩),
  (1, ⟨some 25, none, .load 1 false (.t 24)⟩),
  (2, ⟨none, none, .store 6 (.t 2) (.t 21)⟩),
  (0, ⟨some 3, none, .mov (.t 25)⟩)]
def r23_5 : List Ins := [⟨some 26, none, .faddr 0 (.t 5)⟩,
  ⟨some 27, none, .load 1 false (.t 26)⟩]
def r23_6 : List Ins := [⟨some 30, none, .bin .eql (.t 27) (.k (.int .i64 1))⟩,
  ⟨some 29, none, .mov (.t 30)⟩]
def r23_7 : List Ins := [⟨some 31, none, .mov (.t 4)⟩,
  ⟨some 32, none, .call (.k (.func (.func 48) #[] #[])) [(.t 31), (.k (.int .i64 64))]⟩,
  ⟨some 6, none, .mov (.t 32)⟩]
def r23_8 : List Ins := [⟨some 33, none, .mov (.t 6)⟩,
  ⟨some 34, none, .bin .gtr (.t 33) (.k (.int .i64 0))⟩]
def r23_9 : List Ins := [⟨some 37, none, .mk 3 1 8 (.int .i64 0) (.k (.int .i64 10))⟩,
  ⟨some 7, none, .mov (.t 37)⟩]
def r23_10 : List Ins := [⟨some 38, none, .mov (.t 7)⟩,
  ⟨some 39, none, .len (.t 38)⟩,
  ⟨some 40, none, .mov (.k (.int .i64 0))⟩]
def r23_11 : List Ins := [⟨some 41, none, .bin .lss (.t 40) (.t 39)⟩]
def r23_12 : List Ins := [⟨some 42, none, .mov (.t 40)⟩,
  ⟨some 8, none, .mov (.t 42)⟩]
def r23_13 : List Ins := [⟨some 43, none, .mov (.t 7)⟩,
  ⟨some 44, none, .mov (.t 8)⟩,
  ⟨some 45, none, .mov (.t 4)⟩,
  ⟨some 46, none, .call (.k (.func (.func 47) #[] #[])) [(.t 45)]⟩,
  ⟨some 47, none, .iaddr 1 (.t 43) (.t 44)⟩,
  ⟨none, none, .store 1 (.t 47) (.t 46)⟩]
def r23_14 : List Ins := [⟨some 48, none, .bin .add (.t 40) (.k (.int .i64 1))⟩,
  ⟨some 40, none, .mov (.t 48)⟩]
def r23_15 : List (Nat × Ins) := [(0, ⟨some 49, none, .faddr 1 (.t 5)⟩),
  (1, ⟨some 50, none, .load 1 false (.t 49)⟩),
  (0, ⟨some 51, none, .mov (.t 7)⟩),
  (0, ⟨some 52, none, .call (.k (.func (.func 49) #[] #[])) [(.t 51)]⟩),
  (2, ⟨some 53, none, .bslice 76 10 [(.t 52)]⟩),
  (0, ⟨some 54, none, .app 76 10 80 (.t 50) (.t 53)⟩),
  (0, ⟨some 55, none, .faddr 1 (.t 5)⟩),
  (0, ⟨none, none, .store 1 (.t 55) (.t 54)⟩)]
def r23_16 : List Ins := [⟨some 35, none, .mov (.t 6)⟩,
  ⟨some 36, none, .bin .sub (.t 35) (.k (.int .i64 1))⟩,
  ⟨some 6, none, .mov (.t 36)⟩]
def r23_17 : List Ins := [⟨some 57, none, .bin .eql (.t 27) (.k (.int .i64 2))⟩,
  ⟨some 56, none, .mov (.t 57)⟩]
def r23_18 : List Ins := [⟨some 59, none, .bin .eql (.t 27) (.k (.int .i64 3))⟩,
  ⟨some 58, none, .mov (.t 59)⟩]
def r23_19 : List Ins := [⟨some 60, none, .mov (.t 4)⟩,
  ⟨some 61, none, .call (.k (.func (.func 47) #[] #[])) [(.t 60)]⟩,
  ⟨some 62, none, .faddr 2 (.t 5)⟩,
  ⟨none, none, .store 1 (.t 62) (.t 61)⟩]
def r23_20 : List Ins := [⟨some 63, none, .mov (.t 4)⟩,
  ⟨some 64, none, .call (.k (.func (.func 47) #[] #[])) [(.t 63)]⟩,
  ⟨some 65, none, .faddr 4 (.t 5)⟩,
  ⟨none, none, .store 1 (.t 65) (.t 64)⟩]
def r23_21 : List Ins := [⟨some 67, none, .bin .eql (.t 27) (.k (.int .i64 4))⟩,
  ⟨some 66, none, .mov (.t 67)⟩]
def r23_22 : List Ins := [⟨some 68, none, .mov (.t 4)⟩,
  ⟨some 69, none, .call (.k (.func (.func 47) #[] #[])) [(.t 68)]⟩,
  ⟨some 70, none, .faddr 2 (.t 5)⟩,
  ⟨none, none, .store 1 (.t 70) (.t 69)⟩]
def r23_23 : List Ins := [⟨some 71, none, .mov (.t 4)⟩,
  ⟨some 72, none, .call (.k (.func (.func 47) #[] #[])) [(.t 71)]⟩,
  ⟨some 73, none, .faddr 4 (.t 5)⟩,
  ⟨none, none, .store 1 (.t 73) (.t 72)⟩]
def r23_24 : List Ins := [⟨some 74, none, .mov (.t 4)⟩,
  ⟨some 75, none, .call (.k (.func (.func 47) #[] #[])) [(.t 74)]⟩,
  ⟨some 76, none, .faddr 5 (.t 5)⟩,
  ⟨none, none, .store 1 (.t 76) (.t 75)⟩]
def r23_25 : List Ins := [⟨some 78, none, .bin .eql (.t 27) (.k (.int .i64 5))⟩,
  ⟨some 77, none, .mov (.t 78)⟩]
def r23_26 : List Ins := [⟨some 79, none, .mov (.t 4)⟩,
  ⟨some 80, none, .call (.k (.func (.func 47) #[] #[])) [(.t 79)]⟩,
  ⟨some 81, none, .faddr 2 (.t 5)⟩,
  ⟨none, none, .store 1 (.t 81) (.t 80)⟩]
def r23_27 : List Ins := [⟨some 82, none, .mov (.t 4)⟩,
  ⟨some 83, none, .call (.k (.func (.func 47) #[] #[])) [(.t 82)]⟩,
  ⟨some 84, none, .faddr 3 (.t 5)⟩,
  ⟨none, none, .store 1 (.t 84) (.t 83)⟩]
def r23_28 : List Ins := [⟨some 28, none, .build [.int .i64 0, .slice none 0 0, .int .i64 0, .int .i64 0, .int .i64 0, .int .i64 0] []⟩,
  ⟨none, none, .store 6 (.t 2) (.t 28)⟩,
  ⟨some 3, none, .mov (.k (.int .i64 11))⟩]
def r23_29 : List Ins := [⟨some 85, none, .mov (.t 4)⟩,
  ⟨some 86, none, .call (.k (.func (.func 50) #[] #[])) [(.t 85)]⟩,
  ⟨some 9, none, .mov (.t 86)⟩]
def r23_30 : List Ins := [⟨some 87, none, .mov (.t 9)⟩,
  ⟨some 88, none, .bin .neq (.t 87) (.k (.int .i64 0))⟩]
def r23_31 : List Ins := [⟨some 89, none, .build [.int .i64 0, .slice none 0 0, .int .i64 0, .int .i64 0, .int .i64 0, .int .i64 0] []⟩,
  ⟨some 90, none, .mov (.t 9)⟩,
  ⟨none, none, .store 6 (.t 2) (.t 89)⟩,
  ⟨some 3, none, .mov (.t 90)⟩]
def r23_32 : List Ins := [⟨some 91, none, .load 6 true (.t 5)⟩,
  ⟨none, none, .store 6 (.t 2) (.t 91)⟩,
  ⟨some 3, none, .mov (.k (.int .i64 0))⟩]
def x23 : XC := (.seq (.ops false r23_0) (.seq (.ops false r23_1) (.seq (.ops false r23_2) (.seq (.seq (.ops false r23_3) (.cond (.t 20) (.seq (.rops [0] r23_4) .ret) .skip)) (.seq (.seq (.ops false r23_5) (.block 0 (.seq (.ops false r23_6) (.cond (.t 29) (.seq (.ops false r23_7) (.block 1 (.loop [.ghc 5 1 76 tS0] ⟨92, [(6, (.int .i64))], [(2, .ptr 0 0 0), (4, .ptr 1 0 0), (5, .ptr 2 0 0)], [.box 38 [.d (.int .i64), .nil, .d (.int .i64), .d (.int .i64), .d (.int .i64), .d (.int .i64)], .box 86 [.d (.list (.int .u8)), .d (.int .i64)], .box 38 [.d (.int .i64), .row 3, .d (.int .i64), .d (.int .i64), .d (.int .i64), .d (.int .i64)], .row 76 tS0 false]⟩ (.seq (.seq (.ops false r23_8) (.cond (.t 34) .skip (.exit 1))) (.seq (.block 2 (.seq (.ops false r23_9) (.seq (.seq (.ops false r23_10) (.block 3 (.loop [.ghc 5 1 76 tS0] ⟨92, [(6, (.int .i64)), (39, (.int .i64)), (40, (.int .i64))], [(2, .ptr 0 0 0), (4, .ptr 1 0 0), (5, .ptr 2 0 0), (7, .row 3)], [.box 38 [.d (.int .i64), .nil, .d (.int .i64), .d (.int .i64), .d (.int .i64), .d (.int .i64)], .box 86 [.d (.list (.int .u8)), .d (.int .i64)], .box 38 [.d (.int .i64), .row 4, .d (.int .i64), .d (.int .i64), .d (.int .i64), .d (.int .i64)], .row 3 (.int .i64) false, .row 76 tS0 false]⟩ (.seq (.ops false r23_11) (.seq (.cond (.t 41) .skip (.exit 3)) (.seq (.block 4 (.seq (.ops false r23_12) (.ops false r23_13))) (.ops false r23_14))))))) (.rops [] r23_15)))) (.ops false r23_16)))))) (.seq (.ops false r23_17) (.cond (.t 56) .skip (.seq (.ops false r23_18) (.cond (.t 58) (.seq (.ops false r23_19) (.ops false r23_20)) (.seq (.ops false r23_21) (.cond (.t 66) (.seq (.ops false r23_22) (.seq (.ops false r23_23) (.ops false r23_24))) (.seq (.ops false r23_25) (.cond (.t 77) (.seq (.ops false r23_26) (.ops false r23_27)) (.seq (.ops false r23_28) .ret))))))))))))) (.seq (.seq (.ops false r23_29) (.seq (.ops false r23_30) (.cond (.t 88) (.seq (.ops false r23_31) .ret) .skip))) (.seq (.ops false r23_32) .ret)))))))
theorem F23 : Fn Try.prog 23 92 x23.er [.c 2 6 true, .t 3] := ⟨Try.f23, hcl, Try.func23, by kernel_rfl, by kernel_rfl, by kernel_rfl, by kernel_rfl⟩
noncomputable def m23 (a0 : List Int) : Option (DS1 × Int × Unit) :=
  (m47 a0 0).bind fun y567 =>
  cond (iNe y567.2.2.1 0)
  (some ((0, ([] : List DS0), 0, 0, 0, 0, ()), y567.2.2.1, ()))
  (cond (iEq y567.1 1)
   ((m48 64 y567.2.1 y567.2.2.1).bind fun y568 =>
    loopO (S := Int × Int × Int × Int × Int × Int × (List Int) × Int × Int × Int × Int × Int × Int × (List DS0) × Unit) (R := DS1 × Int × Unit) (fun s569 =>
     cond (iLt 0 s569.1)
     (cond (fitsI 10 8)
      (loopO (S := Int × Int × Int × Int × Int × Int × Int × Int × (List Int) × Int × Int × Int × Int × Int × Int × (List Int) × (List DS0) × Unit) (R := (Int × Int × Int × Int × Int × Int × (List Int) × Int × Int × Int × Int × Int × Int × (List DS0) × Unit) ⊕ (DS1 × Int × Unit)) (fun s570 =>
        cond (iLt s570.2.2.1 s570.2.1)
        ((m47 s570.2.2.2.2.2.2.2.2.1 s570.2.2.2.2.2.2.2.2.2.1).bind fun y571 =>
         cond (bnd s570.2.2.1 (lenI s570.2.2.2.2.2.2.2.2.2.2.2.2.2.2.2.1))
         (cond (inB (Int.toNat s570.2.2.1) s570.2.2.2.2.2.2.2.2.2.2.2.2.2.2.2.1)
          (some (.inl (s570.1, s570.2.1, iAdd .i64 s570.2.2.1 1, s570.2.2.2.1, s570.2.2.2.2.1, s570.2.2.2.2.2.1, s570.2.2.2.2.2.2.1, s570.2.2.2.2.2.2.2.1, y571.2.1, y571.2.2.1, s570.2.2.2.2.2.2.2.2.2.2.1, s570.2.2.2.2.2.2.2.2.2.2.2.1, s570.2.2.2.2.2.2.2.2.2.2.2.2.1, s570.2.2.2.2.2.2.2.2.2.2.2.2.2.1, s570.2.2.2.2.2.2.2.2.2.2.2.2.2.2.1, List.set s570.2.2.2.2.2.2.2.2.2.2.2.2.2.2.2.1 (Int.toNat s570.2.2.1) y571.1, s570.2.2.2.2.2.2.2.2.2.2.2.2.2.2.2.2.1, ()))) none) none)
        (Option.map Sum.inr ((m49 s570.2.2.2.2.2.2.2.2.2.2.2.2.2.2.2.1).bind fun y572 =>
          cond (fits (List.length s570.2.2.2.2.2.2.2.2.2.2.2.2.2.2.2.2.1 + List.length ([y572.1] : List DS0)) 80)
          (some (.inl (iSub .i64 s570.1 1, s570.2.2.2.1, s570.2.2.2.2.1, s570.2.2.2.2.2.1, s570.2.2.2.2.2.2.1, s570.2.2.2.2.2.2.2.1, s570.2.2.2.2.2.2.2.2.1, s570.2.2.2.2.2.2.2.2.2.1, s570.2.2.2.2.2.2.2.2.2.2.1, s570.2.2.2.2.2.2.2.2.2.2.2.1, s570.2.2.2.2.2.2.2.2.2.2.2.2.1, s570.2.2.2.2.2.2.2.2.2.2.2.2.2.1, s570.2.2.2.2.2.2.2.2.2.2.2.2.2.2.1, s570.2.2.2.2.2.2.2.2.2.2.2.2.2.2.2.2.1 ++ ([y572.1] : List DS0), ()))) none)))
       (s569.1, lenI (List.replicate (Int.toNat 10) 0), 0, s569.2.1, s569.2.2.1, s569.2.2.2.1, s569.2.2.2.2.1, s569.2.2.2.2.2.1, s569.2.2.2.2.2.2.1, s569.2.2.2.2.2.2.2.1, s569.2.2.2.2.2.2.2.2.1, s569.2.2.2.2.2.2.2.2.2.1, s569.2.2.2.2.2.2.2.2.2.2.1, s569.2.2.2.2.2.2.2.2.2.2.2.1, s569.2.2.2.2.2.2.2.2.2.2.2.2.1, List.replicate (Int.toNat 10) 0, s569.2.2.2.2.2.2.2.2.2.2.2.2.2.1, ())) none)
     (Option.map Sum.inr ((m50 s569.2.2.2.2.2.2.1 s569.2.2.2.2.2.2.2.1).bind fun y573 =>
       cond (iNe y573.1 0)
       (some ((0, ([] : List DS0), 0, 0, 0, 0, ()), y573.1, ()))
       (some ((s569.2.2.2.2.2.2.2.2.1, s569.2.2.2.2.2.2.2.2.2.2.2.2.2.1, s569.2.2.2.2.2.2.2.2.2.1, s569.2.2.2.2.2.2.2.2.2.2.1, s569.2.2.2.2.2.2.2.2.2.2.2.1, s569.2.2.2.2.2.2.2.2.2.2.2.2.1, ()), 0, ())))))
    (y568.1, 0, 0, 0, 0, 0, y568.2.1, y568.2.2.1, y567.1, 0, 0, 0, 0, ([] : List DS0), ()))
   (cond (iEq y567.1 2)
    ((m50 y567.2.1 y567.2.2.1).bind fun y574 =>
     cond (iNe y574.1 0)
     (some ((0, ([] : List DS0), 0, 0, 0, 0, ()), y574.1, ()))
     (some ((y567.1, ([] : List DS0), 0, 0, 0, 0, ()), 0, ())))
    (cond (iEq y567.1 3)
     ((m47 y567.2.1 y567.2.2.1).bind fun y575 =>
      (m47 y575.2.1 y575.2.2.1).bind fun y576 =>
      (m50 y576.2.1 y576.2.2.1).bind fun y577 =>
      cond (iNe y577.1 0)
      (some ((0, ([] : List DS0), 0, 0, 0, 0, ()), y577.1, ()))
      (some ((y567.1, ([] : List DS0), y575.1, 0, y576.1, 0, ()), 0, ())))
     (cond (iEq y567.1 4)
      ((m47 y567.2.1 y567.2.2.1).bind fun y578 =>
       (m47 y578.2.1 y578.2.2.1).bind fun y579 =>
       (m47 y579.2.1 y579.2.2.1).bind fun y580 =>
       (m50 y580.2.1 y580.2.2.1).bind fun y581 =>
       cond (iNe y581.1 0)
       (some ((0, ([] : List DS0), 0, 0, 0, 0, ()), y581.1, ()))
       (some ((y567.1, ([] : List DS0), y578.1, 0, y579.1, y580.1, ()), 0, ())))
      (cond (iEq y567.1 5)
       ((m47 y567.2.1 y567.2.2.1).bind fun y582 =>
        (m47 y582.2.1 y582.2.2.1).bind fun y583 =>
        (m50 y583.2.1 y583.2.2.1).bind fun y584 =>
        cond (iNe y584.1 0)
        (some ((0, ([] : List DS0), 0, 0, 0, 0, ()), y584.1, ()))
        (some ((y567.1, ([] : List DS0), y582.1, y583.1, 0, 0, ()), 0, ())))
       (some ((0, ([] : List DS0), 0, 0, 0, 0, ()), 11, ())))))))
noncomputable def cfg23 : Cfg := ⟨ttab, gtab, [i49], [h47, h48, h50]⟩
theorem eqn23 (x : (List Int) × Unit) : xfun cfg23 x23 92 [.c 2 6 true, .t 3] [(.list (.int .u8))] [tS1, (.int .i64)] x = m23 x.1 := by kernel_rfl
noncomputable def i23 : PI := ⟨23, [(.list (.int .u8))], [tS1, (.int .i64)], fun (x : (List Int) × Unit) => m23 x.1⟩
theorem oki23 : POk Try.prog (gx gtab) i23 := pok mixed (cfg_p oki49 (cfg_h okh47 (cfg_h okh48 (cfg_h okh50 (cfg_nil _ _)))) : CfgOk _ cfg23) F23 eqn23
/- 51 treaty/treatyref40.SameLosses -/
def r51_0 : List Ins := [⟨some 4, none, .mov (.k (.bool false))⟩]
def r51_1 : List Ins := [⟨some 6, none, .mov (.t 0)⟩,
  ⟨some 7, none, .len (.t 6)⟩,
  ⟨some 8, none, .mov (.t 1)⟩,
  ⟨some 9, none, .len (.t 8)⟩,
  ⟨some 10, none, .bin .neq (.t 7) (.t 9)⟩]
def r51_2 : List Ins := [⟨some 4, none, .mov (.k (.bool false))⟩]
def r51_3 : List Ins := [⟨some 11, none, .mov (.t 0)⟩,
  ⟨some 12, none, .len (.t 11)⟩,
  ⟨some 13, none, .mov (.k (.int .i64 0))⟩]
def r51_4 : List Ins := [⟨some 14, none, .bin .lss (.t 13) (.t 12)⟩]
def r51_5 : List Ins := [⟨some 15, none, .mov (.t 13)⟩,
  ⟨some 5, none, .mov (.t 15)⟩]
def r51_6 : List Ins := [⟨some 16, none, .mov (.t 0)⟩,
  ⟨some 17, none, .mov (.t 5)⟩,
  ⟨some 18, none, .iaddr 10 (.t 16) (.t 17)⟩,
  ⟨some 19, none, .load 10 true (.t 18)⟩,
  ⟨some 20, none, .mov (.t 1)⟩,
  ⟨some 21, none, .mov (.t 5)⟩,
  ⟨some 22, none, .iaddr 10 (.t 20) (.t 21)⟩,
  ⟨some 23, none, .load 10 true (.t 22)⟩,
  ⟨some 24, none, .aeq true [(0, 1), (1, 1), (2, 1), (3, 1), (4, 1), (5, 1), (6, 1), (7, 1), (8, 1), (9, 1)] (.t 19) (.t 23)⟩]
def r51_7 : List Ins := [⟨some 4, none, .mov (.k (.bool false))⟩]
def r51_8 : List Ins := [⟨some 25, none, .bin .add (.t 13) (.k (.int .i64 1))⟩,
  ⟨some 13, none, .mov (.t 25)⟩]
def r51_9 : List Ins := [⟨some 4, none, .mov (.k (.bool true))⟩]
def x51 : XC := (.seq (.ops false r51_0) (.seq (.seq (.ops false r51_1) (.cond (.t 10) (.seq (.ops false r51_2) .ret) .skip)) (.seq (.seq (.ops false r51_3) (.block 0 (.loop [] ⟨26, [(0, (.list tS0)), (1, (.list tS0)), (12, (.int .i64)), (13, (.int .i64))], [], []⟩ (.seq (.ops false r51_4) (.seq (.cond (.t 14) .skip (.exit 0)) (.seq (.block 1 (.seq (.ops false r51_5) (.seq (.ops true r51_6) (.cond (.t 24) (.seq (.ops false r51_7) .ret) .skip)))) (.ops false r51_8))))))) (.seq (.ops false r51_9) .ret))))
theorem F51 : Fn Try.prog 51 26 x51.er [.t 4] := ⟨Try.f51, hcl, Try.func51, by kernel_rfl, by kernel_rfl, by kernel_rfl, by kernel_rfl⟩
noncomputable def m51 (a0 : List DS0) (a1 : List DS0) : Option (Bool × Unit) :=
  cond (iNe (lenI a0) (lenI a1))
  (some (false, ()))
  (loopO (S := (List DS0) × (List DS0) × Int × Int × Unit) (R := Bool × Unit) (fun s587 =>
    cond (iLt s587.2.2.2.1 s587.2.2.1)
    (cond (bnd s587.2.2.2.1 (lenI s587.1))
     (cond (bnd s587.2.2.2.1 (lenI s587.2.1))
      (cond (not (and (iEq ((atI s587.1 s587.2.2.2.1 (0, 0, 0, 0, 0, 0, 0, 0, 0, 0, ())).1) ((atI s587.2.1 s587.2.2.2.1 (0, 0, 0, 0, 0, 0, 0, 0, 0, 0, ())).1)) (and (iEq ((atI s587.1 s587.2.2.2.1 (0, 0, 0, 0, 0, 0, 0, 0, 0, 0, ())).2.1) ((atI s587.2.1 s587.2.2.2.1 (0, 0, 0, 0, 0, 0, 0, 0, 0, 0, ())).2.1)) (and (iEq ((atI s587.1 s587.2.2.2.1 (0, 0, 0, 0, 0, 0, 0, 0, 0, 0, ())).2.2.1) ((atI s587.2.1 s587.2.2.2.1 (0, 0, 0, 0, 0, 0, 0, 0, 0, 0, ())).2.2.1)) (and (iEq ((atI s587.1 s587.2.2.2.1 (0, 0, 0, 0, 0, 0, 0, 0, 0, 0, ())).2.2.2.1) ((atI s587.2.1 s587.2.2.2.1 (0, 0, 0, 0, 0, 0, 0, 0, 0, 0, ())).2.2.2.1)) (and (iEq ((atI s587.1 s587.2.2.2.1 (0, 0, 0, 0, 0, 0, 0, 0, 0, 0, ())).2.2.2.2.1) ((atI s587.2.1 s587.2.2.2.1 (0, 0, 0, 0, 0, 0, 0, 0, 0, 0, ())).2.2.2.2.1)) (and (iEq ((atI s587.1 s587.2.2.2.1 (0, 0, 0, 0, 0, 0, 0, 0, 0, 0, ())).2.2.2.2.2.1) ((atI s587.2.1 s587.2.2.2.1 (0, 0, 0, 0, 0, 0, 0, 0, 0, 0, ())).2.2.2.2.2.1)) (and (iEq ((atI s587.1 s587.2.2.2.1 (0, 0, 0, 0, 0, 0, 0, 0, 0, 0, ())).2.2.2.2.2.2.1) ((atI s587.2.1 s587.2.2.2.1 (0, 0, 0, 0, 0, 0, 0, 0, 0, 0, ())).2.2.2.2.2.2.1)) (and (iEq ((atI s587.1 s587.2.2.2.1 (0, 0, 0, 0, 0, 0, 0, 0, 0, 0, ())).2.2.2.2.2.2.2.1) ((atI s587.2.1 s587.2.2.2.1 (0, 0, 0, 0, 0, 0, 0, 0, 0, 0, ())).2.2.2.2.2.2.2.1)) (and (iEq ((atI s587.1 s587.2.2.2.1 (0, 0, 0, 0, 0, 0, 0, 0, 0, 0, ())).2.2.2.2.2.2.2.2.1) ((atI s587.2.1 s587.2.2.2.1 (0, 0, 0, 0, 0, 0, 0, 0, 0, 0, ())).2.2.2.2.2.2.2.2.1)) (and (iEq ((atI s587.1 s587.2.2.2.1 (0, 0, 0, 0, 0, 0, 0, 0, 0, 0, ())).2.2.2.2.2.2.2.2.2.1) ((atI s587.2.1 s587.2.2.2.1 (0, 0, 0, 0, 0, 0, 0, 0, 0, 0, ())).2.2.2.2.2.2.2.2.2.1)) true)))))))))))
       (some (.inr (false, ())))
       (some (.inl (s587.1, s587.2.1, s587.2.2.1, iAdd .i64 s587.2.2.2.1 1, ())))) none) none)
    (some (.inr (true, ()))))
   (a0, a1, lenI a0, 0, ()))
noncomputable def cfg51 : Cfg := ⟨ttab, gtab, [], []⟩
theorem eqn51 (x : (List DS0) × (List DS0) × Unit) : xfun cfg51 x51 26 [.t 4] [(.list tS0), (.list tS0)] [.bool] x = m51 x.1 x.2.1 := by kernel_rfl
noncomputable def i51 : PI := ⟨51, [(.list tS0), (.list tS0)], [.bool], fun (x : (List DS0) × (List DS0) × Unit) => m51 x.1 x.2.1⟩
theorem oki51 : POk Try.prog (gx gtab) i51 := pok mixed (cfg_nil _ _ : CfgOk _ cfg51) F51 eqn51
/- 24 treaty/treatyref40.SameCommand -/
def r24_0 : List Ins := [⟨some 2, none, .box 38 6 (.t 0)⟩,
  ⟨some 3, none, .box 38 6 (.t 1)⟩,
  ⟨some 4, none, .mov (.k (.bool false))⟩]
def r24_1 : List Ins := [⟨some 5, none, .faddr 0 (.t 2)⟩,
  ⟨some 6, none, .load 1 false (.t 5)⟩,
  ⟨some 7, none, .faddr 0 (.t 3)⟩,
  ⟨some 8, none, .load 1 false (.t 7)⟩,
  ⟨some 9, none, .bin .eql (.t 6) (.t 8)⟩,
  ⟨some 10, none, .mov (.t 9)⟩,
  ⟨some 11, some (10, true), .faddr 1 (.t 2)⟩,
  ⟨some 12, some (10, true), .load 1 false (.t 11)⟩,
  ⟨some 13, some (10, true), .faddr 1 (.t 3)⟩,
  ⟨some 14, some (10, true), .load 1 false (.t 13)⟩,
  ⟨some 15, some (10, true), .call (.k (.func (.func 51) #[] #[])) [(.t 12), (.t 14)]⟩,
  ⟨some 16, none, .pick (.t 10) (.t 15) (.k (.bool false))⟩,
  ⟨some 17, none, .mov (.t 16)⟩,
  ⟨some 18, some (17, true), .faddr 2 (.t 2)⟩,
  ⟨some 19, some (17, true), .load 1 false (.t 18)⟩,
  ⟨some 20, some (17, true), .faddr 2 (.t 3)⟩,
  ⟨some 21, some (17, true), .load 1 false (.t 20)⟩,
  ⟨some 22, some (17, true), .bin .eql (.t 19) (.t 21)⟩,
  ⟨some 23, none, .pick (.t 17) (.t 22) (.k (.bool false))⟩,
  ⟨some 24, none, .mov (.t 23)⟩,
  ⟨some 25, some (24, true), .faddr 3 (.t 2)⟩,
  ⟨some 26, some (24, true), .load 1 false (.t 25)⟩,
  ⟨some 27, some (24, true), .faddr 3 (.t 3)⟩,
  ⟨some 28, some (24, true), .load 1 false (.t 27)⟩,
  ⟨some 29, some (24, true), .bin .eql (.t 26) (.t 28)⟩,
  ⟨some 30, none, .pick (.t 24) (.t 29) (.k (.bool false))⟩,
  ⟨some 31, none, .mov (.t 30)⟩,
  ⟨some 32, some (31, true), .faddr 4 (.t 2)⟩,
  ⟨some 33, some (31, true), .load 1 false (.t 32)⟩,
  ⟨some 34, some (31, true), .faddr 4 (.t 3)⟩,
  ⟨some 35, some (31, true), .load 1 false (.t 34)⟩,
  ⟨some 36, some (31, true), .bin .eql (.t 33) (.t 35)⟩,
  ⟨some 37, none, .pick (.t 31) (.t 36) (.k (.bool false))⟩,
  ⟨some 38, none, .mov (.t 37)⟩,
  ⟨some 39, some (38, true), .faddr 5 (.t 2)⟩,
  ⟨some 40, some (38, true), .load 1 false (.t 39)⟩,
  ⟨some 41, some (38, true), .faddr 5 (.t 3)⟩,
  ⟨some 42, some (38, true), .load 1 false (.t 41)⟩,
  ⟨some 43, some (38, true), .bin .eql (.t 40) (.t 42)⟩,
  ⟨some 44, none, .pick (.t 38) (.t 43) (.k (.bool false))⟩,
  ⟨some 4, none, .mov (.t 44)⟩]
def x24 : XC := (.seq (.ops false r24_0) (.seq (.ops false r24_1) .ret))
theorem F24 : Fn Try.prog 24 45 x24.er [.t 4] := ⟨Try.f24, hcl, Try.func24, by kernel_rfl, by kernel_rfl, by kernel_rfl, by kernel_rfl⟩
noncomputable def m24 (a0 : DS1) (a1 : DS1) : Option (Bool × Unit) :=
  cond (iEq a0.1 a1.1)
  ((m51 a0.2.1 a1.2.1).bind fun y588 =>
   some (cond (cond (cond (cond y588.1 (iEq a0.2.2.1 a1.2.2.1) false) (iEq a0.2.2.2.1 a1.2.2.2.1) false) (iEq a0.2.2.2.2.1 a1.2.2.2.2.1) false) (iEq a0.2.2.2.2.2.1 a1.2.2.2.2.2.1) false, ()))
  (some (false, ()))
noncomputable def cfg24 : Cfg := ⟨ttab, gtab, [i51], []⟩
theorem eqn24 (x : DS1 × DS1 × Unit) : xfun cfg24 x24 45 [.t 4] [tS1, tS1] [.bool] x = m24 x.1 x.2.1 := by kernel_rfl
noncomputable def i24 : PI := ⟨24, [tS1, tS1], [.bool], fun (x : DS1 × DS1 × Unit) => m24 x.1 x.2.1⟩
theorem oki24 : POk Try.prog (gx gtab) i24 := pok mixed (cfg_p oki51 (cfg_nil _ _) : CfgOk _ cfg24) F24 eqn24
/- 5 treaty/treatylaw40.CodecCommand -/
def r5_0 : List Ins := [⟨some 5, none, .box 38 6 (.t 0)⟩,
  ⟨some 10, none, .mov (.k (.bool false))⟩]
def r5_1 : List Ins := [⟨some 26, none, .faddr 1 (.t 5)⟩,
  ⟨some 27, none, .load 1 false (.t 26)⟩,
  ⟨some 28, none, .len (.t 27)⟩,
  ⟨some 29, none, .bin .gtr (.t 28) (.k (.int .i64 80))⟩,
  ⟨some 30, none, .mov (.t 29)⟩,
  ⟨some 31, some (30, false), .mov (.t 1)⟩,
  ⟨some 32, some (30, false), .len (.t 31)⟩,
  ⟨some 33, some (30, false), .bin .gtr (.t 32) (.k (.int .i64 400))⟩,
  ⟨some 34, none, .pick (.t 30) (.k (.bool true)) (.t 33)⟩]
def r5_2 : List Ins := [⟨some 35, none, .call (.k (.func (.func 9) #[] #[])) []⟩,
  ⟨some 10, none, .mov (.t 35)⟩]
def r5_3 : List Ins := [⟨some 36, none, .mov (.t 2)⟩,
  ⟨some 37, none, .call (.k (.func (.func 10) #[] #[])) [(.t 36)]⟩,
  ⟨some 38, none, .call (.k (.func (.func 18) #[] #[])) [(.t 37)]⟩,
  ⟨some 11, none, .alloc 38 (.agg #[.int .i64 0, .slice none 0 0, .int .i64 0, .int .i64 0, .int .i64 0, .int .i64 0])⟩,
  ⟨none, none, .store 6 (.t 11) (.t 38)⟩]
def r5_4 : List Ins := [⟨some 39, none, .load 6 true (.t 5)⟩,
  ⟨some 40, none, .load 6 true (.t 11)⟩,
  ⟨some 41, none, .bslice 38 6 [(.t 39), (.t 40)]⟩,
  ⟨some 42, none, .len (.t 41)⟩,
  ⟨some 43, none, .mov (.k (.int .i64 0))⟩]
def r5_5 : List Ins := [⟨some 44, none, .bin .lss (.t 43) (.t 42)⟩]
def r5_6 : List Ins := [⟨some 45, none, .iaddr 6 (.t 41) (.t 43)⟩,
  ⟨some 46, none, .load 6 true (.t 45)⟩,
  ⟨some 13, none, .alloc 38 (.agg #[.int .i64 0, .slice none 0 0, .int .i64 0, .int .i64 0, .int .i64 0, .int .i64 0])⟩,
  ⟨none, none, .store 6 (.t 13) (.t 46)⟩]
def r5_7 : List Ins := [⟨some 48, none, .load 6 true (.t 13)⟩,
  ⟨some 49, none, .call (.k (.func (.func 19) #[] #[])) [(.t 48)]⟩,
  ⟨some 47, none, .mov (.t 49)⟩,
  ⟨some 50, none, .ext 0 (.t 47)⟩,
  ⟨some 51, none, .ext 1 (.t 47)⟩,
  ⟨some 14, none, .mov (.t 50)⟩,
  ⟨some 15, none, .mov (.t 51)⟩]
def r5_8 : List Ins := [⟨some 53, none, .load 6 true (.t 13)⟩,
  ⟨some 54, none, .call (.k (.func (.func 20) #[] #[])) [(.t 53)]⟩,
  ⟨some 52, none, .mov (.t 54)⟩,
  ⟨some 55, none, .ext 0 (.t 52)⟩,
  ⟨some 56, none, .ext 1 (.t 52)⟩,
  ⟨some 16, none, .mov (.t 55)⟩,
  ⟨some 17, none, .mov (.t 56)⟩]
def r5_9 : List Ins := [⟨some 57, none, .mov (.t 14)⟩,
  ⟨some 58, none, .mov (.t 16)⟩,
  ⟨some 59, none, .call (.k (.func (.func 15) #[] #[])) [(.t 57), (.t 58)]⟩,
  ⟨some 60, none, .un .not (.t 59)⟩,
  ⟨some 61, none, .mov (.t 60)⟩,
  ⟨some 62, some (61, false), .mov (.t 15)⟩,
  ⟨some 63, some (61, false), .mov (.t 17)⟩,
  ⟨some 64, some (61, false), .bin .neq (.t 62) (.t 63)⟩,
  ⟨some 65, none, .pick (.t 61) (.k (.bool true)) (.t 64)⟩]
def r5_10 : List Ins := [⟨some 10, none, .mov (.k (.bool false))⟩]
def r5_11 : List Ins := [⟨some 66, none, .bin .add (.t 43) (.k (.int .i64 1))⟩,
  ⟨some 43, none, .mov (.t 66)⟩]
def r5_12 : List Ins := [⟨some 68, none, .load 6 true (.t 11)⟩,
  ⟨some 69, none, .call (.k (.func (.func 20) #[] #[])) [(.t 68)]⟩,
  ⟨some 67, none, .mov (.t 69)⟩,
  ⟨some 70, none, .ext 0 (.t 67)⟩,
  ⟨some 71, none, .ext 1 (.t 67)⟩,
  ⟨some 18, none, .mov (.t 70)⟩,
  ⟨some 19, none, .mov (.t 71)⟩]
def r5_13 : List Ins := [⟨some 72, none, .mov (.t 19)⟩,
  ⟨some 73, none, .bin .neq (.t 72) (.k (.int .i64 0))⟩]
def r5_14 : List Ins := [⟨some 10, none, .mov (.k (.bool false))⟩]
def r5_15 : List Ins := [⟨some 74, none, .mov (.t 1)⟩,
  ⟨some 75, none, .mov (.t 18)⟩,
  ⟨some 76, none, .mov (.t 18)⟩,
  ⟨some 77, none, .mov (.t 3)⟩,
  ⟨some 78, none, .mov (.t 4)⟩,
  ⟨some 79, none, .call (.k (.func (.func 21) #[] #[])) [(.t 76), (.t 77), (.t 78)]⟩,
  ⟨some 80, none, .bslice 22 1 [(.t 74), (.t 75), (.t 79)]⟩,
  ⟨some 81, none, .len (.t 80)⟩,
  ⟨some 82, none, .mov (.k (.int .i64 0))⟩]
def r5_16 : List Ins := [⟨some 83, none, .bin .lss (.t 82) (.t 81)⟩]
def r5_17 : List Ins := [⟨some 84, none, .iaddr 1 (.t 80) (.t 82)⟩,
  ⟨some 85, none, .load 1 false (.t 84)⟩,
  ⟨some 21, none, .mov (.t 85)⟩]
def r5_18 : List Ins := [⟨some 87, none, .mov (.t 21)⟩,
  ⟨some 88, none, .call (.k (.func (.func 22) #[] #[])) [(.t 87)]⟩,
  ⟨some 86, none, .mov (.t 88)⟩,
  ⟨some 89, none, .ext 0 (.t 86)⟩,
  ⟨some 90, none, .ext 1 (.t 86)⟩,
  ⟨some 22, none, .alloc 38 (.agg #[.int .i64 0, .slice none 0 0, .int .i64 0, .int .i64 0, .int .i64 0, .int .i64 0])⟩,
  ⟨none, none, .store 6 (.t 22) (.t 89)⟩,
  ⟨some 23, none, .mov (.t 90)⟩]
def r5_19 : List Ins := [⟨some 92, none, .mov (.t 21)⟩,
  ⟨some 93, none, .call (.k (.func (.func 23) #[] #[])) [(.t 92)]⟩,
  ⟨some 91, none, .mov (.t 93)⟩,
  ⟨some 94, none, .ext 0 (.t 91)⟩,
  ⟨some 95, none, .ext 1 (.t 91)⟩,
  ⟨some 24, none, .alloc 38 (.agg #[.int .i64 0, .slice none 0 0, .int .i64 0, .int .i64 0, .int .i64 0, .int .i64 0])⟩,
  ⟨none, none, .store 6 (.t 24) (.t 94)⟩,
  ⟨some 25, none, .mov (.t 95)⟩]
def r5_20 : List Ins := [⟨some 96, none, .load 6 true (.t 22)⟩,
  ⟨some 97, none, .load 6 true (.t 24)⟩,
  ⟨some 98, none, .call (.k (.func (.func 24) #[] #[])) [(.t 96), (.t 97)]⟩,
  ⟨some 99, none, .un .not (.t 98)⟩,
  ⟨some 100, none, .mov (.t 99)⟩,
  ⟨some 101, some (100, false), .mov (.t 23)⟩,
  ⟨some 102, some (100, false), .mov (.t 25)⟩,
  ⟨some 103, some (100, false), .bin .neq (.t 101) (.t 102)⟩,
  ⟨some 104, none, .pick (.t 100) (.k (.bool true)) (.t 103)⟩]
def r5_21 : List Ins := [⟨some 10, none, .mov (.k (.bool false))⟩]
def r5_22 : List Ins := [⟨some 105, none, .bin .add (.t 82) (.k (.int .i64 1))⟩,
  ⟨some 82, none, .mov (.t 105)⟩]
def r5_23 : List Ins := [⟨some 106, none, .call (.k (.func (.func 9) #[] #[])) []⟩,
  ⟨some 10, none, .mov (.t 106)⟩]
def x5 : XC := (.seq (.ops false r5_0) (.seq (.seq (.ops false r5_1) (.cond (.t 34) (.seq (.ops false r5_2) .ret) .skip)) (.seq (.ops false r5_3) (.seq (.seq (.ops false r5_4) (.block 0 (.loop [] ⟨107, [(1, (.list (.int .u8))), (3, (.int .i64)), (4, (.int .u8)), (42, (.int .i64)), (43, (.int .i64))], [(11, .ptr 0 0 0), (41, .row 1)], [.box 38 [.d (.int .i64), .d (.list tS0), .d (.int .i64), .d (.int .i64), .d (.int .i64), .d (.int .i64)], .row 38 tS1 false]⟩ (.seq (.ops false r5_5) (.seq (.cond (.t 44) .skip (.exit 0)) (.seq (.block 1 (.seq (.ops false r5_6) (.seq (.ops false r5_7) (.seq (.ops false r5_8) (.seq (.ops false r5_9) (.cond (.t 65) (.seq (.ops false r5_10) .ret) .skip)))))) (.ops false r5_11))))))) (.seq (.ops false r5_12) (.seq (.seq (.ops false r5_13) (.cond (.t 73) (.seq (.ops false r5_14) .ret) .skip)) (.seq (.seq (.ops false r5_15) (.block 2 (.loop [] ⟨107, [(81, (.int .i64)), (82, (.int .i64))], [(80, .row 0)], [.row 22 (.list (.int .u8)) false]⟩ (.seq (.ops false r5_16) (.seq (.cond (.t 83) .skip (.exit 2)) (.seq (.block 3 (.seq (.ops false r5_17) (.seq (.ops false r5_18) (.seq (.ops false r5_19) (.seq (.ops false r5_20) (.cond (.t 104) (.seq (.ops false r5_21) .ret) .skip)))))) (.ops false r5_22))))))) (.seq (.ops false r5_23) .ret))))))))
theorem F5 : Fn Try.prog 5 107 x5.er [.t 10] := ⟨Try.f5, hcl, Try.func5, by kernel_rfl, by kernel_rfl, by kernel_rfl, by kernel_rfl⟩
noncomputable def m5 (a0 : DS1) (a1 : List Int) (a2 : List Int) (a3 : Int) (a4 : Int) : Option (Bool × Unit) :=
  cond (cond (iLt 80 (lenI a0.2.1)) true (iLt 400 (lenI a1)))
  ((m9).bind fun y591 =>
   some (y591.1, ()))
  ((m10 a2).bind fun y592 =>
   (m18 y592.1 y592.2.1).bind fun y593 =>
   loopO (S := (List Int) × Int × Int × Int × Int × Int × (List DS0) × Int × Int × Int × Int × (List DS1) × Unit) (R := Bool × Unit) (fun s594 =>
    cond (iLt s594.2.2.2.2.1 s594.2.2.2.1)
    (cond (bnd s594.2.2.2.2.1 (lenI s594.2.2.2.2.2.2.2.2.2.2.2.1))
     (cond (inB (Int.toNat s594.2.2.2.2.1) s594.2.2.2.2.2.2.2.2.2.2.2.1)
      ((m19 ((List.getD s594.2.2.2.2.2.2.2.2.2.2.2.1 (Int.toNat s594.2.2.2.2.1) (0, [], 0, 0, 0, 0, ())).1, (List.getD s594.2.2.2.2.2.2.2.2.2.2.2.1 (Int.toNat s594.2.2.2.2.1) (0, [], 0, 0, 0, 0, ())).2.1, (List.getD s594.2.2.2.2.2.2.2.2.2.2.2.1 (Int.toNat s594.2.2.2.2.1) (0, [], 0, 0, 0, 0, ())).2.2.1, (List.getD s594.2.2.2.2.2.2.2.2.2.2.2.1 (Int.toNat s594.2.2.2.2.1) (0, [], 0, 0, 0, 0, ())).2.2.2.1, (List.getD s594.2.2.2.2.2.2.2.2.2.2.2.1 (Int.toNat s594.2.2.2.2.1) (0, [], 0, 0, 0, 0, ())).2.2.2.2.1, (List.getD s594.2.2.2.2.2.2.2.2.2.2.2.1 (Int.toNat s594.2.2.2.2.1) (0, [], 0, 0, 0, 0, ())).2.2.2.2.2.1, ())).bind fun y595 =>
       (m20 ((List.getD s594.2.2.2.2.2.2.2.2.2.2.2.1 (Int.toNat s594.2.2.2.2.1) (0, [], 0, 0, 0, 0, ())).1, (List.getD s594.2.2.2.2.2.2.2.2.2.2.2.1 (Int.toNat s594.2.2.2.2.1) (0, [], 0, 0, 0, 0, ())).2.1, (List.getD s594.2.2.2.2.2.2.2.2.2.2.2.1 (Int.toNat s594.2.2.2.2.1) (0, [], 0, 0, 0, 0, ())).2.2.1, (List.getD s594.2.2.2.2.2.2.2.2.2.2.2.1 (Int.toNat s594.2.2.2.2.1) (0, [], 0, 0, 0, 0, ())).2.2.2.1, (List.getD s594.2.2.2.2.2.2.2.2.2.2.2.1 (Int.toNat s594.2.2.2.2.1) (0, [], 0, 0, 0, 0, ())).2.2.2.2.1, (List.getD s594.2.2.2.2.2.2.2.2.2.2.2.1 (Int.toNat s594.2.2.2.2.1) (0, [], 0, 0, 0, 0, ())).2.2.2.2.2.1, ())).bind fun y596 =>
       (m15 y595.1 y596.1).bind fun y597 =>
       cond (cond (not y597.1) true (iNe y595.2.1 y596.2.1))
       (some (.inr (false, ())))
       (some (.inl (s594.1, s594.2.1, s594.2.2.1, s594.2.2.2.1, iAdd .i64 s594.2.2.2.2.1 1, s594.2.2.2.2.2.1, s594.2.2.2.2.2.2.1, s594.2.2.2.2.2.2.2.1, s594.2.2.2.2.2.2.2.2.1, s594.2.2.2.2.2.2.2.2.2.1, s594.2.2.2.2.2.2.2.2.2.2.1, s594.2.2.2.2.2.2.2.2.2.2.2.1, ())))) none) none)
    (Option.map Sum.inr ((m20 (s594.2.2.2.2.2.1, s594.2.2.2.2.2.2.1, s594.2.2.2.2.2.2.2.1, s594.2.2.2.2.2.2.2.2.1, s594.2.2.2.2.2.2.2.2.2.1, s594.2.2.2.2.2.2.2.2.2.2.1, ())).bind fun y598 =>
      cond (iNe y598.2.1 0)
      (some (false, ()))
      ((m21 y598.1 s594.2.1 s594.2.2.1).bind fun y599 =>
       loopO (S := Int × Int × (List (List Int)) × Unit) (R := Bool × Unit) (fun s600 =>
        cond (iLt s600.2.1 s600.1)
        (cond (bnd s600.2.1 (lenI s600.2.2.1))
         (cond (inB (Int.toNat s600.2.1) s600.2.2.1)
          ((m22 (List.getD s600.2.2.1 (Int.toNat s600.2.1) [])).bind fun y601 =>
           (m23 (List.getD s600.2.2.1 (Int.toNat s600.2.1) [])).bind fun y602 =>
           (m24 (y601.1.1, y601.1.2.1, y601.1.2.2.1, y601.1.2.2.2.1, y601.1.2.2.2.2.1, y601.1.2.2.2.2.2.1, ()) (y602.1.1, y602.1.2.1, y602.1.2.2.1, y602.1.2.2.2.1, y602.1.2.2.2.2.1, y602.1.2.2.2.2.2.1, ())).bind fun y603 =>
           cond (cond (not y603.1) true (iNe y601.2.1 y602.2.1))
           (some (.inr (false, ())))
           (some (.inl (s600.1, iAdd .i64 s600.2.1 1, s600.2.2.1, ())))) none) none)
        (Option.map Sum.inr ((m9).bind fun y604 =>
          some (y604.1, ()))))
       (lenI ([s594.1, y598.1, y599.1] : List (List Int)), 0, ([s594.1, y598.1, y599.1] : List (List Int)), ())))))
   (a1, a3, a4, lenI ([(a0.1, a0.2.1, a0.2.2.1, a0.2.2.2.1, a0.2.2.2.2.1, a0.2.2.2.2.2.1, ()), (y593.1, y593.2.1, y593.2.2.1, y593.2.2.2.1, y593.2.2.2.2.1, y593.2.2.2.2.2.1, ())] : List DS1), 0, y593.1, y593.2.1, y593.2.2.1, y593.2.2.2.1, y593.2.2.2.2.1, y593.2.2.2.2.2.1, ([(a0.1, a0.2.1, a0.2.2.1, a0.2.2.2.1, a0.2.2.2.2.1, a0.2.2.2.2.2.1, ()), (y593.1, y593.2.1, y593.2.2.1, y593.2.2.2.1, y593.2.2.2.2.1, y593.2.2.2.2.2.1, ())] : List DS1), ()))
noncomputable def cfg5 : Cfg := ⟨ttab, gtab, [i15, i19, i20, i21, i22, i23, i24, i9], [h10, h18]⟩
theorem eqn5 (x : DS1 × (List Int) × (List Int) × Int × Int × Unit) : xfun cfg5 x5 107 [.t 10] [tS1, (.list (.int .u8)), (.list (.int .i64)), (.int .i64), (.int .u8)] [.bool] x = m5 x.1 x.2.1 x.2.2.1 x.2.2.2.1 x.2.2.2.2.1 := by kernel_rfl
noncomputable def i5 : PI := ⟨5, [tS1, (.list (.int .u8)), (.list (.int .i64)), (.int .i64), (.int .u8)], [.bool], fun (x : DS1 × (List Int) × (List Int) × Int × Int × Unit) => m5 x.1 x.2.1 x.2.2.1 x.2.2.2.1 x.2.2.2.2.1⟩
theorem oki5 : POk Try.prog (gx gtab) i5 := pok mixed (cfg_p oki15 (cfg_p oki19 (cfg_p oki20 (cfg_p oki21 (cfg_p oki22 (cfg_p oki23 (cfg_p oki24 (cfg_p oki9 (cfg_h okh10 (cfg_h okh18 (cfg_nil _ _)))))))))) : CfgOk _ cfg5) F5 eqn5
/- 62 treaty/treatymade2.Entry -/
def r62_0 : List Ins := [⟨some 2, none, .alloc 92 (.agg #[.int .i64 0, .int .i64 0, .int .i64 0, .int .i64 0, .int .i64 0])⟩]
def r62_1 : List Ins := [⟨some 4, none, .mov (.t 0)⟩,
  ⟨some 5, none, .call (.k (.func (.func 32) #[] #[])) [(.t 4), (.k (.int .i64 5))]⟩,
  ⟨some 6, none, .bin .add (.k (.int .i64 1)) (.t 5)⟩,
  ⟨some 7, none, .mov (.t 0)⟩,
  ⟨some 8, none, .call (.k (.func (.func 32) #[] #[])) [(.t 7), (.k (.int .i64 4))]⟩,
  ⟨some 9, none, .mov (.t 0)⟩,
  ⟨some 10, none, .call (.k (.func (.func 32) #[] #[])) [(.t 9), (.k (.int .i64 4))]⟩,
  ⟨some 11, none, .mov (.t 0)⟩,
  ⟨some 12, none, .call (.k (.func (.func 32) #[] #[])) [(.t 11), (.k (.int .i64 400))]⟩,
  ⟨some 13, none, .bin .sub (.t 12) (.k (.int .i64 200))⟩,
  ⟨some 14, none, .build [.int .i64 0, .int .i64 0, .int .i64 0, .int .i64 0, .int .i64 0] [(0, 1, (.t 6)), (1, 1, (.t 8)), (2, 1, (.t 10)), (4, 1, (.t 13))]⟩,
  ⟨some 3, none, .alloc 92 (.agg #[.int .i64 0, .int .i64 0, .int .i64 0, .int .i64 0, .int .i64 0])⟩,
  ⟨none, none, .store 5 (.t 3) (.t 14)⟩]
def r62_2 : List Ins := [⟨some 15, none, .faddr 0 (.t 3)⟩,
  ⟨some 16, none, .load 1 false (.t 15)⟩,
  ⟨some 17, none, .bin .leq (.t 16) (.k (.int .i64 2))⟩]
def r62_3 : List Ins := [⟨some 18, none, .mov (.t 0)⟩,
  ⟨some 19, none, .call (.k (.func (.func 32) #[] #[])) [(.t 18), (.k (.int .i64 3))]⟩,
  ⟨some 20, none, .bin .add (.k (.int .i64 1)) (.t 19)⟩,
  ⟨some 21, none, .faddr 3 (.t 3)⟩,
  ⟨none, none, .store 1 (.t 21) (.t 20)⟩]
def r62_4 : List Ins := [⟨some 22, none, .mov (.t 0)⟩,
  ⟨some 23, none, .call (.k (.func (.func 32) #[] #[])) [(.t 22), (.k (.int .i64 8))]⟩,
  ⟨some 24, none, .bin .eql (.t 23) (.k (.int .i64 0))⟩]
def r62_5 : List Ins := [⟨some 25, none, .mov (.t 0)⟩,
  ⟨some 26, none, .call (.k (.func (.func 32) #[] #[])) [(.t 25), (.k (.int .i64 68719476736))]⟩,
  ⟨some 27, none, .bin .sub (.t 26) (.k (.int .i64 34359738368))⟩,
  ⟨some 28, none, .faddr 4 (.t 3)⟩,
  ⟨none, none, .store 1 (.t 28) (.t 27)⟩]
def r62_6 : List Ins := [⟨some 29, none, .load 5 true (.t 3)⟩,
  ⟨none, none, .store 5 (.t 2) (.t 29)⟩]
def x62 : XC := (.seq (.ops false r62_0) (.seq (.ops false r62_1) (.seq (.seq (.ops false r62_2) (.cond (.t 17) (.ops false r62_3) .skip)) (.seq (.seq (.ops false r62_4) (.cond (.t 24) (.ops false r62_5) .skip)) (.seq (.ops false r62_6) .ret)))))
theorem F62 : Fn Try.prog 62 30 x62.er [.c 2 5 true] := ⟨Try.f62, hcl, Try.func62, by kernel_rfl, by kernel_rfl, by kernel_rfl, by kernel_rfl⟩
noncomputable def m62 (a0 : List Int) (a1 : Int) : Option (Int × Int × Int × Int × Int × (List Int) × Int × Unit) :=
  (m32 5 a0 a1).bind fun y621 =>
  (m32 4 y621.2.1 y621.2.2.1).bind fun y622 =>
  (m32 4 y622.2.1 y622.2.2.1).bind fun y623 =>
  (m32 400 y623.2.1 y623.2.2.1).bind fun y624 =>
  cond (iLe (iAdd .i64 1 y621.1) 2)
  ((m32 3 y624.2.1 y624.2.2.1).bind fun y625 =>
   (m32 8 y625.2.1 y625.2.2.1).bind fun y626 =>
   cond (iEq y626.1 0)
   ((m32 68719476736 y626.2.1 y626.2.2.1).bind fun y627 =>
    some (iAdd .i64 1 y621.1, y622.1, y623.1, iAdd .i64 1 y625.1, iSub .i64 y627.1 34359738368, y627.2.1, y627.2.2.1, ()))
   (some (iAdd .i64 1 y621.1, y622.1, y623.1, iAdd .i64 1 y625.1, iSub .i64 y624.1 200, y626.2.1, y626.2.2.1, ())))
  ((m32 8 y624.2.1 y624.2.2.1).bind fun y628 =>
   cond (iEq y628.1 0)
   ((m32 68719476736 y628.2.1 y628.2.2.1).bind fun y629 =>
    some (iAdd .i64 1 y621.1, y622.1, y623.1, 0, iSub .i64 y629.1 34359738368, y629.2.1, y629.2.2.1, ()))
   (some (iAdd .i64 1 y621.1, y622.1, y623.1, 0, iSub .i64 y624.1 200, y628.2.1, y628.2.2.1, ())))
noncomputable def cfg62 : Cfg := ⟨ttab, gtab, [], [h32]⟩
def ish62 : Sh := ⟨1, [], [(0, .ptr 0 0 0)], [.box 98 [.d (.list (.int .i64)), .d (.int .i64)]]⟩
def osh62 : Sh := ⟨1, [], [(0, .agg [.d (.int .i64), .d (.int .i64), .d (.int .i64), .d (.int .i64), .d (.int .i64)])], [.box 98 [.d (.list (.int .i64)), .d (.int .i64)]]⟩
theorem eqn62 (x : (List Int) × Int × Unit) : xfunH cfg62 x62 30 [.c 2 5 true] [] ish62 osh62 x = m62 x.1 x.2.1 := by kernel_rfl
noncomputable def h62 : HI := ⟨62, ish62, osh62, fun (x : (List Int) × Int × Unit) => m62 x.1 x.2.1⟩
theorem okh62 : HOk Try.prog (gx gtab) h62 := hok mixed (cfg_h okh32 (cfg_nil _ _) : CfgOk _ cfg62) F62 eqn62
/- 52 treaty/treatymade2.Entries -/
def r52_0 : List Ins := [⟨some 4, none, .mov (.k (.slice none 0 0))⟩]
def r52_1 : List Ins := [⟨some 5, none, .mov (.k (.slice none 0 0))⟩]
def r52_2 : List Ins := [⟨some 7, none, .mov (.t 0)⟩,
  ⟨some 8, none, .mov (.t 1)⟩,
  ⟨some 9, none, .bin .add (.t 8) (.k (.int .i64 1))⟩,
  ⟨some 10, none, .call (.k (.func (.func 32) #[] #[])) [(.t 7), (.t 9)]⟩,
  ⟨some 6, none, .mov (.t 10)⟩]
def r52_3 : List Ins := [⟨some 11, none, .mov (.t 6)⟩,
  ⟨some 12, none, .bin .gtr (.t 11) (.k (.int .i64 0))⟩]
def r52_4 : List Ins := [⟨some 15, none, .mov (.t 5)⟩,
  ⟨some 16, none, .mov (.t 0)⟩,
  ⟨some 17, none, .call (.k (.func (.func 62) #[] #[])) [(.t 16)]⟩,
  ⟨some 18, none, .bslice 92 5 [(.t 17)]⟩,
  ⟨some 19, none, .app 92 5 40 (.t 15) (.t 18)⟩,
  ⟨some 5, none, .mov (.t 19)⟩]
def r52_5 : List Ins := [⟨some 13, none, .mov (.t 6)⟩,
  ⟨some 14, none, .bin .sub (.t 13) (.k (.int .i64 1))⟩,
  ⟨some 6, none, .mov (.t 14)⟩]
def r52_6 : List Ins := [⟨some 20, none, .mov (.t 5)⟩,
  ⟨some 4, none, .mov (.t 20)⟩]
def x52 : XC := (.seq (.ops false r52_0) (.seq (.ops false r52_1) (.seq (.seq (.ops false r52_2) (.block 0 (.loop [.gh 5 92 tS5] ⟨21, [(6, (.int .i64))], [(0, .ptr 0 0 0), (5, .row 1)], [.box 98 [.d (.list (.int .i64)), .d (.int .i64)], .row 92 tS5 false]⟩ (.seq (.seq (.ops false r52_3) (.cond (.t 12) .skip (.exit 0))) (.seq (.block 1 (.ops false r52_4)) (.ops false r52_5)))))) (.seq (.ops false r52_6) .ret))))
theorem F52 : Fn Try.prog 52 21 x52.er [.t 4] := ⟨Try.f52, hcl, Try.func52, by kernel_rfl, by kernel_rfl, by kernel_rfl, by kernel_rfl⟩
noncomputable def m52 (a0 : Int) (a1 : List Int) (a2 : Int) : Option ((List Int) × Int × (List DS5) × Unit) :=
  (m32 (iAdd .i64 a0 1) a1 a2).bind fun y634 =>
  loopO (S := Int × (List Int) × Int × (List DS5) × Unit) (R := (List Int) × Int × (List DS5) × Unit) (fun s635 =>
   cond (iLt 0 s635.1)
   ((m62 s635.2.1 s635.2.2.1).bind fun y636 =>
    cond (fits (List.length s635.2.2.2.1 + List.length ([(y636.1, y636.2.1, y636.2.2.1, y636.2.2.2.1, y636.2.2.2.2.1, ())] : List DS5)) 40)
    (some (.inl (iSub .i64 s635.1 1, y636.2.2.2.2.2.1, y636.2.2.2.2.2.2.1, s635.2.2.2.1 ++ ([(y636.1, y636.2.1, y636.2.2.1, y636.2.2.2.1, y636.2.2.2.2.1, ())] : List DS5), ()))) none)
   (some (.inr (s635.2.1, s635.2.2.1, s635.2.2.2.1, ()))))
  (y634.1, y634.2.1, y634.2.2.1, ([] : List DS5), ())
noncomputable def cfg52 : Cfg := ⟨ttab, gtab, [], [h32, h62]⟩
def ish52 : Sh := ⟨2, [(1, (.int .i64))], [(0, .ptr 0 0 0)], [.box 98 [.d (.list (.int .i64)), .d (.int .i64)]]⟩
def osh52 : Sh := ⟨1, [], [(0, .row 1)], [.box 98 [.d (.list (.int .i64)), .d (.int .i64)], .row 92 tS5 false]⟩
theorem eqn52 (x : Int × (List Int) × Int × Unit) : xfunH cfg52 x52 21 [.t 4] [.gh 4 92 tS5] ish52 osh52 x = m52 x.1 x.2.1 x.2.2.1 := by kernel_rfl
noncomputable def h52 : HI := ⟨52, ish52, osh52, fun (x : Int × (List Int) × Int × Unit) => m52 x.1 x.2.1 x.2.2.1⟩
theorem okh52 : HOk Try.prog (gx gtab) h52 := hok mixed (cfg_h okh32 (cfg_h okh62 (cfg_nil _ _)) : CfgOk _ cfg52) F52 eqn52
/- 25 treaty/treatylaw40.bordereau -/
def r25_0 : List Ins := [⟨some 2, none, .alloc 50 (.agg #[.int .i64 0, .int .i64 0, .int .i64 0, .slice none 0 0])⟩]
def r25_1 : List Ins := [⟨some 6, none, .mov (.t 0)⟩,
  ⟨some 7, none, .call (.k (.func (.func 32) #[] #[])) [(.t 6), (.k (.int .i64 300))]⟩,
  ⟨some 8, none, .mov (.t 0)⟩,
  ⟨some 9, none, .call (.k (.func (.func 32) #[] #[])) [(.t 8), (.k (.int .i64 16))]⟩,
  ⟨some 10, none, .mov (.t 0)⟩,
  ⟨some 11, none, .call (.k (.func (.func 32) #[] #[])) [(.t 10), (.k (.int .i64 200))]⟩,
  ⟨some 12, none, .build [.int .i64 0, .int .i64 0, .int .i64 0, .slice none 0 0] [(0, 1, (.t 7)), (1, 1, (.t 9)), (2, 1, (.t 11))]⟩,
  ⟨some 3, none, .alloc 50 (.agg #[.int .i64 0, .int .i64 0, .int .i64 0, .slice none 0 0])⟩,
  ⟨none, none, .store 4 (.t 3) (.t 12)⟩]
def r25_2 : List Ins := [⟨some 13, none, .mov (.t 0)⟩,
  ⟨some 14, none, .call (.k (.func (.func 52) #[] #[])) [(.t 13), (.k (.int .i64 10))]⟩,
  ⟨some 15, none, .len (.t 14)⟩,
  ⟨some 16, none, .mov (.k (.int .i64 0))⟩]
def r25_3 : List Ins := [⟨some 17, none, .bin .lss (.t 16) (.t 15)⟩]
def r25_4 : List Ins := [⟨some 18, none, .mov (.t 16)⟩,
  ⟨some 19, none, .iaddr 5 (.t 14) (.t 16)⟩,
  ⟨some 20, none, .load 5 true (.t 19)⟩,
  ⟨some 5, none, .alloc 92 (.agg #[.int .i64 0, .int .i64 0, .int .i64 0, .int .i64 0, .int .i64 0])⟩,
  ⟨some 4, none, .mov (.t 18)⟩,
  ⟨none, none, .store 5 (.t 5) (.t 20)⟩]
def r25_5 : List Ins := [⟨some 21, none, .faddr 1 (.t 3)⟩,
  ⟨some 22, none, .load 1 false (.t 21)⟩,
  ⟨some 23, none, .faddr 2 (.t 5)⟩,
  ⟨none, none, .store 1 (.t 23) (.t 22)⟩]
def r25_6 : List (Nat × Ins) := [(0, ⟨some 24, none, .faddr 3 (.t 3)⟩),
  (1, ⟨some 25, none, .load 1 false (.t 24)⟩),
  (0, ⟨some 26, none, .mov (.t 4)⟩),
  (0, ⟨some 27, none, .mov (.t 0)⟩),
  (2, ⟨some 28, none, .call (.k (.func (.func 32) #[] #[])) [(.t 27), (.k (.int .i64 400))]⟩),
  (0, ⟨some 29, none, .bin .add (.t 26) (.t 28)⟩),
  (0, ⟨some 30, none, .mov (.t 0)⟩),
  (2, ⟨some 31, none, .call (.k (.func (.func 32) #[] #[])) [(.t 30), (.k (.int .i64 5))]⟩),
  (1, ⟨some 32, none, .load 5 true (.t 5)⟩),
  (0, ⟨some 33, none, .build [.int .i64 0, .int .i64 0, .int .i64 0, .int .i64 0, .int .i64 0, .int .i64 0, .int .i64 0] [(0, 1, (.t 29)), (1, 1, (.t 31)), (2, 5, (.t 32))]⟩),
  (2, ⟨some 34, none, .bslice 94 7 [(.t 33)]⟩),
  (0, ⟨some 35, none, .app 94 7 56 (.t 25) (.t 34)⟩),
  (0, ⟨some 36, none, .faddr 3 (.t 3)⟩),
  (0, ⟨none, none, .store 1 (.t 36) (.t 35)⟩)]
def r25_7 : List Ins := [⟨some 37, none, .bin .add (.t 16) (.k (.int .i64 1))⟩,
  ⟨some 16, none, .mov (.t 37)⟩]
def r25_8 : List Ins := [⟨some 38, none, .load 4 true (.t 3)⟩,
  ⟨none, none, .store 4 (.t 2) (.t 38)⟩]
def x25 : XC := (.seq (.ops false r25_0) (.seq (.ops false r25_1) (.seq (.seq (.ops false r25_2) (.block 0 (.loop [.ghc 3 3 94 tS6] ⟨39, [(15, (.int .i64)), (16, (.int .i64))], [(0, .ptr 0 0 0), (2, .ptr 1 0 0), (3, .ptr 2 0 0), (14, .row 3)], [.box 98 [.d (.list (.int .i64)), .d (.int .i64)], .box 50 [.d (.int .i64), .d (.int .i64), .d (.int .i64), .nil], .box 50 [.d (.int .i64), .d (.int .i64), .d (.int .i64), .row 4], .row 92 tS5 false, .row 94 tS6 false]⟩ (.seq (.ops false r25_3) (.seq (.cond (.t 17) .skip (.exit 0)) (.seq (.block 1 (.seq (.ops false r25_4) (.seq (.ops false r25_5) (.rops [0] r25_6)))) (.ops false r25_7))))))) (.seq (.ops false r25_8) .ret))))
theorem F25 : Fn Try.prog 25 39 x25.er [.c 2 4 true] := ⟨Try.f25, hcl, Try.func25, by kernel_rfl, by kernel_rfl, by kernel_rfl, by kernel_rfl⟩
noncomputable def m25 (a0 : List Int) (a1 : Int) : Option (Int × Int × Int × (List Int) × Int × (List DS6) × Unit) :=
  (m32 300 a0 a1).bind fun y648 =>
  (m32 16 y648.2.1 y648.2.2.1).bind fun y649 =>
  (m32 200 y649.2.1 y649.2.2.1).bind fun y650 =>
  (m52 10 y650.2.1 y650.2.2.1).bind fun y651 =>
  loopO (S := Int × Int × (List Int) × Int × Int × Int × Int × Int × Int × Int × (List DS5) × (List DS6) × Unit) (R := Int × Int × Int × (List Int) × Int × (List DS6) × Unit) (fun s652 =>
   cond (iLt s652.2.1 s652.1)
   (cond (bnd s652.2.1 (lenI s652.2.2.2.2.2.2.2.2.2.2.1))
    (cond (inB (Int.toNat s652.2.1) s652.2.2.2.2.2.2.2.2.2.2.1)
     ((m32 400 s652.2.2.1 s652.2.2.2.1).bind fun y653 =>
      (m32 5 y653.2.1 y653.2.2.1).bind fun y654 =>
      cond (fits (List.length s652.2.2.2.2.2.2.2.2.2.2.2.1 + List.length ([(iAdd .i64 s652.2.1 y653.1, y654.1, ((List.getD s652.2.2.2.2.2.2.2.2.2.2.1 (Int.toNat s652.2.1) (0, 0, 0, 0, 0, ())).1, (List.getD s652.2.2.2.2.2.2.2.2.2.2.1 (Int.toNat s652.2.1) (0, 0, 0, 0, 0, ())).2.1, s652.2.2.2.2.2.2.2.2.1, (List.getD s652.2.2.2.2.2.2.2.2.2.2.1 (Int.toNat s652.2.1) (0, 0, 0, 0, 0, ())).2.2.2.1, (List.getD s652.2.2.2.2.2.2.2.2.2.2.1 (Int.toNat s652.2.1) (0, 0, 0, 0, 0, ())).2.2.2.2.1, ()), ())] : List DS6)) 56)
      (some (.inl (s652.1, iAdd .i64 s652.2.1 1, y654.2.1, y654.2.2.1, s652.2.2.2.2.1, s652.2.2.2.2.2.1, s652.2.2.2.2.2.2.1, s652.2.2.2.2.2.2.2.1, s652.2.2.2.2.2.2.2.2.1, s652.2.2.2.2.2.2.2.2.2.1, s652.2.2.2.2.2.2.2.2.2.2.1, s652.2.2.2.2.2.2.2.2.2.2.2.1 ++ ([(iAdd .i64 s652.2.1 y653.1, y654.1, ((List.getD s652.2.2.2.2.2.2.2.2.2.2.1 (Int.toNat s652.2.1) (0, 0, 0, 0, 0, ())).1, (List.getD s652.2.2.2.2.2.2.2.2.2.2.1 (Int.toNat s652.2.1) (0, 0, 0, 0, 0, ())).2.1, s652.2.2.2.2.2.2.2.2.1, (List.getD s652.2.2.2.2.2.2.2.2.2.2.1 (Int.toNat s652.2.1) (0, 0, 0, 0, 0, ())).2.2.2.1, (List.getD s652.2.2.2.2.2.2.2.2.2.2.1 (Int.toNat s652.2.1) (0, 0, 0, 0, 0, ())).2.2.2.2.1, ()), ())] : List DS6), ()))) none) none) none)
   (some (.inr (s652.2.2.2.2.2.2.2.1, s652.2.2.2.2.2.2.2.2.1, s652.2.2.2.2.2.2.2.2.2.1, s652.2.2.1, s652.2.2.2.1, s652.2.2.2.2.2.2.2.2.2.2.2.1, ()))))
  (lenI y651.2.2.1, 0, y651.1, y651.2.1, 0, 0, 0, y648.1, y649.1, y650.1, y651.2.2.1, ([] : List DS6), ())
noncomputable def cfg25 : Cfg := ⟨ttab, gtab, [], [h32, h52]⟩
def ish25 : Sh := ⟨1, [], [(0, .ptr 0 0 0)], [.box 98 [.d (.list (.int .i64)), .d (.int .i64)]]⟩
def osh25 : Sh := ⟨1, [], [(0, .agg [.d (.int .i64), .d (.int .i64), .d (.int .i64), .row 1])], [.box 98 [.d (.list (.int .i64)), .d (.int .i64)], .row 94 tS6 false]⟩
theorem eqn25 (x : (List Int) × Int × Unit) : xfunH cfg25 x25 39 [.c 2 4 true] [.ghc 2 3 94 tS6] ish25 osh25 x = m25 x.1 x.2.1 := by kernel_rfl
noncomputable def h25 : HI := ⟨25, ish25, osh25, fun (x : (List Int) × Int × Unit) => m25 x.1 x.2.1⟩
theorem okh25 : HOk Try.prog (gx gtab) h25 := hok mixed (cfg_h okh32 (cfg_h okh52 (cfg_nil _ _)) : CfgOk _ cfg25) F25 eqn25
/- 26 treaty/codec.EncodeBordereau -/
def r26_0 : List Ins := [⟨some 1, none, .box 50 4 (.t 0)⟩,
  ⟨some 2, none, .mov (.k (.slice none 0 0))⟩,
  ⟨some 3, none, .mov (.k (.int .i64 0))⟩]
def r26_1 : List Ins := [⟨some 7, none, .faddr 3 (.t 1)⟩,
  ⟨some 8, none, .load 1 false (.t 7)⟩,
  ⟨some 9, none, .len (.t 8)⟩,
  ⟨some 10, none, .bin .gtr (.t 9) (.k (.int .i64 64))⟩]
def r26_2 : List Ins := [⟨some 2, none, .mov (.k (.slice none 0 0))⟩,
  ⟨some 3, none, .mov (.k (.int .i64 4))⟩]
def r26_3 : List Ins := [⟨some 11, none, .faddr 0 (.t 1)⟩,
  ⟨some 12, none, .load 1 false (.t 11)⟩,
  ⟨some 13, none, .faddr 1 (.t 1)⟩,
  ⟨some 14, none, .load 1 false (.t 13)⟩,
  ⟨some 15, none, .faddr 2 (.t 1)⟩,
  ⟨some 16, none, .load 1 false (.t 15)⟩,
  ⟨some 17, none, .faddr 3 (.t 1)⟩,
  ⟨some 18, none, .load 1 false (.t 17)⟩,
  ⟨some 19, none, .len (.t 18)⟩,
  ⟨some 20, none, .bslice 3 1 [(.t 12), (.t 14), (.t 16), (.t 19)]⟩,
  ⟨some 4, none, .mov (.t 20)⟩]
def r26_4 : List Ins := [⟨some 21, none, .faddr 3 (.t 1)⟩,
  ⟨some 22, none, .load 1 false (.t 21)⟩,
  ⟨some 23, none, .len (.t 22)⟩,
  ⟨some 24, none, .mov (.k (.int .i64 0))⟩]
def r26_5 : List Ins := [⟨some 25, none, .bin .lss (.t 24) (.t 23)⟩]
def r26_6 : List Ins := [⟨some 26, none, .iaddr 7 (.t 22) (.t 24)⟩,
  ⟨some 27, none, .load 7 true (.t 26)⟩,
  ⟨some 6, none, .alloc 94 (.agg #[.int .i64 0, .int .i64 0, .int .i64 0, .int .i64 0, .int .i64 0, .int .i64 0, .int .i64 0])⟩,
  ⟨none, none, .store 7 (.t 6) (.t 27)⟩]
def r26_7 : List Ins := [⟨some 28, none, .faddr 2 (.t 6)⟩,
  ⟨some 29, none, .faddr 2 (.t 28)⟩,
  ⟨some 30, none, .load 1 false (.t 29)⟩,
  ⟨some 31, none, .faddr 1 (.t 1)⟩,
  ⟨some 32, none, .load 1 false (.t 31)⟩,
  ⟨some 33, none, .bin .neq (.t 30) (.t 32)⟩]
def r26_8 : List Ins := [⟨some 2, none, .mov (.k (.slice none 0 0))⟩,
  ⟨some 3, none, .mov (.k (.int .i64 20))⟩]
def r26_9 : List Ins := [⟨some 34, none, .mov (.t 4)⟩,
  ⟨some 35, none, .faddr 0 (.t 6)⟩,
  ⟨some 36, none, .load 1 false (.t 35)⟩,
  ⟨some 37, none, .faddr 1 (.t 6)⟩,
  ⟨some 38, none, .load 1 false (.t 37)⟩,
  ⟨some 39, none, .faddr 2 (.t 6)⟩,
  ⟨some 40, none, .faddr 0 (.t 39)⟩,
  ⟨some 41, none, .load 1 false (.t 40)⟩,
  ⟨some 42, none, .faddr 2 (.t 6)⟩,
  ⟨some 43, none, .faddr 1 (.t 42)⟩,
  ⟨some 44, none, .load 1 false (.t 43)⟩,
  ⟨some 45, none, .faddr 2 (.t 6)⟩,
  ⟨some 46, none, .faddr 3 (.t 45)⟩,
  ⟨some 47, none, .load 1 false (.t 46)⟩,
  ⟨some 48, none, .faddr 2 (.t 6)⟩,
  ⟨some 49, none, .faddr 4 (.t 48)⟩,
  ⟨some 50, none, .load 1 false (.t 49)⟩,
  ⟨some 51, none, .bslice 3 1 [(.t 36), (.t 38), (.t 41), (.t 44), (.t 47), (.t 50)]⟩,
  ⟨some 52, none, .app 3 1 8 (.t 34) (.t 51)⟩,
  ⟨some 4, none, .mov (.t 52)⟩]
def r26_10 : List Ins := [⟨some 53, none, .bin .add (.t 24) (.k (.int .i64 1))⟩,
  ⟨some 24, none, .mov (.t 53)⟩]
def r26_11 : List Ins := [⟨some 54, none, .mov (.t 4)⟩,
  ⟨some 55, none, .call (.k (.func (.func 41) #[] #[])) [(.t 54)]⟩,
  ⟨some 56, none, .ext 0 (.t 55)⟩,
  ⟨some 57, none, .ext 1 (.t 55)⟩,
  ⟨some 2, none, .mov (.t 56)⟩,
  ⟨some 3, none, .mov (.t 57)⟩]
def x26 : XC := (.seq (.ops false r26_0) (.seq (.seq (.ops false r26_1) (.cond (.t 10) (.seq (.ops false r26_2) .ret) .skip)) (.seq (.ops false r26_3) (.seq (.seq (.ops false r26_4) (.block 0 (.loop [] ⟨58, [(22, (.list tS6)), (23, (.int .i64)), (24, (.int .i64))], [(1, .ptr 0 0 0), (4, .row 1)], [.box 50 [.d (.int .i64), .d (.int .i64), .d (.int .i64), .d (.list tS6)], .row 3 (.int .i64) false]⟩ (.seq (.ops false r26_5) (.seq (.cond (.t 25) .skip (.exit 0)) (.seq (.block 1 (.seq (.ops false r26_6) (.seq (.seq (.ops false r26_7) (.cond (.t 33) (.seq (.ops false r26_8) .ret) .skip)) (.ops false r26_9)))) (.ops false r26_10))))))) (.seq (.ops false r26_11) .ret)))))
theorem F26 : Fn Try.prog 26 58 x26.er [.t 2, .t 3] := ⟨Try.f26, hcl, Try.func26, by kernel_rfl, by kernel_rfl, by kernel_rfl, by kernel_rfl⟩
noncomputable def m26 (a0 : DS7) : Option ((List Int) × Int × Unit) :=
  cond (iLt 64 (lenI a0.2.2.2.1))
  (some (([] : List Int), 4, ()))
  (loopO (S := (List DS6) × Int × Int × Int × Int × Int × (List DS6) × (List Int) × Unit) (R := (List Int) × Int × Unit) (fun s659 =>
    cond (iLt s659.2.2.1 s659.2.1)
    (cond (bnd s659.2.2.1 (lenI s659.1))
     (cond (iNe (((atI s659.1 s659.2.2.1 (0, 0, (0, 0, 0, 0, 0, ()), ())).2.2.1).2.2.1) s659.2.2.2.2.1)
      (some (.inr (([] : List Int), 20, ())))
      (cond (fits (List.length s659.2.2.2.2.2.2.2.1 + List.length ([(atI s659.1 s659.2.2.1 (0, 0, (0, 0, 0, 0, 0, ()), ())).1, (atI s659.1 s659.2.2.1 (0, 0, (0, 0, 0, 0, 0, ()), ())).2.1, ((atI s659.1 s659.2.2.1 (0, 0, (0, 0, 0, 0, 0, ()), ())).2.2.1).1, ((atI s659.1 s659.2.2.1 (0, 0, (0, 0, 0, 0, 0, ()), ())).2.2.1).2.1, ((atI s659.1 s659.2.2.1 (0, 0, (0, 0, 0, 0, 0, ()), ())).2.2.1).2.2.2.1, ((atI s659.1 s659.2.2.1 (0, 0, (0, 0, 0, 0, 0, ()), ())).2.2.1).2.2.2.2.1] : List Int)) 8)
       (some (.inl (s659.1, s659.2.1, iAdd .i64 s659.2.2.1 1, s659.2.2.2.1, s659.2.2.2.2.1, s659.2.2.2.2.2.1, s659.2.2.2.2.2.2.1, s659.2.2.2.2.2.2.2.1 ++ ([(atI s659.1 s659.2.2.1 (0, 0, (0, 0, 0, 0, 0, ()), ())).1, (atI s659.1 s659.2.2.1 (0, 0, (0, 0, 0, 0, 0, ()), ())).2.1, ((atI s659.1 s659.2.2.1 (0, 0, (0, 0, 0, 0, 0, ()), ())).2.2.1).1, ((atI s659.1 s659.2.2.1 (0, 0, (0, 0, 0, 0, 0, ()), ())).2.2.1).2.1, ((atI s659.1 s659.2.2.1 (0, 0, (0, 0, 0, 0, 0, ()), ())).2.2.1).2.2.2.1, ((atI s659.1 s659.2.2.1 (0, 0, (0, 0, 0, 0, 0, ()), ())).2.2.1).2.2.2.2.1] : List Int), ()))) none)) none)
    (Option.map Sum.inr ((m41 s659.2.2.2.2.2.2.2.1).bind fun y660 =>
      some (y660.1, y660.2.1, ()))))
   (a0.2.2.2.1, lenI a0.2.2.2.1, 0, a0.1, a0.2.1, a0.2.2.1, a0.2.2.2.1, ([a0.1, a0.2.1, a0.2.2.1, lenI a0.2.2.2.1] : List Int), ()))
noncomputable def cfg26 : Cfg := ⟨ttab, gtab, [i41], []⟩
theorem eqn26 (x : DS7 × Unit) : xfun cfg26 x26 58 [.t 2, .t 3] [tS7] [(.list (.int .u8)), (.int .i64)] x = m26 x.1 := by kernel_rfl
noncomputable def i26 : PI := ⟨26, [tS7], [(.list (.int .u8)), (.int .i64)], fun (x : DS7 × Unit) => m26 x.1⟩
theorem oki26 : POk Try.prog (gx gtab) i26 := pok mixed (cfg_p oki41 (cfg_nil _ _) : CfgOk _ cfg26) F26 eqn26
/- 27 treaty/treatyref40.EncodeBordereau -/
def r27_0 : List Ins := [⟨some 1, none, .box 50 4 (.t 0)⟩,
  ⟨some 2, none, .mov (.k (.slice none 0 0))⟩,
  ⟨some 3, none, .mov (.k (.int .i64 0))⟩]
def r27_1 : List Ins := [⟨some 7, none, .faddr 3 (.t 1)⟩,
  ⟨some 8, none, .load 1 false (.t 7)⟩,
  ⟨some 9, none, .len (.t 8)⟩,
  ⟨some 10, none, .bin .gtr (.t 9) (.k (.int .i64 64))⟩]
def r27_2 : List Ins := [⟨some 2, none, .mov (.k (.slice none 0 0))⟩,
  ⟨some 3, none, .mov (.k (.int .i64 4))⟩]
def r27_3 : List Ins := [⟨some 11, none, .faddr 0 (.t 1)⟩,
  ⟨some 12, none, .load 1 false (.t 11)⟩,
  ⟨some 13, none, .faddr 1 (.t 1)⟩,
  ⟨some 14, none, .load 1 false (.t 13)⟩,
  ⟨some 15, none, .faddr 2 (.t 1)⟩,
  ⟨some 16, none, .load 1 false (.t 15)⟩,
  ⟨some 17, none, .faddr 3 (.t 1)⟩,
  ⟨some 18, none, .load 1 false (.t 17)⟩,
  ⟨some 19, none, .len (.t 18)⟩,
  ⟨some 20, none, .bslice 3 1 [(.t 12), (.t 14), (.t 16), (.t 19)]⟩,
  ⟨some 4, none, .mov (.t 20)⟩]
def r27_4 : List Ins := [⟨some 21, none, .faddr 3 (.t 1)⟩,
  ⟨some 22, none, .load 1 false (.t 21)⟩,
  ⟨some 23, none, .len (.t 22)⟩,
  ⟨some 24, none, .mov (.k (.int .i64 0))⟩]
def r27_5 : List Ins := [⟨some 25, none, .bin .lss (.t 24) (.t 23)⟩]
def r27_6 : List Ins := [⟨some 26, none, .iaddr 7 (.t 22) (.t 24)⟩,
  ⟨some 27, none, .load 7 true (.t 26)⟩,
  ⟨some 6, none, .alloc 94 (.agg #[.int .i64 0, .int .i64 0, .int .i64 0, .int .i64 0, .int .i64 0, .int .i64 0, .int .i64 0])⟩,
  ⟨none, none, .store 7 (.t 6) (.t 27)⟩]
def r27_7 : List Ins := [⟨some 28, none, .faddr 2 (.t 6)⟩,
  ⟨some 29, none, .faddr 2 (.t 28)⟩,
  ⟨some 30, none, .load 1 false (.t 29)⟩,
  ⟨some 31, none, .faddr 1 (.t 1)⟩,
  ⟨some 32, none, .load 1 false (.t 31)⟩,
  ⟨some 33, none, .bin .neq (.t 30) (.t 32)⟩]
def r27_8 : List Ins := [⟨some 2, none, .mov (.k (.slice none 0 0))⟩,
  ⟨some 3, none, .mov (.k (.int .i64 20))⟩]
def r27_9 : List Ins := [⟨some 34, none, .mov (.t 4)⟩,
  ⟨some 35, none, .faddr 0 (.t 6)⟩,
  ⟨some 36, none, .load 1 false (.t 35)⟩,
  ⟨some 37, none, .faddr 1 (.t 6)⟩,
  ⟨some 38, none, .load 1 false (.t 37)⟩,
  ⟨some 39, none, .faddr 2 (.t 6)⟩,
  ⟨some 40, none, .faddr 0 (.t 39)⟩,
  ⟨some 41, none, .load 1 false (.t 40)⟩,
  ⟨some 42, none, .faddr 2 (.t 6)⟩,
  ⟨some 43, none, .faddr 1 (.t 42)⟩,
  ⟨some 44, none, .load 1 false (.t 43)⟩,
  ⟨some 45, none, .faddr 2 (.t 6)⟩,
  ⟨some 46, none, .faddr 3 (.t 45)⟩,
  ⟨some 47, none, .load 1 false (.t 46)⟩,
  ⟨some 48, none, .faddr 2 (.t 6)⟩,
  ⟨some 49, none, .faddr 4 (.t 48)⟩,
  ⟨some 50, none, .load 1 false (.t 49)⟩,
  ⟨some 51, none, .bslice 3 1 [(.t 36), (.t 38), (.t 41), (.t 44), (.t 47), (.t 50)]⟩,
  ⟨some 52, none, .app 3 1 8 (.t 34) (.t 51)⟩,
  ⟨some 4, none, .mov (.t 52)⟩]
def r27_10 : List Ins := [⟨some 53, none, .bin .add (.t 24) (.k (.int .i64 1))⟩,
  ⟨some 24, none, .mov (.t 53)⟩]
def r27_11 : List Ins := [⟨some 54, none, .mov (.t 4)⟩,
  ⟨some 55, none, .call (.k (.func (.func 43) #[] #[])) [(.t 54)]⟩,
  ⟨some 56, none, .ext 0 (.t 55)⟩,
  ⟨some 57, none, .ext 1 (.t 55)⟩,
  ⟨some 2, none, .mov (.t 56)⟩,
  ⟨some 3, none, .mov (.t 57)⟩]
def x27 : XC := (.seq (.ops false r27_0) (.seq (.seq (.ops false r27_1) (.cond (.t 10) (.seq (.ops false r27_2) .ret) .skip)) (.seq (.ops false r27_3) (.seq (.seq (.ops false r27_4) (.block 0 (.loop [] ⟨58, [(22, (.list tS6)), (23, (.int .i64)), (24, (.int .i64))], [(1, .ptr 0 0 0), (4, .row 1)], [.box 50 [.d (.int .i64), .d (.int .i64), .d (.int .i64), .d (.list tS6)], .row 3 (.int .i64) false]⟩ (.seq (.ops false r27_5) (.seq (.cond (.t 25) .skip (.exit 0)) (.seq (.block 1 (.seq (.ops false r27_6) (.seq (.seq (.ops false r27_7) (.cond (.t 33) (.seq (.ops false r27_8) .ret) .skip)) (.ops false r27_9)))) (.ops false r27_10))))))) (.seq (.ops false r27_11) .ret)))))
theorem F27 : Fn Try.prog 27 58 x27.er [.t 2, .t 3] := ⟨Try.f27, hcl, Try.func27, by kernel_rfl, by kernel_rfl, by kernel_rfl, by kernel_rfl⟩
noncomputable def m27 (a0 : DS7) : Option ((List Int) × Int × Unit) :=
  cond (iLt 64 (lenI a0.2.2.2.1))
  (some (([] : List Int), 4, ()))
  (loopO (S := (List DS6) × Int × Int × Int × Int × Int × (List DS6) × (List Int) × Unit) (R := (List Int) × Int × Unit) (fun s664 =>
    cond (iLt s664.2.2.1 s664.2.1)
    (cond (bnd s664.2.2.1 (lenI s664.1))
     (cond (iNe (((atI s664.1 s664.2.2.1 (0, 0, (0, 0, 0, 0, 0, ()), ())).2.2.1).2.2.1) s664.2.2.2.2.1)
      (some (.inr (([] : List Int), 20, ())))
      (cond (fits (List.length s664.2.2.2.2.2.2.2.1 + List.length ([(atI s664.1 s664.2.2.1 (0, 0, (0, 0, 0, 0, 0, ()), ())).1, (atI s664.1 s664.2.2.1 (0, 0, (0, 0, 0, 0, 0, ()), ())).2.1, ((atI s664.1 s664.2.2.1 (0, 0, (0, 0, 0, 0, 0, ()), ())).2.2.1).1, ((atI s664.1 s664.2.2.1 (0, 0, (0, 0, 0, 0, 0, ()), ())).2.2.1).2.1, ((atI s664.1 s664.2.2.1 (0, 0, (0, 0, 0, 0, 0, ()), ())).2.2.1).2.2.2.1, ((atI s664.1 s664.2.2.1 (0, 0, (0, 0, 0, 0, 0, ()), ())).2.2.1).2.2.2.2.1] : List Int)) 8)
       (some (.inl (s664.1, s664.2.1, iAdd .i64 s664.2.2.1 1, s664.2.2.2.1, s664.2.2.2.2.1, s664.2.2.2.2.2.1, s664.2.2.2.2.2.2.1, s664.2.2.2.2.2.2.2.1 ++ ([(atI s664.1 s664.2.2.1 (0, 0, (0, 0, 0, 0, 0, ()), ())).1, (atI s664.1 s664.2.2.1 (0, 0, (0, 0, 0, 0, 0, ()), ())).2.1, ((atI s664.1 s664.2.2.1 (0, 0, (0, 0, 0, 0, 0, ()), ())).2.2.1).1, ((atI s664.1 s664.2.2.1 (0, 0, (0, 0, 0, 0, 0, ()), ())).2.2.1).2.1, ((atI s664.1 s664.2.2.1 (0, 0, (0, 0, 0, 0, 0, ()), ())).2.2.1).2.2.2.1, ((atI s664.1 s664.2.2.1 (0, 0, (0, 0, 0, 0, 0, ()), ())).2.2.1).2.2.2.2.1] : List Int), ()))) none)) none)
    (Option.map Sum.inr ((m43 s664.2.2.2.2.2.2.2.1).bind fun y665 =>
      some (y665.1, y665.2.1, ()))))
   (a0.2.2.2.1, lenI a0.2.2.2.1, 0, a0.1, a0.2.1, a0.2.2.1, a0.2.2.2.1, ([a0.1, a0.2.1, a0.2.2.1, lenI a0.2.2.2.1] : List Int), ()))
noncomputable def cfg27 : Cfg := ⟨ttab, gtab, [i43], []⟩
theorem eqn27 (x : DS7 × Unit) : xfun cfg27 x27 58 [.t 2, .t 3] [tS7] [(.list (.int .u8)), (.int .i64)] x = m27 x.1 := by kernel_rfl
noncomputable def i27 : PI := ⟨27, [tS7], [(.list (.int .u8)), (.int .i64)], fun (x : DS7 × Unit) => m27 x.1⟩
theorem oki27 : POk Try.prog (gx gtab) i27 := pok mixed (cfg_p oki43 (cfg_nil _ _) : CfgOk _ cfg27) F27 eqn27
/- 28 treaty/codec.DecodeBordereau -/
def r28_0 : List Ins := [⟨some 2, none, .alloc 50 (.agg #[.int .i64 0, .int .i64 0, .int .i64 0, .slice none 0 0])⟩,
  ⟨some 3, none, .mov (.k (.int .i64 0))⟩]
def r28_1 : List Ins := [⟨some 11, none, .mov (.t 0)⟩,
  ⟨some 12, none, .build [.slice none 0 0, .int .i64 0] [(0, 1, (.t 11))]⟩,
  ⟨some 4, none, .alloc 80 (.agg #[.slice none 0 0, .int .i64 0])⟩,
  ⟨none, none, .store 2 (.t 4) (.t 12)⟩]
def r28_2 : List Ins := [⟨some 5, none, .alloc 50 (.agg #[.int .i64 0, .int .i64 0, .int .i64 0, .slice none 0 0])⟩]
def r28_3 : List Ins := [⟨some 13, none, .call (.k (.func (.func 44) #[] #[])) [(.t 4)]⟩,
  ⟨some 14, none, .faddr 0 (.t 5)⟩,
  ⟨none, none, .store 1 (.t 14) (.t 13)⟩]
def r28_4 : List Ins := [⟨some 15, none, .call (.k (.func (.func 44) #[] #[])) [(.t 4)]⟩,
  ⟨some 16, none, .faddr 1 (.t 5)⟩,
  ⟨none, none, .store 1 (.t 16) (.t 15)⟩]
def r28_5 : List Ins := [⟨some 17, none, .call (.k (.func (.func 44) #[] #[])) [(.t 4)]⟩,
  ⟨some 18, none, .faddr 2 (.t 5)⟩,
  ⟨none, none, .store 1 (.t 18) (.t 17)⟩]
def r28_6 : List Ins := [⟨some 19, none, .call (.k (.func (.func 53) #[] #[])) [(.t 4), (.k (.int .i64 64))]⟩,
  ⟨some 6, none, .mov (.t 19)⟩]
def r28_7 : List Ins := [⟨some 20, none, .mov (.t 6)⟩,
  ⟨some 21, none, .bin .gtr (.t 20) (.k (.int .i64 0))⟩,
  ⟨some 22, none, .mov (.t 21)⟩,
  ⟨some 23, some (22, true), .faddr 1 (.t 4)⟩,
  ⟨some 24, some (22, true), .load 1 false (.t 23)⟩,
  ⟨some 25, some (22, true), .bin .eql (.t 24) (.k (.int .i64 0))⟩,
  ⟨some 26, none, .pick (.t 22) (.t 25) (.k (.bool false))⟩]
def r28_8 : List Ins := [⟨some 7, none, .alloc 94 (.agg #[.int .i64 0, .int .i64 0, .int .i64 0, .int .i64 0, .int .i64 0, .int .i64 0, .int .i64 0])⟩]
def r28_9 : List Ins := [⟨some 29, none, .faddr 1 (.t 5)⟩,
  ⟨some 30, none, .load 1 false (.t 29)⟩,
  ⟨some 31, none, .faddr 2 (.t 7)⟩,
  ⟨some 32, none, .faddr 2 (.t 31)⟩,
  ⟨none, none, .store 1 (.t 32) (.t 30)⟩]
def r28_10 : List Ins := [⟨some 33, none, .faddr 0 (.t 7)⟩,
  ⟨some 34, none, .faddr 1 (.t 7)⟩,
  ⟨some 35, none, .faddr 2 (.t 7)⟩,
  ⟨some 36, none, .faddr 0 (.t 35)⟩,
  ⟨some 37, none, .faddr 2 (.t 7)⟩,
  ⟨some 38, none, .faddr 1 (.t 37)⟩,
  ⟨some 39, none, .faddr 2 (.t 7)⟩,
  ⟨some 40, none, .faddr 3 (.t 39)⟩,
  ⟨some 41, none, .faddr 2 (.t 7)⟩,
  ⟨some 42, none, .faddr 4 (.t 41)⟩,
  ⟨some 43, none, .bvec 95 [(.t 33), (.t 34), (.t 36), (.t 38), (.t 40), (.t 42)]⟩,
  ⟨some 44, none, .len (.t 43)⟩,
  ⟨some 45, none, .mov (.k (.int .i64 0))⟩]
def r28_11 : List Ins := [⟨some 46, none, .bin .lss (.t 45) (.t 44)⟩]
def r28_12 : List Ins := [⟨some 47, none, .iaddr 1 (.t 43) (.t 45)⟩,
  ⟨some 48, none, .load 1 false (.t 47)⟩,
  ⟨some 9, none, .mov (.t 48)⟩]
def r28_13 : List Ins := [⟨some 49, none, .mov (.t 9)⟩,
  ⟨some 50, none, .call (.k (.func (.func 44) #[] #[])) [(.t 4)]⟩,
  ⟨some 51, none, .nck (.t 49)⟩,
  ⟨none, none, .store 1 (.t 51) (.t 50)⟩]
def r28_14 : List Ins := [⟨some 52, none, .bin .add (.t 45) (.k (.int .i64 1))⟩,
  ⟨some 45, none, .mov (.t 52)⟩]
def r28_15 : List Ins := [⟨some 53, none, .faddr 3 (.t 5)⟩,
  ⟨some 54, none, .load 1 false (.t 53)⟩,
  ⟨some 55, none, .load 7 true (.t 7)⟩,
  ⟨some 56, none, .bslice 94 7 [(.t 55)]⟩,
  ⟨some 57, none, .app 94 7 56 (.t 54) (.t 56)⟩,
  ⟨some 58, none, .faddr 3 (.t 5)⟩,
  ⟨none, none, .store 1 (.t 58) (.t 57)⟩]
def r28_16 : List Ins := [⟨some 27, none, .mov (.t 6)⟩,
  ⟨some 28, none, .bin .sub (.t 27) (.k (.int .i64 1))⟩,
  ⟨some 6, none, .mov (.t 28)⟩]
def r28_17 : List Ins := [⟨some 59, none, .call (.k (.func (.func 46) #[] #[])) [(.t 4)]⟩,
  ⟨some 10, none, .mov (.t 59)⟩]
def r28_18 : List Ins := [⟨some 60, none, .mov (.t 10)⟩,
  ⟨some 61, none, .bin .neq (.t 60) (.k (.int .i64 0))⟩]
def r28_19 : List Ins := [⟨some 62, none, .build [.int .i64 0, .int .i64 0, .int .i64 0, .slice none 0 0] []⟩,
  ⟨some 63, none, .mov (.t 10)⟩,
  ⟨none, none, .store 4 (.t 2) (.t 62)⟩,
  ⟨some 3, none, .mov (.t 63)⟩]
def r28_20 : List Ins := [⟨some 64, none, .load 4 true (.t 5)⟩,
  ⟨none, none, .store 4 (.t 2) (.t 64)⟩,
  ⟨some 3, none, .mov (.k (.int .i64 0))⟩]
def x28 : XC := (.seq (.ops false r28_0) (.seq (.ops false r28_1) (.seq (.ops false r28_2) (.seq (.ops false r28_3) (.seq (.ops false r28_4) (.seq (.ops false r28_5) (.seq (.seq (.ops false r28_6) (.block 0 (.loop [.ghc 5 3 94 tS6] ⟨65, [(6, (.int .i64))], [(2, .ptr 0 0 0), (4, .ptr 1 0 0), (5, .ptr 2 0 0)], [.box 50 [.d (.int .i64), .d (.int .i64), .d (.int .i64), .nil], .box 80 [.d (.list (.int .u8)), .d (.int .i64)], .box 50 [.d (.int .i64), .d (.int .i64), .d (.int .i64), .row 3], .row 94 tS6 false]⟩ (.seq (.seq (.ops false r28_7) (.cond (.t 26) .skip (.exit 0))) (.seq (.block 1 (.seq (.ops false r28_8) (.seq (.ops false r28_9) (.seq (.seq (.ops false r28_10) (.block 2 (.loopU 7 (.seq (.ops false r28_11) (.seq (.cond (.t 46) .skip (.exit 2)) (.seq (.block 3 (.seq (.ops false r28_12) (.ops false r28_13))) (.ops false r28_14))))))) (.ops false r28_15))))) (.ops false r28_16)))))) (.seq (.seq (.ops false r28_17) (.seq (.ops false r28_18) (.cond (.t 61) (.seq (.ops false r28_19) .ret) .skip))) (.seq (.ops false r28_20) .ret)))))))))
theorem F28 : Fn Try.prog 28 65 x28.er [.c 2 4 true, .t 3] := ⟨Try.f28, hcl, Try.func28, by kernel_rfl, by kernel_rfl, by kernel_rfl, by kernel_rfl⟩
noncomputable def m28 (a0 : List Int) : Option (DS7 × Int × Unit) :=
  (m44 a0 0).bind fun y683 =>
  (m44 y683.2.1 y683.2.2.1).bind fun y684 =>
  (m44 y684.2.1 y684.2.2.1).bind fun y685 =>
  (m53 64 y685.2.1 y685.2.2.1).bind fun y686 =>
  loopO (S := Int × Int × Int × Int × (List Int) × Int × Int × Int × Int × (List DS6) × Unit) (R := DS7 × Int × Unit) (fun s687 =>
   cond (cond (iLt 0 s687.1) (iEq s687.2.2.2.2.2.1 0) false)
   ((m44 s687.2.2.2.2.1 s687.2.2.2.2.2.1).bind fun y688 =>
    (m44 y688.2.1 y688.2.2.1).bind fun y689 =>
    (m44 y689.2.1 y689.2.2.1).bind fun y690 =>
    (m44 y690.2.1 y690.2.2.1).bind fun y691 =>
    (m44 y691.2.1 y691.2.2.1).bind fun y692 =>
    (m44 y692.2.1 y692.2.2.1).bind fun y693 =>
    cond (fits (List.length s687.2.2.2.2.2.2.2.2.2.1 + List.length ([(y688.1, y689.1, (y690.1, y691.1, s687.2.2.2.2.2.2.2.1, y692.1, y693.1, ()), ())] : List DS6)) 56)
    (some (.inl (iSub .i64 s687.1 1, s687.2.1, s687.2.2.1, s687.2.2.2.1, y693.2.1, y693.2.2.1, s687.2.2.2.2.2.2.1, s687.2.2.2.2.2.2.2.1, s687.2.2.2.2.2.2.2.2.1, s687.2.2.2.2.2.2.2.2.2.1 ++ ([(y688.1, y689.1, (y690.1, y691.1, s687.2.2.2.2.2.2.2.1, y692.1, y693.1, ()), ())] : List DS6), ()))) none)
   (Option.map Sum.inr ((m46 s687.2.2.2.2.1 s687.2.2.2.2.2.1).bind fun y694 =>
     cond (iNe y694.1 0)
     (some ((0, 0, 0, ([] : List DS6), ()), y694.1, ()))
     (some ((s687.2.2.2.2.2.2.1, s687.2.2.2.2.2.2.2.1, s687.2.2.2.2.2.2.2.2.1, s687.2.2.2.2.2.2.2.2.2.1, ()), 0, ())))))
  (y686.1, 0, 0, 0, y686.2.1, y686.2.2.1, y683.1, y684.1, y685.1, ([] : List DS6), ())
noncomputable def cfg28 : Cfg := ⟨ttab, gtab, [], [h44, h46, h53]⟩
theorem eqn28 (x : (List Int) × Unit) : xfun cfg28 x28 65 [.c 2 4 true, .t 3] [(.list (.int .u8))] [tS7, (.int .i64)] x = m28 x.1 := by kernel_rfl
noncomputable def i28 : PI := ⟨28, [(.list (.int .u8))], [tS7, (.int .i64)], fun (x : (List Int) × Unit) => m28 x.1⟩
theorem oki28 : POk Try.prog (gx gtab) i28 := pok mixed (cfg_h okh44 (cfg_h okh46 (cfg_h okh53 (cfg_nil _ _))) : CfgOk _ cfg28) F28 eqn28
/- 29 treaty/treatyref40.DecodeBordereau -/
def r29_0 : List Ins := [⟨some 2, none, .alloc 50 (.agg #[.int .i64 0, .int .i64 0, .int .i64 0, .slice none 0 0])⟩,
  ⟨some 3, none, .mov (.k (.int .i64 0))⟩]
def r29_1 : List Ins := [⟨some 9, none, .mov (.t 0)⟩,
  ⟨some 10, none, .build [.slice none 0 0, .int .i64 0] [(0, 1, (.t 9))]⟩,
  ⟨some 11, none, .box 86 2 (.t 10)⟩,
  ⟨some 4, none, .mov (.t 11)⟩]
def r29_2 : List Ins := [⟨some 5, none, .alloc 50 (.agg #[.int .i64 0, .int .i64 0, .int .i64 0, .slice none 0 0])⟩]
def r29_3 : List Ins := [⟨some 12, none, .mov (.t 4)⟩,
  ⟨some 13, none, .call (.k (.func (.func 47) #[] #[])) [(.t 12)]⟩,
  ⟨some 14, none, .faddr 0 (.t 5)⟩,
  ⟨none, none, .store 1 (.t 14) (.t 13)⟩]
def r29_4 : List Ins := [⟨some 15, none, .mov (.t 4)⟩,
  ⟨some 16, none, .call (.k (.func (.func 47) #[] #[])) [(.t 15)]⟩,
  ⟨some 17, none, .faddr 1 (.t 5)⟩,
  ⟨none, none, .store 1 (.t 17) (.t 16)⟩]
def r29_5 : List Ins := [⟨some 18, none, .mov (.t 4)⟩,
  ⟨some 19, none, .call (.k (.func (.func 47) #[] #[])) [(.t 18)]⟩,
  ⟨some 20, none, .faddr 2 (.t 5)⟩,
  ⟨none, none, .store 1 (.t 20) (.t 19)⟩]
def r29_6 : List Ins := [⟨some 21, none, .mov (.t 4)⟩,
  ⟨some 22, none, .call (.k (.func (.func 48) #[] #[])) [(.t 21), (.k (.int .i64 64))]⟩,
  ⟨some 6, none, .mov (.t 22)⟩]
def r29_7 : List Ins := [⟨some 23, none, .mov (.t 6)⟩,
  ⟨some 24, none, .bin .gtr (.t 23) (.k (.int .i64 0))⟩]
def r29_8 : List Ins := [⟨some 7, none, .alloc 94 (.agg #[.int .i64 0, .int .i64 0, .int .i64 0, .int .i64 0, .int .i64 0, .int .i64 0, .int .i64 0])⟩]
def r29_9 : List Ins := [⟨some 27, none, .mov (.t 4)⟩,
  ⟨some 28, none, .call (.k (.func (.func 47) #[] #[])) [(.t 27)]⟩,
  ⟨some 29, none, .faddr 0 (.t 7)⟩,
  ⟨none, none, .store 1 (.t 29) (.t 28)⟩]
def r29_10 : List Ins := [⟨some 30, none, .mov (.t 4)⟩,
  ⟨some 31, none, .call (.k (.func (.func 47) #[] #[])) [(.t 30)]⟩,
  ⟨some 32, none, .faddr 1 (.t 7)⟩,
  ⟨none, none, .store 1 (.t 32) (.t 31)⟩]
def r29_11 : List Ins := [⟨some 33, none, .mov (.t 4)⟩,
  ⟨some 34, none, .call (.k (.func (.func 47) #[] #[])) [(.t 33)]⟩,
  ⟨some 35, none, .faddr 2 (.t 7)⟩,
  ⟨some 36, none, .faddr 0 (.t 35)⟩,
  ⟨none, none, .store 1 (.t 36) (.t 34)⟩]
def r29_12 : List Ins := [⟨some 37, none, .mov (.t 4)⟩,
  ⟨some 38, none, .call (.k (.func (.func 47) #[] #[])) [(.t 37)]⟩,
  ⟨some 39, none, .faddr 2 (.t 7)⟩,
  ⟨some 40, none, .faddr 1 (.t 39)⟩,
  ⟨none, none, .store 1 (.t 40) (.t 38)⟩]
def r29_13 : List Ins := [⟨some 41, none, .mov (.t 4)⟩,
  ⟨some 42, none, .call (.k (.func (.func 47) #[] #[])) [(.t 41)]⟩,
  ⟨some 43, none, .faddr 2 (.t 7)⟩,
  ⟨some 44, none, .faddr 3 (.t 43)⟩,
  ⟨none, none, .store 1 (.t 44) (.t 42)⟩]
def r29_14 : List Ins := [⟨some 45, none, .mov (.t 4)⟩,
  ⟨some 46, none, .call (.k (.func (.func 47) #[] #[])) [(.t 45)]⟩,
  ⟨some 47, none, .faddr 2 (.t 7)⟩,
  ⟨some 48, none, .faddr 4 (.t 47)⟩,
  ⟨none, none, .store 1 (.t 48) (.t 46)⟩]
def r29_15 : List Ins := [⟨some 49, none, .faddr 1 (.t 5)⟩,
  ⟨some 50, none, .load 1 false (.t 49)⟩,
  ⟨some 51, none, .faddr 2 (.t 7)⟩,
  ⟨some 52, none, .faddr 2 (.t 51)⟩,
  ⟨none, none, .store 1 (.t 52) (.t 50)⟩]
def r29_16 : List Ins := [⟨some 53, none, .faddr 3 (.t 5)⟩,
  ⟨some 54, none, .load 1 false (.t 53)⟩,
  ⟨some 55, none, .load 7 true (.t 7)⟩,
  ⟨some 56, none, .bslice 94 7 [(.t 55)]⟩,
  ⟨some 57, none, .app 94 7 56 (.t 54) (.t 56)⟩,
  ⟨some 58, none, .faddr 3 (.t 5)⟩,
  ⟨none, none, .store 1 (.t 58) (.t 57)⟩]
def r29_17 : List Ins := [⟨some 25, none, .mov (.t 6)⟩,
  ⟨some 26, none, .bin .sub (.t 25) (.k (.int .i64 1))⟩,
  ⟨some 6, none, .mov (.t 26)⟩]
def r29_18 : List Ins := [⟨some 59, none, .mov (.t 4)⟩,
  ⟨some 60, none, .call (.k (.func (.func 50) #[] #[])) [(.t 59)]⟩,
  ⟨some 8, none, .mov (.t 60)⟩]
def r29_19 : List Ins := [⟨some 61, none, .mov (.t 8)⟩,
  ⟨some 62, none, .bin .neq (.t 61) (.k (.int .i64 0))⟩]
def r29_20 : List Ins := [⟨some 63, none, .build [.int .i64 0, .int .i64 0, .int .i64 0, .slice none 0 0] []⟩,
  ⟨some 64, none, .mov (.t 8)⟩,
  ⟨none, none, .store 4 (.t 2) (.t 63)⟩,
  ⟨some 3, none, .mov (.t 64)⟩]
def r29_21 : List Ins := [⟨some 65, none, .load 4 true (.t 5)⟩,
  ⟨none, none, .store 4 (.t 2) (.t 65)⟩,
  ⟨some 3, none, .mov (.k (.int .i64 0))⟩]
def x29 : XC := (.seq (.ops false r29_0) (.seq (.ops false r29_1) (.seq (.ops false r29_2) (.seq (.ops false r29_3) (.seq (.ops false r29_4) (.seq (.ops false r29_5) (.seq (.seq (.ops false r29_6) (.block 0 (.loop [.ghc 5 3 94 tS6] ⟨66, [(6, (.int .i64))], [(2, .ptr 0 0 0), (4, .ptr 1 0 0), (5, .ptr 2 0 0)], [.box 50 [.d (.int .i64), .d (.int .i64), .d (.int .i64), .nil], .box 86 [.d (.list (.int .u8)), .d (.int .i64)], .box 50 [.d (.int .i64), .d (.int .i64), .d (.int .i64), .row 3], .row 94 tS6 false]⟩ (.seq (.seq (.ops false r29_7) (.cond (.t 24) .skip (.exit 0))) (.seq (.block 1 (.seq (.ops false r29_8) (.seq (.ops false r29_9) (.seq (.ops false r29_10) (.seq (.ops false r29_11) (.seq (.ops false r29_12) (.seq (.ops false r29_13) (.seq (.ops false r29_14) (.seq (.ops false r29_15) (.ops false r29_16)))))))))) (.ops false r29_17)))))) (.seq (.seq (.ops false r29_18) (.seq (.ops false r29_19) (.cond (.t 62) (.seq (.ops false r29_20) .ret) .skip))) (.seq (.ops false r29_21) .ret)))))))))
theorem F29 : Fn Try.prog 29 66 x29.er [.c 2 4 true, .t 3] := ⟨Try.f29, hcl, Try.func29, by kernel_rfl, by kernel_rfl, by kernel_rfl, by kernel_rfl⟩
noncomputable def m29 (a0 : List Int) : Option (DS7 × Int × Unit) :=
  (m47 a0 0).bind fun y708 =>
  (m47 y708.2.1 y708.2.2.1).bind fun y709 =>
  (m47 y709.2.1 y709.2.2.1).bind fun y710 =>
  (m48 64 y710.2.1 y710.2.2.1).bind fun y711 =>
  loopO (S := Int × Int × Int × Int × (List Int) × Int × Int × Int × Int × (List DS6) × Unit) (R := DS7 × Int × Unit) (fun s712 =>
   cond (iLt 0 s712.1)
   ((m47 s712.2.2.2.2.1 s712.2.2.2.2.2.1).bind fun y713 =>
    (m47 y713.2.1 y713.2.2.1).bind fun y714 =>
    (m47 y714.2.1 y714.2.2.1).bind fun y715 =>
    (m47 y715.2.1 y715.2.2.1).bind fun y716 =>
    (m47 y716.2.1 y716.2.2.1).bind fun y717 =>
    (m47 y717.2.1 y717.2.2.1).bind fun y718 =>
    cond (fits (List.length s712.2.2.2.2.2.2.2.2.2.1 + List.length ([(y713.1, y714.1, (y715.1, y716.1, s712.2.2.2.2.2.2.2.1, y717.1, y718.1, ()), ())] : List DS6)) 56)
    (some (.inl (iSub .i64 s712.1 1, s712.2.1, s712.2.2.1, s712.2.2.2.1, y718.2.1, y718.2.2.1, s712.2.2.2.2.2.2.1, s712.2.2.2.2.2.2.2.1, s712.2.2.2.2.2.2.2.2.1, s712.2.2.2.2.2.2.2.2.2.1 ++ ([(y713.1, y714.1, (y715.1, y716.1, s712.2.2.2.2.2.2.2.1, y717.1, y718.1, ()), ())] : List DS6), ()))) none)
   (Option.map Sum.inr ((m50 s712.2.2.2.2.1 s712.2.2.2.2.2.1).bind fun y719 =>
     cond (iNe y719.1 0)
     (some ((0, 0, 0, ([] : List DS6), ()), y719.1, ()))
     (some ((s712.2.2.2.2.2.2.1, s712.2.2.2.2.2.2.2.1, s712.2.2.2.2.2.2.2.2.1, s712.2.2.2.2.2.2.2.2.2.1, ()), 0, ())))))
  (y711.1, 0, 0, 0, y711.2.1, y711.2.2.1, y708.1, y709.1, y710.1, ([] : List DS6), ())
noncomputable def cfg29 : Cfg := ⟨ttab, gtab, [], [h47, h48, h50]⟩
theorem eqn29 (x : (List Int) × Unit) : xfun cfg29 x29 66 [.c 2 4 true, .t 3] [(.list (.int .u8))] [tS7, (.int .i64)] x = m29 x.1 := by kernel_rfl
noncomputable def i29 : PI := ⟨29, [(.list (.int .u8))], [tS7, (.int .i64)], fun (x : (List Int) × Unit) => m29 x.1⟩
theorem oki29 : POk Try.prog (gx gtab) i29 := pok mixed (cfg_h okh47 (cfg_h okh48 (cfg_h okh50 (cfg_nil _ _))) : CfgOk _ cfg29) F29 eqn29
/- 30 treaty/treatyref40.SameBordereau -/
def r30_0 : List Ins := [⟨some 2, none, .box 50 4 (.t 0)⟩,
  ⟨some 3, none, .box 50 4 (.t 1)⟩,
  ⟨some 4, none, .mov (.k (.bool false))⟩]
def r30_1 : List Ins := [⟨some 6, none, .faddr 0 (.t 2)⟩,
  ⟨some 7, none, .load 1 false (.t 6)⟩,
  ⟨some 8, none, .faddr 0 (.t 3)⟩,
  ⟨some 9, none, .load 1 false (.t 8)⟩,
  ⟨some 10, none, .bin .neq (.t 7) (.t 9)⟩,
  ⟨some 11, none, .mov (.t 10)⟩,
  ⟨some 12, some (11, false), .faddr 1 (.t 2)⟩,
  ⟨some 13, some (11, false), .load 1 false (.t 12)⟩,
  ⟨some 14, some (11, false), .faddr 1 (.t 3)⟩,
  ⟨some 15, some (11, false), .load 1 false (.t 14)⟩,
  ⟨some 16, some (11, false), .bin .neq (.t 13) (.t 15)⟩,
  ⟨some 17, none, .pick (.t 11) (.k (.bool true)) (.t 16)⟩,
  ⟨some 18, none, .mov (.t 17)⟩,
  ⟨some 19, some (18, false), .faddr 2 (.t 2)⟩,
  ⟨some 20, some (18, false), .load 1 false (.t 19)⟩,
  ⟨some 21, some (18, false), .faddr 2 (.t 3)⟩,
  ⟨some 22, some (18, false), .load 1 false (.t 21)⟩,
  ⟨some 23, some (18, false), .bin .neq (.t 20) (.t 22)⟩,
  ⟨some 24, none, .pick (.t 18) (.k (.bool true)) (.t 23)⟩,
  ⟨some 25, none, .mov (.t 24)⟩,
  ⟨some 26, some (25, false), .faddr 3 (.t 2)⟩,
  ⟨some 27, some (25, false), .load 1 false (.t 26)⟩,
  ⟨some 28, some (25, false), .len (.t 27)⟩,
  ⟨some 29, some (25, false), .faddr 3 (.t 3)⟩,
  ⟨some 30, some (25, false), .load 1 false (.t 29)⟩,
  ⟨some 31, some (25, false), .len (.t 30)⟩,
  ⟨some 32, some (25, false), .bin .neq (.t 28) (.t 31)⟩,
  ⟨some 33, none, .pick (.t 25) (.k (.bool true)) (.t 32)⟩]
def r30_2 : List Ins := [⟨some 4, none, .mov (.k (.bool false))⟩]
def r30_3 : List Ins := [⟨some 34, none, .faddr 3 (.t 2)⟩,
  ⟨some 35, none, .load 1 false (.t 34)⟩,
  ⟨some 36, none, .len (.t 35)⟩,
  ⟨some 37, none, .mov (.k (.int .i64 0))⟩]
def r30_4 : List Ins := [⟨some 38, none, .bin .lss (.t 37) (.t 36)⟩]
def r30_5 : List Ins := [⟨some 39, none, .mov (.t 37)⟩,
  ⟨some 5, none, .mov (.t 39)⟩]
def r30_6 : List Ins := [⟨some 40, none, .faddr 3 (.t 2)⟩,
  ⟨some 41, none, .load 1 false (.t 40)⟩,
  ⟨some 42, none, .mov (.t 5)⟩,
  ⟨some 43, none, .iaddr 7 (.t 41) (.t 42)⟩,
  ⟨some 44, none, .load 7 true (.t 43)⟩,
  ⟨some 45, none, .faddr 3 (.t 3)⟩,
  ⟨some 46, none, .load 1 false (.t 45)⟩,
  ⟨some 47, none, .mov (.t 5)⟩,
  ⟨some 48, none, .iaddr 7 (.t 46) (.t 47)⟩,
  ⟨some 49, none, .load 7 true (.t 48)⟩,
  ⟨some 50, none, .aeq true [(0, 1), (1, 1), (2, 1), (3, 1), (4, 1), (5, 1), (6, 1)] (.t 44) (.t 49)⟩]
def r30_7 : List Ins := [⟨some 4, none, .mov (.k (.bool false))⟩]
def r30_8 : List Ins := [⟨some 51, none, .bin .add (.t 37) (.k (.int .i64 1))⟩,
  ⟨some 37, none, .mov (.t 51)⟩]
def r30_9 : List Ins := [⟨some 4, none, .mov (.k (.bool true))⟩]
def x30 : XC := (.seq (.ops false r30_0) (.seq (.seq (.ops false r30_1) (.cond (.t 33) (.seq (.ops false r30_2) .ret) .skip)) (.seq (.seq (.ops false r30_3) (.block 0 (.loop [] ⟨52, [(36, (.int .i64)), (37, (.int .i64))], [(2, .ptr 0 0 0), (3, .ptr 1 0 0)], [.box 50 [.d (.int .i64), .d (.int .i64), .d (.int .i64), .d (.list tS6)], .box 50 [.d (.int .i64), .d (.int .i64), .d (.int .i64), .d (.list tS6)]]⟩ (.seq (.ops false r30_4) (.seq (.cond (.t 38) .skip (.exit 0)) (.seq (.block 1 (.seq (.ops false r30_5) (.seq (.ops true r30_6) (.cond (.t 50) (.seq (.ops false r30_7) .ret) .skip)))) (.ops false r30_8))))))) (.seq (.ops false r30_9) .ret))))
theorem F30 : Fn Try.prog 30 52 x30.er [.t 4] := ⟨Try.f30, hcl, Try.func30, by kernel_rfl, by kernel_rfl, by kernel_rfl, by kernel_rfl⟩
noncomputable def m30 (a0 : DS7) (a1 : DS7) : Option (Bool × Unit) :=
  cond (cond (cond (cond (iNe a0.1 a1.1) true (iNe a0.2.1 a1.2.1)) true (iNe a0.2.2.1 a1.2.2.1)) true (iNe (lenI a0.2.2.2.1) (lenI a1.2.2.2.1)))
  (some (false, ()))
  (loopO (S := Int × Int × Int × Int × Int × (List DS6) × Int × Int × Int × (List DS6) × Unit) (R := Bool × Unit) (fun s722 =>
    cond (iLt s722.2.1 s722.1)
    (cond (bnd s722.2.1 (lenI s722.2.2.2.2.2.1))
     (cond (bnd s722.2.1 (lenI s722.2.2.2.2.2.2.2.2.2.1))
      (cond (not (and (iEq ((atI s722.2.2.2.2.2.1 s722.2.1 (0, 0, (0, 0, 0, 0, 0, ()), ())).1) ((atI s722.2.2.2.2.2.2.2.2.2.1 s722.2.1 (0, 0, (0, 0, 0, 0, 0, ()), ())).1)) (and (iEq ((atI s722.2.2.2.2.2.1 s722.2.1 (0, 0, (0, 0, 0, 0, 0, ()), ())).2.1) ((atI s722.2.2.2.2.2.2.2.2.2.1 s722.2.1 (0, 0, (0, 0, 0, 0, 0, ()), ())).2.1)) (and (iEq (((atI s722.2.2.2.2.2.1 s722.2.1 (0, 0, (0, 0, 0, 0, 0, ()), ())).2.2.1).1) (((atI s722.2.2.2.2.2.2.2.2.2.1 s722.2.1 (0, 0, (0, 0, 0, 0, 0, ()), ())).2.2.1).1)) (and (iEq (((atI s722.2.2.2.2.2.1 s722.2.1 (0, 0, (0, 0, 0, 0, 0, ()), ())).2.2.1).2.1) (((atI s722.2.2.2.2.2.2.2.2.2.1 s722.2.1 (0, 0, (0, 0, 0, 0, 0, ()), ())).2.2.1).2.1)) (and (iEq (((atI s722.2.2.2.2.2.1 s722.2.1 (0, 0, (0, 0, 0, 0, 0, ()), ())).2.2.1).2.2.1) (((atI s722.2.2.2.2.2.2.2.2.2.1 s722.2.1 (0, 0, (0, 0, 0, 0, 0, ()), ())).2.2.1).2.2.1)) (and (iEq (((atI s722.2.2.2.2.2.1 s722.2.1 (0, 0, (0, 0, 0, 0, 0, ()), ())).2.2.1).2.2.2.1) (((atI s722.2.2.2.2.2.2.2.2.2.1 s722.2.1 (0, 0, (0, 0, 0, 0, 0, ()), ())).2.2.1).2.2.2.1)) (and (iEq (((atI s722.2.2.2.2.2.1 s722.2.1 (0, 0, (0, 0, 0, 0, 0, ()), ())).2.2.1).2.2.2.2.1) (((atI s722.2.2.2.2.2.2.2.2.2.1 s722.2.1 (0, 0, (0, 0, 0, 0, 0, ()), ())).2.2.1).2.2.2.2.1)) true))))))))
       (some (.inr (false, ())))
       (some (.inl (s722.1, iAdd .i64 s722.2.1 1, s722.2.2.1, s722.2.2.2.1, s722.2.2.2.2.1, s722.2.2.2.2.2.1, s722.2.2.2.2.2.2.1, s722.2.2.2.2.2.2.2.1, s722.2.2.2.2.2.2.2.2.1, s722.2.2.2.2.2.2.2.2.2.1, ())))) none) none)
    (some (.inr (true, ()))))
   (lenI a0.2.2.2.1, 0, a0.1, a0.2.1, a0.2.2.1, a0.2.2.2.1, a1.1, a1.2.1, a1.2.2.1, a1.2.2.2.1, ()))
noncomputable def cfg30 : Cfg := ⟨ttab, gtab, [], []⟩
theorem eqn30 (x : DS7 × DS7 × Unit) : xfun cfg30 x30 52 [.t 4] [tS7, tS7] [.bool] x = m30 x.1 x.2.1 := by kernel_rfl
noncomputable def i30 : PI := ⟨30, [tS7, tS7], [.bool], fun (x : DS7 × DS7 × Unit) => m30 x.1 x.2.1⟩
theorem oki30 : POk Try.prog (gx gtab) i30 := pok mixed (cfg_nil _ _ : CfgOk _ cfg30) F30 eqn30
/- 6 treaty/treatylaw40.CodecBordereau -/
def r6_0 : List Ins := [⟨some 5, none, .box 50 4 (.t 0)⟩,
  ⟨some 10, none, .mov (.k (.bool false))⟩]
def r6_1 : List Ins := [⟨some 26, none, .faddr 3 (.t 5)⟩,
  ⟨some 27, none, .load 1 false (.t 26)⟩,
  ⟨some 28, none, .len (.t 27)⟩,
  ⟨some 29, none, .bin .gtr (.t 28) (.k (.int .i64 80))⟩,
  ⟨some 30, none, .mov (.t 29)⟩,
  ⟨some 31, some (30, false), .mov (.t 1)⟩,
  ⟨some 32, some (30, false), .len (.t 31)⟩,
  ⟨some 33, some (30, false), .bin .gtr (.t 32) (.k (.int .i64 400))⟩,
  ⟨some 34, none, .pick (.t 30) (.k (.bool true)) (.t 33)⟩]
def r6_2 : List Ins := [⟨some 35, none, .call (.k (.func (.func 9) #[] #[])) []⟩,
  ⟨some 10, none, .mov (.t 35)⟩]
def r6_3 : List Ins := [⟨some 36, none, .mov (.t 2)⟩,
  ⟨some 37, none, .call (.k (.func (.func 10) #[] #[])) [(.t 36)]⟩,
  ⟨some 38, none, .call (.k (.func (.func 25) #[] #[])) [(.t 37)]⟩,
  ⟨some 11, none, .alloc 50 (.agg #[.int .i64 0, .int .i64 0, .int .i64 0, .slice none 0 0])⟩,
  ⟨none, none, .store 4 (.t 11) (.t 38)⟩]
def r6_4 : List Ins := [⟨some 39, none, .load 4 true (.t 5)⟩,
  ⟨some 40, none, .load 4 true (.t 11)⟩,
  ⟨some 41, none, .bslice 50 4 [(.t 39), (.t 40)]⟩,
  ⟨some 42, none, .len (.t 41)⟩,
  ⟨some 43, none, .mov (.k (.int .i64 0))⟩]
def r6_5 : List Ins := [⟨some 44, none, .bin .lss (.t 43) (.t 42)⟩]
def r6_6 : List Ins := [⟨some 45, none, .iaddr 4 (.t 41) (.t 43)⟩,
  ⟨some 46, none, .load 4 true (.t 45)⟩,
  ⟨some 13, none, .alloc 50 (.agg #[.int .i64 0, .int .i64 0, .int .i64 0, .slice none 0 0])⟩,
  ⟨none, none, .store 4 (.t 13) (.t 46)⟩]
def r6_7 : List Ins := [⟨some 48, none, .load 4 true (.t 13)⟩,
  ⟨some 49, none, .call (.k (.func (.func 26) #[] #[])) [(.t 48)]⟩,
  ⟨some 47, none, .mov (.t 49)⟩,
  ⟨some 50, none, .ext 0 (.t 47)⟩,
  ⟨some 51, none, .ext 1 (.t 47)⟩,
  ⟨some 14, none, .mov (.t 50)⟩,
  ⟨some 15, none, .mov (.t 51)⟩]
def r6_8 : List Ins := [⟨some 53, none, .load 4 true (.t 13)⟩,
  ⟨some 54, none, .call (.k (.func (.func 27) #[] #[])) [(.t 53)]⟩,
  ⟨some 52, none, .mov (.t 54)⟩,
  ⟨some 55, none, .ext 0 (.t 52)⟩,
  ⟨some 56, none, .ext 1 (.t 52)⟩,
  ⟨some 16, none, .mov (.t 55)⟩,
  ⟨some 17, none, .mov (.t 56)⟩]
def r6_9 : List Ins := [⟨some 57, none, .mov (.t 14)⟩,
  ⟨some 58, none, .mov (.t 16)⟩,
  ⟨some 59, none, .call (.k (.func (.func 15) #[] #[])) [(.t 57), (.t 58)]⟩,
  ⟨some 60, none, .un .not (.t 59)⟩,
  ⟨some 61, none, .mov (.t 60)⟩,
  ⟨some 62, some (61, false), .mov (.t 15)⟩,
  ⟨some 63, some (61, false), .mov (.t 17)⟩,
  ⟨some 64, some (61, false), .bin .neq (.t 62) (.t 63)⟩,
  ⟨some 65, none, .pick (.t 61) (.k (.bool true)) (.t 64)⟩]
def r6_10 : List Ins := [⟨some 10, none, .mov (.k (.bool false))⟩]
def r6_11 : List Ins := [⟨some 66, none, .bin .add (.t 43) (.k (.int .i64 1))⟩,
  ⟨some 43, none, .mov (.t 66)⟩]
def r6_12 : List Ins := [⟨some 68, none, .load 4 true (.t 11)⟩,
  ⟨some 69, none, .call (.k (.func (.func 27) #[] #[])) [(.t 68)]⟩,
  ⟨some 67, none, .mov (.t 69)⟩,
  ⟨some 70, none, .ext 0 (.t 67)⟩,
  ⟨some 71, none, .ext 1 (.t 67)⟩,
  ⟨some 18, none, .mov (.t 70)⟩,
  ⟨some 19, none, .mov (.t 71)⟩]
def r6_13 : List Ins := [⟨some 72, none, .mov (.t 19)⟩,
  ⟨some 73, none, .bin .neq (.t 72) (.k (.int .i64 0))⟩]
def r6_14 : List Ins := [⟨some 10, none, .mov (.k (.bool false))⟩]
def r6_15 : List Ins := [⟨some 74, none, .mov (.t 1)⟩,
  ⟨some 75, none, .mov (.t 18)⟩,
  ⟨some 76, none, .mov (.t 18)⟩,
  ⟨some 77, none, .mov (.t 3)⟩,
  ⟨some 78, none, .mov (.t 4)⟩,
  ⟨some 79, none, .call (.k (.func (.func 21) #[] #[])) [(.t 76), (.t 77), (.t 78)]⟩,
  ⟨some 80, none, .bslice 22 1 [(.t 74), (.t 75), (.t 79)]⟩,
  ⟨some 81, none, .len (.t 80)⟩,
  ⟨some 82, none, .mov (.k (.int .i64 0))⟩]
def r6_16 : List Ins := [⟨some 83, none, .bin .lss (.t 82) (.t 81)⟩]
def r6_17 : List Ins := [⟨some 84, none, .iaddr 1 (.t 80) (.t 82)⟩,
  ⟨some 85, none, .load 1 false (.t 84)⟩,
  ⟨some 21, none, .mov (.t 85)⟩]
def r6_18 : List Ins := [⟨some 87, none, .mov (.t 21)⟩,
  ⟨some 88, none, .call (.k (.func (.func 28) #[] #[])) [(.t 87)]⟩,
  ⟨some 86, none, .mov (.t 88)⟩,
  ⟨some 89, none, .ext 0 (.t 86)⟩,
  ⟨some 90, none, .ext 1 (.t 86)⟩,
  ⟨some 22, none, .alloc 50 (.agg #[.int .i64 0, .int .i64 0, .int .i64 0, .slice none 0 0])⟩,
  ⟨none, none, .store 4 (.t 22) (.t 89)⟩,
  ⟨some 23, none, .mov (.t 90)⟩]
def r6_19 : List Ins := [⟨some 92, none, .mov (.t 21)⟩,
  ⟨some 93, none, .call (.k (.func (.func 29) #[] #[])) [(.t 92)]⟩,
  ⟨some 91, none, .mov (.t 93)⟩,
  ⟨some 94, none, .ext 0 (.t 91)⟩,
  ⟨some 95, none, .ext 1 (.t 91)⟩,
  ⟨some 24, none, .alloc 50 (.agg #[.int .i64 0, .int .i64 0, .int .i64 0, .slice none 0 0])⟩,
  ⟨none, none, .store 4 (.t 24) (.t 94)⟩,
  ⟨some 25, none, .mov (.t 95)⟩]
def r6_20 : List Ins := [⟨some 96, none, .load 4 true (.t 22)⟩,
  ⟨some 97, none, .load 4 true (.t 24)⟩,
  ⟨some 98, none, .call (.k (.func (.func 30) #[] #[])) [(.t 96), (.t 97)]⟩,
  ⟨some 99, none, .un .not (.t 98)⟩,
  ⟨some 100, none, .mov (.t 99)⟩,
  ⟨some 101, some (100, false), .mov (.t 23)⟩,
  ⟨some 102, some (100, false), .mov (.t 25)⟩,
  ⟨some 103, some (100, false), .bin .neq (.t 101) (.t 102)⟩,
  ⟨some 104, none, .pick (.t 100) (.k (.bool true)) (.t 103)⟩]
def r6_21 : List Ins := [⟨some 10, none, .mov (.k (.bool false))⟩]
def r6_22 : List Ins := [⟨some 105, none, .bin .add (.t 82) (.k (.int .i64 1))⟩,
  ⟨some 82, none, .mov (.t 105)⟩]
def r6_23 : List Ins := [⟨some 106, none, .call (.k (.func (.func 9) #[] #[])) []⟩,
  ⟨some 10, none, .mov (.t 106)⟩]
def x6 : XC := (.seq (.ops false r6_0) (.seq (.seq (.ops false r6_1) (.cond (.t 34) (.seq (.ops false r6_2) .ret) .skip)) (.seq (.ops false r6_3) (.seq (.seq (.ops false r6_4) (.block 0 (.loop [] ⟨107, [(1, (.list (.int .u8))), (3, (.int .i64)), (4, (.int .u8)), (42, (.int .i64)), (43, (.int .i64))], [(11, .ptr 0 0 0), (41, .row 1)], [.box 50 [.d (.int .i64), .d (.int .i64), .d (.int .i64), .row 2], .row 50 tS7 false, .row 94 tS6 true]⟩ (.seq (.ops false r6_5) (.seq (.cond (.t 44) .skip (.exit 0)) (.seq (.block 1 (.seq (.ops false r6_6) (.seq (.ops false r6_7) (.seq (.ops false r6_8) (.seq (.ops false r6_9) (.cond (.t 65) (.seq (.ops false r6_10) .ret) .skip)))))) (.ops false r6_11))))))) (.seq (.ops false r6_12) (.seq (.seq (.ops false r6_13) (.cond (.t 73) (.seq (.ops false r6_14) .ret) .skip)) (.seq (.seq (.ops false r6_15) (.block 2 (.loop [] ⟨107, [(81, (.int .i64)), (82, (.int .i64))], [(80, .row 0)], [.row 22 (.list (.int .u8)) false]⟩ (.seq (.ops false r6_16) (.seq (.cond (.t 83) .skip (.exit 2)) (.seq (.block 3 (.seq (.ops false r6_17) (.seq (.ops false r6_18) (.seq (.ops false r6_19) (.seq (.ops false r6_20) (.cond (.t 104) (.seq (.ops false r6_21) .ret) .skip)))))) (.ops false r6_22))))))) (.seq (.ops false r6_23) .ret))))))))
theorem F6 : Fn Try.prog 6 107 x6.er [.t 10] := ⟨Try.f6, hcl, Try.func6, by kernel_rfl, by kernel_rfl, by kernel_rfl, by kernel_rfl⟩
noncomputable def m6 (a0 : DS7) (a1 : List Int) (a2 : List Int) (a3 : Int) (a4 : Int) : Option (Bool × Unit) :=
  cond (cond (iLt 80 (lenI a0.2.2.2.1)) true (iLt 400 (lenI a1)))
  ((m9).bind fun y725 =>
   some (y725.1, ()))
  ((m10 a2).bind fun y726 =>
   (m25 y726.1 y726.2.1).bind fun y727 =>
   loopO (S := (List Int) × Int × Int × Int × Int × Int × Int × Int × (List DS7) × (List DS6) × Unit) (R := Bool × Unit) (fun s728 =>
    cond (iLt s728.2.2.2.2.1 s728.2.2.2.1)
    (cond (bnd s728.2.2.2.2.1 (lenI s728.2.2.2.2.2.2.2.2.1))
     (cond (inB (Int.toNat s728.2.2.2.2.1) s728.2.2.2.2.2.2.2.2.1)
      ((m26 ((List.getD s728.2.2.2.2.2.2.2.2.1 (Int.toNat s728.2.2.2.2.1) (0, 0, 0, [], ())).1, (List.getD s728.2.2.2.2.2.2.2.2.1 (Int.toNat s728.2.2.2.2.1) (0, 0, 0, [], ())).2.1, (List.getD s728.2.2.2.2.2.2.2.2.1 (Int.toNat s728.2.2.2.2.1) (0, 0, 0, [], ())).2.2.1, (List.getD s728.2.2.2.2.2.2.2.2.1 (Int.toNat s728.2.2.2.2.1) (0, 0, 0, [], ())).2.2.2.1, ())).bind fun y729 =>
       (m27 ((List.getD s728.2.2.2.2.2.2.2.2.1 (Int.toNat s728.2.2.2.2.1) (0, 0, 0, [], ())).1, (List.getD s728.2.2.2.2.2.2.2.2.1 (Int.toNat s728.2.2.2.2.1) (0, 0, 0, [], ())).2.1, (List.getD s728.2.2.2.2.2.2.2.2.1 (Int.toNat s728.2.2.2.2.1) (0, 0, 0, [], ())).2.2.1, (List.getD s728.2.2.2.2.2.2.2.2.1 (Int.toNat s728.2.2.2.2.1) (0, 0, 0, [], ())).2.2.2.1, ())).bind fun y730 =>
       (m15 y729.1 y730.1).bind fun y731 =>
       cond (cond (not y731.1) true (iNe y729.2.1 y730.2.1))
       (some (.inr (false, ())))
       (some (.inl (s728.1, s728.2.1, s728.2.2.1, s728.2.2.2.1, iAdd .i64 s728.2.2.2.2.1 1, s728.2.2.2.2.2.1, s728.2.2.2.2.2.2.1, s728.2.2.2.2.2.2.2.1, s728.2.2.2.2.2.2.2.2.1, s728.2.2.2.2.2.2.2.2.2.1, ())))) none) none)
    (Option.map Sum.inr ((m27 (s728.2.2.2.2.2.1, s728.2.2.2.2.2.2.1, s728.2.2.2.2.2.2.2.1, s728.2.2.2.2.2.2.2.2.2.1, ())).bind fun y732 =>
      cond (iNe y732.2.1 0)
      (some (false, ()))
      ((m21 y732.1 s728.2.1 s728.2.2.1).bind fun y733 =>
       loopO (S := Int × Int × (List (List Int)) × Unit) (R := Bool × Unit) (fun s734 =>
        cond (iLt s734.2.1 s734.1)
        (cond (bnd s734.2.1 (lenI s734.2.2.1))
         (cond (inB (Int.toNat s734.2.1) s734.2.2.1)
          ((m28 (List.getD s734.2.2.1 (Int.toNat s734.2.1) [])).bind fun y735 =>
           (m29 (List.getD s734.2.2.1 (Int.toNat s734.2.1) [])).bind fun y736 =>
           (m30 (y735.1.1, y735.1.2.1, y735.1.2.2.1, y735.1.2.2.2.1, ()) (y736.1.1, y736.1.2.1, y736.1.2.2.1, y736.1.2.2.2.1, ())).bind fun y737 =>
           cond (cond (not y737.1) true (iNe y735.2.1 y736.2.1))
           (some (.inr (false, ())))
           (some (.inl (s734.1, iAdd .i64 s734.2.1 1, s734.2.2.1, ())))) none) none)
        (Option.map Sum.inr ((m9).bind fun y738 =>
          some (y738.1, ()))))
       (lenI ([s728.1, y732.1, y733.1] : List (List Int)), 0, ([s728.1, y732.1, y733.1] : List (List Int)), ())))))
   (a1, a3, a4, lenI ([(a0.1, a0.2.1, a0.2.2.1, a0.2.2.2.1, ()), (y727.1, y727.2.1, y727.2.2.1, y727.2.2.2.2.2.1, ())] : List DS7), 0, y727.1, y727.2.1, y727.2.2.1, ([(a0.1, a0.2.1, a0.2.2.1, a0.2.2.2.1, ()), (y727.1, y727.2.1, y727.2.2.1, y727.2.2.2.2.2.1, ())] : List DS7), y727.2.2.2.2.2.1, ()))
noncomputable def cfg6 : Cfg := ⟨ttab, gtab, [i15, i21, i26, i27, i28, i29, i30, i9], [h10, h25]⟩
theorem eqn6 (x : DS7 × (List Int) × (List Int) × Int × Int × Unit) : xfun cfg6 x6 107 [.t 10] [tS7, (.list (.int .u8)), (.list (.int .i64)), (.int .i64), (.int .u8)] [.bool] x = m6 x.1 x.2.1 x.2.2.1 x.2.2.2.1 x.2.2.2.2.1 := by kernel_rfl
noncomputable def i6 : PI := ⟨6, [tS7, (.list (.int .u8)), (.list (.int .i64)), (.int .i64), (.int .u8)], [.bool], fun (x : DS7 × (List Int) × (List Int) × Int × Int × Unit) => m6 x.1 x.2.1 x.2.2.1 x.2.2.2.1 x.2.2.2.2.1⟩
theorem oki6 : POk Try.prog (gx gtab) i6 := pok mixed (cfg_p oki15 (cfg_p oki21 (cfg_p oki26 (cfg_p oki27 (cfg_p oki28 (cfg_p oki29 (cfg_p oki30 (cfg_p oki9 (cfg_h okh10 (cfg_h okh25 (cfg_nil _ _)))))))))) : CfgOk _ cfg6) F6 eqn6
/- 7 treaty/treatylaw40.CodecRoundTrip -/
def r7_0 : List Ins := [⟨some 3, none, .box 38 6 (.t 0)⟩,
  ⟨some 4, none, .box 50 4 (.t 1)⟩,
  ⟨some 6, none, .mov (.k (.bool false))⟩]
def r7_1 : List Ins := [⟨some 20, none, .faddr 1 (.t 3)⟩,
  ⟨some 21, none, .load 1 false (.t 20)⟩,
  ⟨some 22, none, .len (.t 21)⟩,
  ⟨some 23, none, .bin .gtr (.t 22) (.k (.int .i64 80))⟩,
  ⟨some 24, none, .mov (.t 23)⟩,
  ⟨some 25, some (24, false), .faddr 3 (.t 4)⟩,
  ⟨some 26, some (24, false), .load 1 false (.t 25)⟩,
  ⟨some 27, some (24, false), .len (.t 26)⟩,
  ⟨some 28, some (24, false), .bin .gtr (.t 27) (.k (.int .i64 80))⟩,
  ⟨some 29, none, .pick (.t 24) (.k (.bool true)) (.t 28)⟩]
def r7_2 : List Ins := [⟨some 30, none, .call (.k (.func (.func 9) #[] #[])) []⟩,
  ⟨some 6, none, .mov (.t 30)⟩]
def r7_3 : List Ins := [⟨some 31, none, .mov (.t 2)⟩,
  ⟨some 32, none, .call (.k (.func (.func 10) #[] #[])) [(.t 31)]⟩,
  ⟨some 7, none, .mov (.t 32)⟩]
def r7_4 : List (Nat × Ins) := [(1, ⟨some 33, none, .load 6 true (.t 3)⟩),
  (0, ⟨some 34, none, .mov (.t 7)⟩),
  (2, ⟨some 35, none, .call (.k (.func (.func 18) #[] #[])) [(.t 34)]⟩),
  (0, ⟨some 36, none, .bslice 38 6 [(.t 33), (.t 35)]⟩),
  (0, ⟨some 37, none, .len (.t 36)⟩),
  (0, ⟨some 38, none, .mov (.k (.int .i64 0))⟩)]
def r7_5 : List Ins := [⟨some 39, none, .bin .lss (.t 38) (.t 37)⟩]
def r7_6 : List Ins := [⟨some 40, none, .iaddr 6 (.t 36) (.t 38)⟩,
  ⟨some 41, none, .load 6 true (.t 40)⟩,
  ⟨some 9, none, .alloc 38 (.agg #[.int .i64 0, .slice none 0 0, .int .i64 0, .int .i64 0, .int .i64 0, .int .i64 0])⟩,
  ⟨none, none, .store 6 (.t 9) (.t 41)⟩]
def r7_7 : List Ins := [⟨some 43, none, .load 6 true (.t 9)⟩,
  ⟨some 44, none, .call (.k (.func (.func 19) #[] #[])) [(.t 43)]⟩,
  ⟨some 42, none, .mov (.t 44)⟩,
  ⟨some 45, none, .ext 0 (.t 42)⟩,
  ⟨some 46, none, .ext 1 (.t 42)⟩,
  ⟨some 10, none, .mov (.t 45)⟩,
  ⟨some 11, none, .mov (.t 46)⟩]
def r7_8 : List Ins := [⟨some 48, none, .mov (.t 10)⟩,
  ⟨some 49, none, .call (.k (.func (.func 22) #[] #[])) [(.t 48)]⟩,
  ⟨some 47, none, .mov (.t 49)⟩,
  ⟨some 50, none, .ext 0 (.t 47)⟩,
  ⟨some 51, none, .ext 1 (.t 47)⟩,
  ⟨some 12, none, .alloc 38 (.agg #[.int .i64 0, .slice none 0 0, .int .i64 0, .int .i64 0, .int .i64 0, .int .i64 0])⟩,
  ⟨none, none, .store 6 (.t 12) (.t 50)⟩,
  ⟨some 13, none, .mov (.t 51)⟩]
def r7_9 : List Ins := [⟨some 52, none, .mov (.t 11)⟩,
  ⟨some 53, none, .bin .eql (.t 52) (.k (.int .i64 0))⟩,
  ⟨some 54, none, .mov (.t 53)⟩,
  ⟨some 55, some (54, true), .mov (.t 13)⟩,
  ⟨some 56, some (54, true), .bin .neq (.t 55) (.k (.int .i64 0))⟩,
  ⟨some 57, some (54, true), .mov (.t 56)⟩,
  ⟨some 58, some (57, false), .load 6 true (.t 9)⟩,
  ⟨some 59, some (57, false), .load 6 true (.t 12)⟩,
  ⟨some 60, some (57, false), .call (.k (.func (.func 24) #[] #[])) [(.t 58), (.t 59)]⟩,
  ⟨some 61, some (57, false), .un .not (.t 60)⟩,
  ⟨some 62, some (54, true), .pick (.t 57) (.k (.bool true)) (.t 61)⟩,
  ⟨some 63, some (54, true), .mov (.t 62)⟩,
  ⟨some 64, some (63, false), .mov (.t 10)⟩,
  ⟨some 65, some (63, false), .len (.t 64)⟩,
  ⟨some 66, some (63, false), .bin .gtr (.t 65) (.k (.int .i64 8192))⟩,
  ⟨some 67, some (54, true), .pick (.t 63) (.k (.bool true)) (.t 66)⟩,
  ⟨some 68, some (54, true), .mov (.t 67)⟩,
  ⟨some 69, some (68, false), .mov (.t 10)⟩,
  ⟨some 70, some (68, false), .len (.t 69)⟩,
  ⟨some 71, some (68, false), .bin .eql (.t 70) (.k (.int .i64 0))⟩,
  ⟨some 72, some (54, true), .pick (.t 68) (.k (.bool true)) (.t 71)⟩,
  ⟨some 73, none, .pick (.t 54) (.t 72) (.k (.bool false))⟩]
def r7_10 : List Ins := [⟨some 6, none, .mov (.k (.bool false))⟩]
def r7_11 : List Ins := [⟨some 74, none, .bin .add (.t 38) (.k (.int .i64 1))⟩,
  ⟨some 38, none, .mov (.t 74)⟩]
def r7_12 : List (Nat × Ins) := [(1, ⟨some 75, none, .load 4 true (.t 4)⟩),
  (0, ⟨some 76, none, .mov (.t 7)⟩),
  (2, ⟨some 77, none, .call (.k (.func (.func 25) #[] #[])) [(.t 76)]⟩),
  (0, ⟨some 78, none, .bslice 50 4 [(.t 75), (.t 77)]⟩),
  (0, ⟨some 79, none, .len (.t 78)⟩),
  (0, ⟨some 80, none, .mov (.k (.int .i64 0))⟩)]
def r7_13 : List Ins := [⟨some 81, none, .bin .lss (.t 80) (.t 79)⟩]
def r7_14 : List Ins := [⟨some 82, none, .iaddr 4 (.t 78) (.t 80)⟩,
  ⟨some 83, none, .load 4 true (.t 82)⟩,
  ⟨some 15, none, .alloc 50 (.agg #[.int .i64 0, .int .i64 0, .int .i64 0, .slice none 0 0])⟩,
  ⟨none, none, .store 4 (.t 15) (.t 83)⟩]
def r7_15 : List Ins := [⟨some 85, none, .load 4 true (.t 15)⟩,
  ⟨some 86, none, .call (.k (.func (.func 26) #[] #[])) [(.t 85)]⟩,
  ⟨some 84, none, .mov (.t 86)⟩,
  ⟨some 87, none, .ext 0 (.t 84)⟩,
  ⟨some 88, none, .ext 1 (.t 84)⟩,
  ⟨some 16, none, .mov (.t 87)⟩,
  ⟨some 17, none, .mov (.t 88)⟩]
def r7_16 : List Ins := [⟨some 90, none, .mov (.t 16)⟩,
  ⟨some 91, none, .call (.k (.func (.func 28) #[] #[])) [(.t 90)]⟩,
  ⟨some 89, none, .mov (.t 91)⟩,
  ⟨some 92, none, .ext 0 (.t 89)⟩,
  ⟨some 93, none, .ext 1 (.t 89)⟩,
  ⟨some 18, none, .alloc 50 (.agg #[.int .i64 0, .int .i64 0, .int .i64 0, .slice none 0 0])⟩,
  ⟨none, none, .store 4 (.t 18) (.t 92)⟩,
  ⟨some 19, none, .mov (.t 93)⟩]
def r7_17 : List Ins := [⟨some 94, none, .mov (.t 17)⟩,
  ⟨some 95, none, .bin .eql (.t 94) (.k (.int .i64 0))⟩,
  ⟨some 96, none, .mov (.t 95)⟩,
  ⟨some 97, some (96, true), .mov (.t 19)⟩,
  ⟨some 98, some (96, true), .bin .neq (.t 97) (.k (.int .i64 0))⟩,
  ⟨some 99, some (96, true), .mov (.t 98)⟩,
  ⟨some 100, some (99, false), .load 4 true (.t 15)⟩,
  ⟨some 101, some (99, false), .load 4 true (.t 18)⟩,
  ⟨some 102, some (99, false), .call (.k (.func (.func 30) #[] #[])) [(.t 100), (.t 101)]⟩,
  ⟨some 103, some (99, false), .un .not (.t 102)⟩,
  ⟨some 104, some (96, true), .pick (.t 99) (.k (.bool true)) (.t 103)⟩,
  ⟨some 105, some (96, true), .mov (.t 104)⟩,
  ⟨some 106, some (105, false), .mov (.t 16)⟩,
  ⟨some 107, some (105, false), .len (.t 106)⟩,
  ⟨some 108, some (105, false), .bin .gtr (.t 107) (.k (.int .i64 8192))⟩,
  ⟨some 109, some (96, true), .pick (.t 105) (.k (.bool true)) (.t 108)⟩,
  ⟨some 110, some (96, true), .mov (.t 109)⟩,
  ⟨some 111, some (110, false), .mov (.t 16)⟩,
  ⟨some 112, some (110, false), .len (.t 111)⟩,
  ⟨some 113, some (110, false), .bin .eql (.t 112) (.k (.int .i64 0))⟩,
  ⟨some 114, some (96, true), .pick (.t 110) (.k (.bool true)) (.t 113)⟩,
  ⟨some 115, none, .pick (.t 96) (.t 114) (.k (.bool false))⟩]
def r7_18 : List Ins := [⟨some 6, none, .mov (.k (.bool false))⟩]
def r7_19 : List Ins := [⟨some 116, none, .bin .add (.t 80) (.k (.int .i64 1))⟩,
  ⟨some 80, none, .mov (.t 116)⟩]
def r7_20 : List Ins := [⟨some 117, none, .call (.k (.func (.func 9) #[] #[])) []⟩,
  ⟨some 6, none, .mov (.t 117)⟩]
def x7 : XC := (.seq (.ops false r7_0) (.seq (.seq (.ops false r7_1) (.cond (.t 29) (.seq (.ops false r7_2) .ret) .skip)) (.seq (.ops false r7_3) (.seq (.seq (.rops [2] r7_4) (.block 0 (.loop [] ⟨118, [(37, (.int .i64)), (38, (.int .i64))], [(4, .ptr 0 0 0), (7, .ptr 1 0 0), (36, .row 2)], [.box 50 [.d (.int .i64), .d (.int .i64), .d (.int .i64), .d (.list tS6)], .box 98 [.d (.list (.int .i64)), .d (.int .i64)], .row 38 tS1 false]⟩ (.seq (.ops false r7_5) (.seq (.cond (.t 39) .skip (.exit 0)) (.seq (.block 1 (.seq (.ops false r7_6) (.seq (.ops false r7_7) (.seq (.ops false r7_8) (.seq (.ops false r7_9) (.cond (.t 73) (.seq (.ops false r7_10) .ret) .skip)))))) (.ops false r7_11))))))) (.seq (.seq (.rops [1] r7_12) (.block 2 (.loop [] ⟨118, [(79, (.int .i64)), (80, (.int .i64))], [(78, .row 0)], [.row 50 tS7 false]⟩ (.seq (.ops false r7_13) (.seq (.cond (.t 81) .skip (.exit 2)) (.seq (.block 3 (.seq (.ops false r7_14) (.seq (.ops false r7_15) (.seq (.ops false r7_16) (.seq (.ops false r7_17) (.cond (.t 115) (.seq (.ops false r7_18) .ret) .skip)))))) (.ops false r7_19))))))) (.seq (.ops false r7_20) .ret))))))
theorem F7 : Fn Try.prog 7 118 x7.er [.t 6] := ⟨Try.f7, hcl, Try.func7, by kernel_rfl, by kernel_rfl, by kernel_rfl, by kernel_rfl⟩
noncomputable def m7 (a0 : DS1) (a1 : DS7) (a2 : List Int) : Option (Bool × Unit) :=
  cond (cond (iLt 80 (lenI a0.2.1)) true (iLt 80 (lenI a1.2.2.2.1)))
  ((m9).bind fun y752 =>
   some (y752.1, ()))
  ((m10 a2).bind fun y753 =>
   (m18 y753.1 y753.2.1).bind fun y754 =>
   loopO (S := Int × Int × Int × Int × Int × (List DS6) × (List Int) × Int × (List DS1) × Unit) (R := Bool × Unit) (fun s755 =>
    cond (iLt s755.2.1 s755.1)
    (cond (bnd s755.2.1 (lenI s755.2.2.2.2.2.2.2.2.1))
     (cond (inB (Int.toNat s755.2.1) s755.2.2.2.2.2.2.2.2.1)
      ((m19 ((List.getD s755.2.2.2.2.2.2.2.2.1 (Int.toNat s755.2.1) (0, [], 0, 0, 0, 0, ())).1, (List.getD s755.2.2.2.2.2.2.2.2.1 (Int.toNat s755.2.1) (0, [], 0, 0, 0, 0, ())).2.1, (List.getD s755.2.2.2.2.2.2.2.2.1 (Int.toNat s755.2.1) (0, [], 0, 0, 0, 0, ())).2.2.1, (List.getD s755.2.2.2.2.2.2.2.2.1 (Int.toNat s755.2.1) (0, [], 0, 0, 0, 0, ())).2.2.2.1, (List.getD s755.2.2.2.2.2.2.2.2.1 (Int.toNat s755.2.1) (0, [], 0, 0, 0, 0, ())).2.2.2.2.1, (List.getD s755.2.2.2.2.2.2.2.2.1 (Int.toNat s755.2.1) (0, [], 0, 0, 0, 0, ())).2.2.2.2.2.1, ())).bind fun y756 =>
       (m22 y756.1).bind fun y757 =>
       cond (iEq y756.2.1 0)
       (cond (iNe y757.2.1 0)
        (some (.inr (false, ())))
        ((m24 ((List.getD s755.2.2.2.2.2.2.2.2.1 (Int.toNat s755.2.1) (0, [], 0, 0, 0, 0, ())).1, (List.getD s755.2.2.2.2.2.2.2.2.1 (Int.toNat s755.2.1) (0, [], 0, 0, 0, 0, ())).2.1, (List.getD s755.2.2.2.2.2.2.2.2.1 (Int.toNat s755.2.1) (0, [], 0, 0, 0, 0, ())).2.2.1, (List.getD s755.2.2.2.2.2.2.2.2.1 (Int.toNat s755.2.1) (0, [], 0, 0, 0, 0, ())).2.2.2.1, (List.getD s755.2.2.2.2.2.2.2.2.1 (Int.toNat s755.2.1) (0, [], 0, 0, 0, 0, ())).2.2.2.2.1, (List.getD s755.2.2.2.2.2.2.2.2.1 (Int.toNat s755.2.1) (0, [], 0, 0, 0, 0, ())).2.2.2.2.2.1, ()) (y757.1.1, y757.1.2.1, y757.1.2.2.1, y757.1.2.2.2.1, y757.1.2.2.2.2.1, y757.1.2.2.2.2.2.1, ())).bind fun y758 =>
         cond (cond (cond (not y758.1) true (iLt 8192 (lenI y756.1))) true (iEq (lenI y756.1) 0))
         (some (.inr (false, ())))
         (some (.inl (s755.1, iAdd .i64 s755.2.1 1, s755.2.2.1, s755.2.2.2.1, s755.2.2.2.2.1, s755.2.2.2.2.2.1, s755.2.2.2.2.2.2.1, s755.2.2.2.2.2.2.2.1, s755.2.2.2.2.2.2.2.2.1, ())))))
       (some (.inl (s755.1, iAdd .i64 s755.2.1 1, s755.2.2.1, s755.2.2.2.1, s755.2.2.2.2.1, s755.2.2.2.2.2.1, s755.2.2.2.2.2.2.1, s755.2.2.2.2.2.2.2.1, s755.2.2.2.2.2.2.2.2.1, ())))) none) none)
    (Option.map Sum.inr ((m25 s755.2.2.2.2.2.2.1 s755.2.2.2.2.2.2.2.1).bind fun y759 =>
      loopO (S := Int × Int × (List DS7) × Unit) (R := Bool × Unit) (fun s760 =>
       cond (iLt s760.2.1 s760.1)
       (cond (bnd s760.2.1 (lenI s760.2.2.1))
        (cond (inB (Int.toNat s760.2.1) s760.2.2.1)
         ((m26 ((List.getD s760.2.2.1 (Int.toNat s760.2.1) (0, 0, 0, [], ())).1, (List.getD s760.2.2.1 (Int.toNat s760.2.1) (0, 0, 0, [], ())).2.1, (List.getD s760.2.2.1 (Int.toNat s760.2.1) (0, 0, 0, [], ())).2.2.1, (List.getD s760.2.2.1 (Int.toNat s760.2.1) (0, 0, 0, [], ())).2.2.2.1, ())).bind fun y761 =>
          (m28 y761.1).bind fun y762 =>
          cond (iEq y761.2.1 0)
          (cond (iNe y762.2.1 0)
           (some (.inr (false, ())))
           ((m30 ((List.getD s760.2.2.1 (Int.toNat s760.2.1) (0, 0, 0, [], ())).1, (List.getD s760.2.2.1 (Int.toNat s760.2.1) (0, 0, 0, [], ())).2.1, (List.getD s760.2.2.1 (Int.toNat s760.2.1) (0, 0, 0, [], ())).2.2.1, (List.getD s760.2.2.1 (Int.toNat s760.2.1) (0, 0, 0, [], ())).2.2.2.1, ()) (y762.1.1, y762.1.2.1, y762.1.2.2.1, y762.1.2.2.2.1, ())).bind fun y763 =>
            cond (cond (cond (not y763.1) true (iLt 8192 (lenI y761.1))) true (iEq (lenI y761.1) 0))
            (some (.inr (false, ())))
            (some (.inl (s760.1, iAdd .i64 s760.2.1 1, s760.2.2.1, ())))))
          (some (.inl (s760.1, iAdd .i64 s760.2.1 1, s760.2.2.1, ())))) none) none)
       (Option.map Sum.inr ((m9).bind fun y764 =>
         some (y764.1, ()))))
      (lenI ([(s755.2.2.1, s755.2.2.2.1, s755.2.2.2.2.1, s755.2.2.2.2.2.1, ()), (y759.1, y759.2.1, y759.2.2.1, y759.2.2.2.2.2.1, ())] : List DS7), 0, ([(s755.2.2.1, s755.2.2.2.1, s755.2.2.2.2.1, s755.2.2.2.2.2.1, ()), (y759.1, y759.2.1, y759.2.2.1, y759.2.2.2.2.2.1, ())] : List DS7), ()))))
   (lenI ([(a0.1, a0.2.1, a0.2.2.1, a0.2.2.2.1, a0.2.2.2.2.1, a0.2.2.2.2.2.1, ()), (y754.1, y754.2.1, y754.2.2.1, y754.2.2.2.1, y754.2.2.2.2.1, y754.2.2.2.2.2.1, ())] : List DS1), 0, a1.1, a1.2.1, a1.2.2.1, a1.2.2.2.1, y754.2.2.2.2.2.2.1, y754.2.2.2.2.2.2.2.1, ([(a0.1, a0.2.1, a0.2.2.1, a0.2.2.2.1, a0.2.2.2.2.1, a0.2.2.2.2.2.1, ()), (y754.1, y754.2.1, y754.2.2.1, y754.2.2.2.1, y754.2.2.2.2.1, y754.2.2.2.2.2.1, ())] : List DS1), ()))
noncomputable def cfg7 : Cfg := ⟨ttab, gtab, [i19, i22, i24, i26, i28, i30, i9], [h10, h18, h25]⟩
theorem eqn7 (x : DS1 × DS7 × (List Int) × Unit) : xfun cfg7 x7 118 [.t 6] [tS1, tS7, (.list (.int .i64))] [.bool] x = m7 x.1 x.2.1 x.2.2.1 := by kernel_rfl
noncomputable def i7 : PI := ⟨7, [tS1, tS7, (.list (.int .i64))], [.bool], fun (x : DS1 × DS7 × (List Int) × Unit) => m7 x.1 x.2.1 x.2.2.1⟩
theorem oki7 : POk Try.prog (gx gtab) i7 := pok mixed (cfg_p oki19 (cfg_p oki22 (cfg_p oki24 (cfg_p oki26 (cfg_p oki28 (cfg_p oki30 (cfg_p oki9 (cfg_h okh10 (cfg_h okh18 (cfg_h okh25 (cfg_nil _ _)))))))))) : CfgOk _ cfg7) F7 eqn7
/- 8 treaty/treatylaw40.CodecUnique -/
def r8_0 : List Ins := [⟨some 8, none, .mov (.k (.bool false))⟩]
def r8_1 : List Ins := [⟨some 24, none, .mov (.t 0)⟩,
  ⟨some 25, none, .len (.t 24)⟩,
  ⟨some 26, none, .bin .gtr (.t 25) (.k (.int .i64 400))⟩]
def r8_2 : List Ins := [⟨some 27, none, .call (.k (.func (.func 9) #[] #[])) []⟩,
  ⟨some 8, none, .mov (.t 27)⟩]
def r8_3 : List Ins := [⟨some 28, none, .mov (.t 1)⟩,
  ⟨some 29, none, .call (.k (.func (.func 10) #[] #[])) [(.t 28)]⟩,
  ⟨some 9, none, .mov (.t 29)⟩]
def r8_4 : List Ins := [⟨some 31, none, .mov (.t 9)⟩,
  ⟨some 32, none, .call (.k (.func (.func 18) #[] #[])) [(.t 31)]⟩,
  ⟨some 33, none, .call (.k (.func (.func 20) #[] #[])) [(.t 32)]⟩,
  ⟨some 30, none, .mov (.t 33)⟩,
  ⟨some 34, none, .ext 0 (.t 30)⟩,
  ⟨some 35, none, .ext 1 (.t 30)⟩,
  ⟨some 10, none, .mov (.t 34)⟩,
  ⟨some 11, none, .mov (.t 35)⟩]
def r8_5 : List Ins := [⟨some 37, none, .mov (.t 9)⟩,
  ⟨some 38, none, .call (.k (.func (.func 25) #[] #[])) [(.t 37)]⟩,
  ⟨some 39, none, .call (.k (.func (.func 27) #[] #[])) [(.t 38)]⟩,
  ⟨some 36, none, .mov (.t 39)⟩,
  ⟨some 40, none, .ext 0 (.t 36)⟩,
  ⟨some 41, none, .ext 1 (.t 36)⟩,
  ⟨some 12, none, .mov (.t 40)⟩,
  ⟨some 13, none, .mov (.t 41)⟩]
def r8_6 : List Ins := [⟨some 42, none, .mov (.t 11)⟩,
  ⟨some 43, none, .bin .neq (.t 42) (.k (.int .i64 0))⟩,
  ⟨some 44, none, .mov (.t 43)⟩,
  ⟨some 45, some (44, false), .mov (.t 13)⟩,
  ⟨some 46, some (44, false), .bin .neq (.t 45) (.k (.int .i64 0))⟩,
  ⟨some 47, none, .pick (.t 44) (.k (.bool true)) (.t 46)⟩]
def r8_7 : List Ins := [⟨some 8, none, .mov (.k (.bool false))⟩]
def r8_8 : List Ins := [⟨some 48, none, .mov (.t 0)⟩,
  ⟨some 49, none, .mov (.t 10)⟩,
  ⟨some 50, none, .mov (.t 2)⟩,
  ⟨some 51, none, .mov (.t 3)⟩,
  ⟨some 52, none, .call (.k (.func (.func 21) #[] #[])) [(.t 49), (.t 50), (.t 51)]⟩,
  ⟨some 53, none, .mov (.t 12)⟩,
  ⟨some 54, none, .mov (.t 2)⟩,
  ⟨some 55, none, .mov (.t 3)⟩,
  ⟨some 56, none, .call (.k (.func (.func 21) #[] #[])) [(.t 53), (.t 54), (.t 55)]⟩,
  ⟨some 57, none, .bslice 22 1 [(.t 48), (.t 52), (.t 56)]⟩,
  ⟨some 58, none, .len (.t 57)⟩,
  ⟨some 59, none, .mov (.k (.int .i64 0))⟩]
def r8_9 : List Ins := [⟨some 60, none, .bin .lss (.t 59) (.t 58)⟩]
def r8_10 : List Ins := [⟨some 61, none, .iaddr 1 (.t 57) (.t 59)⟩,
  ⟨some 62, none, .load 1 false (.t 61)⟩,
  ⟨some 15, none, .mov (.t 62)⟩]
def r8_11 : List Ins := [⟨some 64, none, .mov (.t 15)⟩,
  ⟨some 65, none, .call (.k (.func (.func 22) #[] #[])) [(.t 64)]⟩,
  ⟨some 63, none, .mov (.t 65)⟩,
  ⟨some 66, none, .ext 0 (.t 63)⟩,
  ⟨some 67, none, .ext 1 (.t 63)⟩,
  ⟨some 16, none, .alloc 38 (.agg #[.int .i64 0, .slice none 0 0, .int .i64 0, .int .i64 0, .int .i64 0, .int .i64 0])⟩,
  ⟨none, none, .store 6 (.t 16) (.t 66)⟩,
  ⟨some 17, none, .mov (.t 67)⟩]
def r8_12 : List Ins := [⟨some 69, none, .load 6 true (.t 16)⟩,
  ⟨some 70, none, .call (.k (.func (.func 19) #[] #[])) [(.t 69)]⟩,
  ⟨some 68, none, .mov (.t 70)⟩,
  ⟨some 71, none, .ext 0 (.t 68)⟩,
  ⟨some 72, none, .ext 1 (.t 68)⟩,
  ⟨some 18, none, .mov (.t 71)⟩,
  ⟨some 19, none, .mov (.t 72)⟩]
def r8_13 : List Ins := [⟨some 73, none, .mov (.t 17)⟩,
  ⟨some 74, none, .bin .eql (.t 73) (.k (.int .i64 0))⟩,
  ⟨some 75, none, .mov (.t 74)⟩,
  ⟨some 76, some (75, true), .mov (.t 19)⟩,
  ⟨some 77, some (75, true), .bin .neq (.t 76) (.k (.int .i64 0))⟩,
  ⟨some 78, some (75, true), .mov (.t 77)⟩,
  ⟨some 79, some (78, false), .mov (.t 18)⟩,
  ⟨some 80, some (78, false), .mov (.t 15)⟩,
  ⟨some 81, some (78, false), .call (.k (.func (.func 15) #[] #[])) [(.t 79), (.t 80)]⟩,
  ⟨some 82, some (78, false), .un .not (.t 81)⟩,
  ⟨some 83, some (75, true), .pick (.t 78) (.k (.bool true)) (.t 82)⟩,
  ⟨some 84, none, .pick (.t 75) (.t 83) (.k (.bool false))⟩]
def r8_14 : List Ins := [⟨some 8, none, .mov (.k (.bool false))⟩]
def r8_15 : List Ins := [⟨some 86, none, .mov (.t 15)⟩,
  ⟨some 87, none, .call (.k (.func (.func 28) #[] #[])) [(.t 86)]⟩,
  ⟨some 85, none, .mov (.t 87)⟩,
  ⟨some 88, none, .ext 0 (.t 85)⟩,
  ⟨some 89, none, .ext 1 (.t 85)⟩,
  ⟨some 20, none, .alloc 50 (.agg #[.int .i64 0, .int .i64 0, .int .i64 0, .slice none 0 0])⟩,
  ⟨none, none, .store 4 (.t 20) (.t 88)⟩,
  ⟨some 21, none, .mov (.t 89)⟩]
def r8_16 : List Ins := [⟨some 91, none, .load 4 true (.t 20)⟩,
  ⟨some 92, none, .call (.k (.func (.func 26) #[] #[])) [(.t 91)]⟩,
  ⟨some 90, none, .mov (.t 92)⟩,
  ⟨some 93, none, .ext 0 (.t 90)⟩,
  ⟨some 94, none, .ext 1 (.t 90)⟩,
  ⟨some 22, none, .mov (.t 93)⟩,
  ⟨some 23, none, .mov (.t 94)⟩]
def r8_17 : List Ins := [⟨some 95, none, .mov (.t 21)⟩,
  ⟨some 96, none, .bin .eql (.t 95) (.k (.int .i64 0))⟩,
  ⟨some 97, none, .mov (.t 96)⟩,
  ⟨some 98, some (97, true), .mov (.t 23)⟩,
  ⟨some 99, some (97, true), .bin .neq (.t 98) (.k (.int .i64 0))⟩,
  ⟨some 100, some (97, true), .mov (.t 99)⟩,
  ⟨some 101, some (100, false), .mov (.t 22)⟩,
  ⟨some 102, some (100, false), .mov (.t 15)⟩,
  ⟨some 103, some (100, false), .call (.k (.func (.func 15) #[] #[])) [(.t 101), (.t 102)]⟩,
  ⟨some 104, some (100, false), .un .not (.t 103)⟩,
  ⟨some 105, some (97, true), .pick (.t 100) (.k (.bool true)) (.t 104)⟩,
  ⟨some 106, none, .pick (.t 97) (.t 105) (.k (.bool false))⟩]
def r8_18 : List Ins := [⟨some 8, none, .mov (.k (.bool false))⟩]
def r8_19 : List Ins := [⟨some 107, none, .bin .add (.t 59) (.k (.int .i64 1))⟩,
  ⟨some 59, none, .mov (.t 107)⟩]
def r8_20 : List Ins := [⟨some 108, none, .call (.k (.func (.func 9) #[] #[])) []⟩,
  ⟨some 8, none, .mov (.t 108)⟩]
def x8 : XC := (.seq (.ops false r8_0) (.seq (.seq (.ops false r8_1) (.cond (.t 26) (.seq (.ops false r8_2) .ret) .skip)) (.seq (.ops false r8_3) (.seq (.ops false r8_4) (.seq (.ops false r8_5) (.seq (.seq (.ops false r8_6) (.cond (.t 47) (.seq (.ops false r8_7) .ret) .skip)) (.seq (.seq (.ops false r8_8) (.block 0 (.loop [] ⟨109, [(58, (.int .i64)), (59, (.int .i64))], [(57, .row 0)], [.row 22 (.list (.int .u8)) false]⟩ (.seq (.ops false r8_9) (.seq (.cond (.t 60) .skip (.exit 0)) (.seq (.block 1 (.seq (.ops false r8_10) (.seq (.ops false r8_11) (.seq (.ops false r8_12) (.seq (.seq (.ops false r8_13) (.cond (.t 84) (.seq (.ops false r8_14) .ret) .skip)) (.seq (.ops false r8_15) (.seq (.ops false r8_16) (.seq (.ops false r8_17) (.cond (.t 106) (.seq (.ops false r8_18) .ret) .skip))))))))) (.ops false r8_19))))))) (.seq (.ops false r8_20) .ret))))))))
theorem F8 : Fn Try.prog 8 109 x8.er [.t 8] := ⟨Try.f8, hcl, Try.func8, by kernel_rfl, by kernel_rfl, by kernel_rfl, by kernel_rfl⟩
noncomputable def m8 (a0 : List Int) (a1 : List Int) (a2 : Int) (a3 : Int) : Option (Bool × Unit) :=
  cond (iLt 400 (lenI a0))
  ((m9).bind fun y784 =>
   some (y784.1, ()))
  ((m10 a1).bind fun y785 =>
   (m18 y785.1 y785.2.1).bind fun y786 =>
   (m20 (y786.1, y786.2.1, y786.2.2.1, y786.2.2.2.1, y786.2.2.2.2.1, y786.2.2.2.2.2.1, ())).bind fun y787 =>
   (m25 y786.2.2.2.2.2.2.1 y786.2.2.2.2.2.2.2.1).bind fun y788 =>
   (m27 (y788.1, y788.2.1, y788.2.2.1, y788.2.2.2.2.2.1, ())).bind fun y789 =>
   cond (cond (iNe y787.2.1 0) true (iNe y789.2.1 0))
   (some (false, ()))
   ((m21 y787.1 a2 a3).bind fun y790 =>
    (m21 y789.1 a2 a3).bind fun y791 =>
    loopO (S := Int × Int × (List (List Int)) × Unit) (R := Bool × Unit) (fun s792 =>
     cond (iLt s792.2.1 s792.1)
     (cond (bnd s792.2.1 (lenI s792.2.2.1))
      (cond (inB (Int.toNat s792.2.1) s792.2.2.1)
       ((m22 (List.getD s792.2.2.1 (Int.toNat s792.2.1) [])).bind fun y793 =>
        (m19 (y793.1.1, y793.1.2.1, y793.1.2.2.1, y793.1.2.2.2.1, y793.1.2.2.2.2.1, y793.1.2.2.2.2.2.1, ())).bind fun y794 =>
        cond (iEq y793.2.1 0)
        (cond (iNe y794.2.1 0)
         (some (.inr (false, ())))
         ((m15 y794.1 (List.getD s792.2.2.1 (Int.toNat s792.2.1) [])).bind fun y795 =>
          cond (not y795.1)
          (some (.inr (false, ())))
          ((m28 (List.getD s792.2.2.1 (Int.toNat s792.2.1) [])).bind fun y796 =>
           (m26 (y796.1.1, y796.1.2.1, y796.1.2.2.1, y796.1.2.2.2.1, ())).bind fun y797 =>
           cond (iEq y796.2.1 0)
           (cond (iNe y797.2.1 0)
            (some (.inr (false, ())))
            ((m15 y797.1 (List.getD s792.2.2.1 (Int.toNat s792.2.1) [])).bind fun y798 =>
             cond (not y798.1)
             (some (.inr (false, ())))
             (some (.inl (s792.1, iAdd .i64 s792.2.1 1, s792.2.2.1, ())))))
           (some (.inl (s792.1, iAdd .i64 s792.2.1 1, s792.2.2.1, ()))))))
        ((m28 (List.getD s792.2.2.1 (Int.toNat s792.2.1) [])).bind fun y799 =>
         (m26 (y799.1.1, y799.1.2.1, y799.1.2.2.1, y799.1.2.2.2.1, ())).bind fun y800 =>
         cond (iEq y799.2.1 0)
         (cond (iNe y800.2.1 0)
          (some (.inr (false, ())))
          ((m15 y800.1 (List.getD s792.2.2.1 (Int.toNat s792.2.1) [])).bind fun y801 =>
           cond (not y801.1)
           (some (.inr (false, ())))
           (some (.inl (s792.1, iAdd .i64 s792.2.1 1, s792.2.2.1, ())))))
         (some (.inl (s792.1, iAdd .i64 s792.2.1 1, s792.2.2.1, ()))))) none) none)
     (Option.map Sum.inr ((m9).bind fun y802 =>
       some (y802.1, ()))))
    (lenI ([a0, y790.1, y791.1] : List (List Int)), 0, ([a0, y790.1, y791.1] : List (List Int)), ())))
noncomputable def cfg8 : Cfg := ⟨ttab, gtab, [i15, i19, i20, i21, i22, i26, i27, i28, i9], [h10, h18, h25]⟩
theorem eqn8 (x : (List Int) × (List Int) × Int × Int × Unit) : xfun cfg8 x8 109 [.t 8] [(.list (.int .u8)), (.list (.int .i64)), (.int .i64), (.int .u8)] [.bool] x = m8 x.1 x.2.1 x.2.2.1 x.2.2.2.1 := by kernel_rfl
noncomputable def i8 : PI := ⟨8, [(.list (.int .u8)), (.list (.int .i64)), (.int .i64), (.int .u8)], [.bool], fun (x : (List Int) × (List Int) × Int × Int × Unit) => m8 x.1 x.2.1 x.2.2.1 x.2.2.2.1⟩
theorem oki8 : POk Try.prog (gx gtab) i8 := pok mixed (cfg_p oki15 (cfg_p oki19 (cfg_p oki20 (cfg_p oki21 (cfg_p oki22 (cfg_p oki26 (cfg_p oki27 (cfg_p oki28 (cfg_p oki9 (cfg_h okh10 (cfg_h okh18 (cfg_h okh25 (cfg_nil _ _)))))))))))) : CfgOk _ cfg8) F8 eqn8
end Abs
end Go.Proofs.Ytbghnjkieghloaa
