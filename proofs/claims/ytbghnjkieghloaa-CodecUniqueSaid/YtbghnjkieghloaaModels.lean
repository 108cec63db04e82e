/- The functions' models on the typed machine, printed by a program of mine; that they are the code's is checked by the kernel. -/
import Derived.Test.YtbghnjkieghloaaModelsA
namespace Go.Proofs.Ytbghnjkieghloaa
namespace Abs
set_option maxRecDepth 100000
set_option linter.unusedVariables false
/- 21 treaty/treatylaw40.spoilt -/
def r21_0 : List Ins := [qI 6 (.mov kN)]
def r21_1 : List Ins := [qI 9 (.bslice 5 1 []), qI 10 (.mov 0), qI 11 (.app 5 1 1 9 10), qI 7 (.mov 11)]
def r21_2 : List Ins := [qI 12 (.mov 7), qI 13 (.len 12), qI 14 (.bin .eql 13 (kI 0))]
def r21_3 : List Ins := [qI 15 (.mov 2), qI 16 (.bslice 5 1 [15]), qI 6 (.mov 16)]
def r21_4 : List Ins := [qI 17 (.mov 1), qI 18 (.bin .shr 17 (.k (.int .u64 2))), qI 19 (.bin .and 18 (kI 255)), qI 20 (.mov 7), qI 21 (.len 20), qI 22 (.bin .rem 19 21), qI 8 (.mov 22)]
def r21_5 : List Ins := [qI 23 (.mov 1), qI 24 (.bin .and 23 (kI 3))]
def r21_6 : List Ins := [qI 29 (.bin .eql 24 (kI 0)), qI 28 (.mov 29)]
def r21_7 : List Ins := [qI 30 (.mov 7), qI 31 (.mov 8), qI 32 (.mov 2), qI 33 (.iaddr 1 30 31), qN (.store 1 33 32)]
def r21_8 : List Ins := [qI 35 (.bin .eql 24 (kI 1)), qI 34 (.mov 35)]
def r21_9 : List Ins := [qI 36 (.bslice 5 1 []), qI 37 (.mov 7), qI 38 (.mov 8), qI 39 (.slice 1 37 none (some 38)), qI 40 (.app 5 1 1 36 39), qI 41 (.mov 2), qI 42 (.blist 5 1 [41]), qI 43 (.app 5 1 1 40 42), qI 44 (.mov 7), qI 45 (.mov 8), qI 46 (.slice 1 44 (some 45) none), qI 47 (.app 5 1 1 43 46), qI 7 (.mov 47)]
def r21_10 : List Ins := [qI 49 (.bin .eql 24 (kI 2)), qI 48 (.mov 49)]
def r21_11 : List Ins := [qI 50 (.mov 7), qI 51 (.mov 8), qI 52 (.mov 8), qI 53 (.slice3 1 50 51 52), qI 54 (.mov 7), qI 55 (.mov 8), qI 56 (.bin .add 55 (kI 1)), qI 57 (.slice 1 54 (some 56) none), qI 58 (.app 5 1 1 53 57), qI 7 (.mov 58)]
def r21_12 : List Ins := [qI 25 (.mov 7), qI 26 (.mov 8), qI 27 (.slice 1 25 none (some 26)), qI 7 (.mov 27)]
def r21_13 : List Ins := [qI 59 (.mov 7), qI 6 (.mov 59)]
def x21 : XC := (.seq (.ops false r21_0) (.seq (.ops false r21_1) (.seq (.seq (.ops false r21_2) (.cond (.t 14) (.seq (.ops false r21_3) .ret) .skip)) (.seq (.ops false r21_4) (.seq (.seq (.ops false r21_5) (.block 0 (.seq (.ops false r21_6) (.cond (.t 28) (.ops false r21_7) (.seq (.ops false r21_8) (.cond (.t 34) (.ops true r21_9) (.seq (.ops false r21_10) (.cond (.t 48) (.ops true r21_11) (.ops false r21_12))))))))) (.seq (.ops false r21_13) .ret))))))
theorem F21 : Fn Try.prog 21 60 x21.er [.t 6] := ⟨Try.f21, hcl, Try.func21, by kernel_rfl, by kernel_rfl, by kernel_rfl, by kernel_rfl⟩
noncomputable def m21 (a0 : List Int) (a1 : Int) (a2 : Int) : Option ((List Int) × Unit) :=
 cond (fits (List.length ([] : List Int) + List.length a0) 1)
 (cond (iEq (lenI (([] : List Int) ++ a0)) 0)
 (some (([a2] : List Int), ()))
 (cond (iLe 0 2)
 (cond (iNe (lenI (([] : List Int) ++ a0)) 0)
 (cond (iEq (iAnd .i64 a1 3) 0)
 (cond (bnd (iRem (iAnd .i64 (iShr .i64 a1 2) 255) (lenI (([] : List Int) ++ a0))) (lenI (([] : List Int) ++ a0)))
 (cond (inB (Int.toNat (iRem (iAnd .i64 (iShr .i64 a1 2) 255) (lenI (([] : List Int) ++ a0)))) (([] : List Int) ++ a0))
 (some (List.set (([] : List Int) ++ a0) (Int.toNat (iRem (iAnd .i64 (iShr .i64 a1 2) 255) (lenI (([] : List Int) ++ a0)))) a2, ())) none) none)
 (cond (iEq (iAnd .i64 a1 3) 1)
 (cond (cutOk 0 (iRem (iAnd .i64 (iShr .i64 a1 2) 255) (lenI (([] : List Int) ++ a0))) (List.length (([] : List Int) ++ a0)))
 (cond (fits (List.length ([] : List Int) + List.length (List.take (Int.toNat ((iRem (iAnd .i64 (iShr .i64 a1 2) 255) (lenI (([] : List Int) ++ a0))) - 0)) (List.drop 0 (([] : List Int) ++ a0)))) 1)
 (cond (fits (List.length (([] : List Int) ++ (List.take (Int.toNat ((iRem (iAnd .i64 (iShr .i64 a1 2) 255) (lenI (([] : List Int) ++ a0))) - 0)) (List.drop 0 (([] : List Int) ++ a0)))) + List.length ([a2] : List Int)) 1)
 (cond (cutOk (iRem (iAnd .i64 (iShr .i64 a1 2) 255) (lenI (([] : List Int) ++ a0))) ((List.length (([] : List Int) ++ a0) : Nat) : Int) (List.length (([] : List Int) ++ a0)))
 (cond (fits (List.length ((([] : List Int) ++ (List.take (Int.toNat ((iRem (iAnd .i64 (iShr .i64 a1 2) 255) (lenI (([] : List Int) ++ a0))) - 0)) (List.drop 0 (([] : List Int) ++ a0)))) ++ ([a2] : List Int)) + List.length (List.take (Int.toNat (((List.length (([] : List Int) ++ a0) : Nat) : Int) - (iRem (iAnd .i64 (iShr .i64 a1 2) 255) (lenI (([] : List Int) ++ a0))))) (List.drop (Int.toNat (iRem (iAnd .i64 (iShr .i64 a1 2) 255) (lenI (([] : List Int) ++ a0)))) (([] : List Int) ++ a0)))) 1)
 (some (((([] : List Int) ++ (List.take (Int.toNat ((iRem (iAnd .i64 (iShr .i64 a1 2) 255) (lenI (([] : List Int) ++ a0))) - 0)) (List.drop 0 (([] : List Int) ++ a0)))) ++ ([a2] : List Int)) ++ (List.take (Int.toNat (((List.length (([] : List Int) ++ a0) : Nat) : Int) - (iRem (iAnd .i64 (iShr .i64 a1 2) 255) (lenI (([] : List Int) ++ a0))))) (List.drop (Int.toNat (iRem (iAnd .i64 (iShr .i64 a1 2) 255) (lenI (([] : List Int) ++ a0)))) (([] : List Int) ++ a0))), ())) none) none) none) none) none)
 (cond (iEq (iAnd .i64 a1 3) 2)
 (cond (and (cutOk 0 (iRem (iAnd .i64 (iShr .i64 a1 2) 255) (lenI (([] : List Int) ++ a0))) (List.length (([] : List Int) ++ a0))) (iEq (iRem (iAnd .i64 (iShr .i64 a1 2) 255) (lenI (([] : List Int) ++ a0))) (iRem (iAnd .i64 (iShr .i64 a1 2) 255) (lenI (([] : List Int) ++ a0)))))
 (cond (cutOk (iAdd .i64 (iRem (iAnd .i64 (iShr .i64 a1 2) 255) (lenI (([] : List Int) ++ a0))) 1) ((List.length (([] : List Int) ++ a0) : Nat) : Int) (List.length (([] : List Int) ++ a0)))
 (cond (someE (List.take (Int.toNat (((List.length (([] : List Int) ++ a0) : Nat) : Int) - (iAdd .i64 (iRem (iAnd .i64 (iShr .i64 a1 2) 255) (lenI (([] : List Int) ++ a0))) 1))) (List.drop (Int.toNat (iAdd .i64 (iRem (iAnd .i64 (iShr .i64 a1 2) 255) (lenI (([] : List Int) ++ a0))) 1)) (([] : List Int) ++ a0))))
 (cond (fits ((Int.toNat (iRem (iAnd .i64 (iShr .i64 a1 2) 255) (lenI (([] : List Int) ++ a0)))) + List.length (List.take (Int.toNat (((List.length (([] : List Int) ++ a0) : Nat) : Int) - (iAdd .i64 (iRem (iAnd .i64 (iShr .i64 a1 2) 255) (lenI (([] : List Int) ++ a0))) 1))) (List.drop (Int.toNat (iAdd .i64 (iRem (iAnd .i64 (iShr .i64 a1 2) 255) (lenI (([] : List Int) ++ a0))) 1)) (([] : List Int) ++ a0)))) 1)
 (some ((List.take (Int.toNat (iRem (iAnd .i64 (iShr .i64 a1 2) 255) (lenI (([] : List Int) ++ a0)))) (([] : List Int) ++ a0)) ++ (List.take (Int.toNat (((List.length (([] : List Int) ++ a0) : Nat) : Int) - (iAdd .i64 (iRem (iAnd .i64 (iShr .i64 a1 2) 255) (lenI (([] : List Int) ++ a0))) 1))) (List.drop (Int.toNat (iAdd .i64 (iRem (iAnd .i64 (iShr .i64 a1 2) 255) (lenI (([] : List Int) ++ a0))) 1)) (([] : List Int) ++ a0))), ())) none)
 (some (List.take (Int.toNat (iRem (iAnd .i64 (iShr .i64 a1 2) 255) (lenI (([] : List Int) ++ a0)))) (List.drop 0 (([] : List Int) ++ a0)), ()))) none) none)
 (cond (cutOk 0 (iRem (iAnd .i64 (iShr .i64 a1 2) 255) (lenI (([] : List Int) ++ a0))) (List.length (([] : List Int) ++ a0)))
 (some (List.take (Int.toNat ((iRem (iAnd .i64 (iShr .i64 a1 2) 255) (lenI (([] : List Int) ++ a0))) - 0)) (List.drop 0 (([] : List Int) ++ a0)), ())) none)))) none) none)) none
noncomputable def cfg21 : Cfg := ⟨ttab, gtab, [], []⟩
theorem eqn21 (x : (List Int) × Int × Int × Unit) : xfun cfg21 x21 60 [.t 6] [(.list (.int .u8)), (.int .i64), (.int .u8)] [(.list (.int .u8))] x = m21 x.1 x.2.1 x.2.2.1 := by kernel_rfl
noncomputable def i21 : PI := ⟨21, [(.list (.int .u8)), (.int .i64), (.int .u8)], [(.list (.int .u8))], fun (x : (List Int) × Int × Int × Unit) => m21 x.1 x.2.1 x.2.2.1⟩
theorem oki21 : POk Try.prog (gx gtab) i21 := pok mixed (cfg_nil _ _ : CfgOk _ cfg21) F21 eqn21
/- 47 (*treaty/treatyref40.reader).next -/
def r47_0 : List Ins := [qI 2 (.mov (kI 0))]
def r47_1 : List Ins := [qI 6 (.mov 0), qI 7 (.nck 6), qI 8 (.faddr 1 7), qI 9 (.load 1 false 8), qI 10 (.bin .neq 9 (kI 0))]
def r47_2 : List Ins := [qI 2 (.mov (kI 0))]
def r47_3 : List Ins := [qI 12 (.mov 0), qI 13 (.nck 12), qI 14 (.faddr 0 13), qI 15 (.load 1 false 14), qI 16 (.call (.fn 17) [15]), qI 11 (.mov 16), qI 17 (.ext 0 11), qI 18 (.ext 1 11), qI 19 (.ext 2 11), qI 3 (.mov 17), qI 4 (.mov 18), qI 5 (.mov 19)]
def r47_4 : List Ins := [qI 20 (.mov 5), qI 21 (.bin .neq 20 (kI 0))]
def r47_5 : List Ins := [qI 22 (.mov 0), qI 23 (.mov 5), qI 24 (.nck 22), qI 25 (.faddr 1 24), qN (.store 1 25 23)]
def r47_6 : List Ins := [qI 2 (.mov (kI 0))]
def r47_7 : List Ins := [qI 26 (.mov 0), qI 27 (.mov 0), qI 28 (.nck 27), qI 29 (.faddr 0 28), qI 30 (.load 1 false 29), qI 31 (.mov 4), qI 32 (.slice 1 30 (some 31) none), qI 33 (.nck 26), qI 34 (.faddr 0 33), qN (.store 1 34 32)]
def r47_8 : List Ins := [qI 35 (.mov 3), qI 2 (.mov 35)]
def x47 : XC := (.seq (.ops false r47_0) (.seq (.seq (.ops false r47_1) (.cond (.t 10) (.seq (.ops false r47_2) .ret) .skip)) (.seq (.ops false r47_3) (.seq (.seq (.ops false r47_4) (.cond (.t 21) (.seq (.ops false r47_5) (.seq (.ops false r47_6) .ret)) .skip)) (.seq (.ops false r47_7) (.seq (.ops false r47_8) .ret))))))
theorem F47 : Fn Try.prog 47 36 x47.er [.t 2] := ⟨Try.f47, hcl, Try.func47, by kernel_rfl, by kernel_rfl, by kernel_rfl, by kernel_rfl⟩
noncomputable def m47 (a0 : List Int) (a1 : Int) : Option (Int × (List Int) × Int × Unit) :=
 cond (iNe a1 0)
 (some (0, a0, a1, ()))
 ((m17 a0).bind fun y528 =>
 cond (iNe y528.2.2.1 0)
 (some (0, a0, y528.2.2.1, ()))
 (cond (cutOk y528.2.1 ((List.length a0 : Nat) : Int) (List.length a0))
 (some (y528.1, cutL y528.2.1 ((List.length a0 : Nat) : Int) a0, a1, ())) none))
noncomputable def cfg47 : Cfg := ⟨ttab, gtab, [i17], []⟩
def ish47 : Sh := ⟨1, [], [(0, .ptr 0 0 0)], [.box 86 [.d (.list (.int .u8)), .d (.int .i64)]]⟩
def osh47 : Sh := ⟨1, [(0, (.int .i64))], [], [.box 86 [.d (.list (.int .u8)), .d (.int .i64)]]⟩
theorem eqn47 (x : (List Int) × Int × Unit) : xfunH cfg47 x47 36 [.t 2] [] ish47 osh47 x = m47 x.1 x.2.1 := by kernel_rfl
noncomputable def h47 : HI := ⟨47, ish47, osh47, fun (x : (List Int) × Int × Unit) => m47 x.1 x.2.1⟩
theorem okh47 : HOk Try.prog (gx gtab) h47 := hok mixed (cfg_p oki17 (cfg_nil _ _) : CfgOk _ cfg47) F47 eqn47
/- 48 (*treaty/treatyref40.reader).count -/
def r48_0 : List Ins := [qI 4 (.mov (kI 0))]
def r48_1 : List Ins := [qI 6 (.mov 0), qI 7 (.call (.fn 47) [6]), qI 5 (.mov 7)]
def r48_2 : List Ins := [qI 8 (.mov 0), qI 9 (.nck 8), qI 10 (.faddr 1 9), qI 11 (.load 1 false 10), qI 12 (.bin .eql 11 (kI 0)), qI 13 (.mov 12), qT 14 13 (.mov 5), qT 15 13 (.bin .lss 14 (kI 0)), qT 16 13 (.mov 15), qF 17 16 (.mov 5), qF 18 16 (.mov 1), qF 19 16 (.bin .gtr 17 18), qT 20 13 (.pick 16 (.k (.bool true)) 19), qI 21 (.pick 13 20 (.k (.bool false)))]
def r48_3 : List Ins := [qI 22 (.mov 0), qI 23 (.nck 22), qI 24 (.faddr 1 23), qN (.store 1 24 (kI 4))]
def r48_4 : List Ins := [qI 25 (.mov 0), qI 26 (.nck 25), qI 27 (.faddr 1 26), qI 28 (.load 1 false 27), qI 29 (.bin .neq 28 (kI 0))]
def r48_5 : List Ins := [qI 4 (.mov (kI 0))]
def r48_6 : List Ins := [qI 30 (.mov 5), qI 4 (.mov 30)]
def x48 : XC := (.seq (.ops false r48_0) (.seq (.ops false r48_1) (.seq (.seq (.ops false r48_2) (.cond (.t 21) (.ops false r48_3) .skip)) (.seq (.seq (.ops false r48_4) (.cond (.t 29) (.seq (.ops false r48_5) .ret) .skip)) (.seq (.ops false r48_6) .ret)))))
theorem F48 : Fn Try.prog 48 31 x48.er [.t 4] := ⟨Try.f48, hcl, Try.func48, by kernel_rfl, by kernel_rfl, by kernel_rfl, by kernel_rfl⟩
noncomputable def m48 (a0 : Int) (a1 : List Int) (a2 : Int) : Option (Int × (List Int) × Int × Unit) :=
 (m47 a1 a2).bind fun y531 =>
 cond (iEq y531.2.2.1 0)
 (cond (cond (iLt y531.1 0) true (iLt a0 y531.1))
 (some (0, y531.2.1, 4, ()))
 (cond (iNe y531.2.2.1 0)
 (some (0, y531.2.1, y531.2.2.1, ()))
 (some (y531.1, y531.2.1, y531.2.2.1, ()))))
 (cond (iNe y531.2.2.1 0)
 (some (0, y531.2.1, y531.2.2.1, ()))
 (some (y531.1, y531.2.1, y531.2.2.1, ())))
noncomputable def cfg48 : Cfg := ⟨ttab, gtab, [], [h47]⟩
def ish48 : Sh := ⟨2, [(1, (.int .i64))], [(0, .ptr 0 0 0)], [.box 86 [.d (.list (.int .u8)), .d (.int .i64)]]⟩
def osh48 : Sh := ⟨1, [(0, (.int .i64))], [], [.box 86 [.d (.list (.int .u8)), .d (.int .i64)]]⟩
theorem eqn48 (x : Int × (List Int) × Int × Unit) : xfunH cfg48 x48 31 [.t 4] [] ish48 osh48 x = m48 x.1 x.2.1 x.2.2.1 := by kernel_rfl
noncomputable def h48 : HI := ⟨48, ish48, osh48, fun (x : Int × (List Int) × Int × Unit) => m48 x.1 x.2.1 x.2.2.1⟩
theorem okh48 : HOk Try.prog (gx gtab) h48 := hok mixed (cfg_h okh47 (cfg_nil _ _) : CfgOk _ cfg48) F48 eqn48
/- 49 treaty/treatyref40.loss -/
def r49_0 : List Ins := [qI 2 (.alloc 76 (.agg #[.int .i64 0, .int .i64 0, .int .i64 0, .int .i64 0, .int .i64 0, .int .i64 0, .int .i64 0, .int .i64 0, .int .i64 0, .int .i64 0]))]
def r49_1 : List Ins := [qI 3 (.mov 0), qI 4 (.iaddr 1 3 (kI 0)), qI 5 (.load 1 false 4), qI 6 (.mov 0), qI 7 (.iaddr 1 6 (kI 1)), qI 8 (.load 1 false 7), qI 9 (.mov 0), qI 10 (.iaddr 1 9 (kI 2)), qI 11 (.load 1 false 10), qI 12 (.mov 0), qI 13 (.iaddr 1 12 (kI 3)), qI 14 (.load 1 false 13), qI 15 (.mov 0), qI 16 (.iaddr 1 15 (kI 4)), qI 17 (.load 1 false 16), qI 18 (.mov 0), qI 19 (.iaddr 1 18 (kI 5)), qI 20 (.load 1 false 19), qI 21 (.mov 0), qI 22 (.iaddr 1 21 (kI 6)), qI 23 (.load 1 false 22), qI 24 (.mov 0), qI 25 (.iaddr 1 24 (kI 7)), qI 26 (.load 1 false 25), qI 27 (.mov 0), qI 28 (.iaddr 1 27 (kI 8)), qI 29 (.load 1 false 28), qI 30 (.mov 0), qI 31 (.iaddr 1 30 (kI 9)), qI 32 (.load 1 false 31), qI 33 (.build [.int .i64 0, .int .i64 0, .int .i64 0, .int .i64 0, .int .i64 0, .int .i64 0, .int .i64 0, .int .i64 0, .int .i64 0, .int .i64 0] [(0, 1, 5), (1, 1, 8), (2, 1, 11), (3, 1, 14), (4, 1, 17), (5, 1, 20), (6, 1, 23), (7, 1, 26), (8, 1, 29), (9, 1, 32)]), qN (.store 10 2 33)]
def x49 : XC := (.seq (.ops false r49_0) (.seq (.ops true r49_1) .ret))
theorem F49 : Fn Try.prog 49 34 x49.er [.c 2 10 true] := ⟨Try.f49, hcl, Try.func49, by kernel_rfl, by kernel_rfl, by kernel_rfl, by kernel_rfl⟩
noncomputable def m49 (a0 : List Int) : Option (DS0 × Unit) :=
 cond (bnd 0 (lenI a0))
 (cond (bnd 1 (lenI a0))
 (cond (bnd 2 (lenI a0))
 (cond (bnd 3 (lenI a0))
 (cond (bnd 4 (lenI a0))
 (cond (bnd 5 (lenI a0))
 (cond (bnd 6 (lenI a0))
 (cond (bnd 7 (lenI a0))
 (cond (bnd 8 (lenI a0))
 (cond (bnd 9 (lenI a0))
 (some ((atI a0 0 0, atI a0 1 0, atI a0 2 0, atI a0 3 0, atI a0 4 0, atI a0 5 0, atI a0 6 0, atI a0 7 0, atI a0 8 0, atI a0 9 0, ()), ())) none) none) none) none) none) none) none) none) none) none
noncomputable def cfg49 : Cfg := ⟨ttab, gtab, [], []⟩
theorem eqn49 (x : (List Int) × Unit) : xfun cfg49 x49 34 [.c 2 10 true] [(.list (.int .i64))] [tS0] x = m49 x.1 := by kernel_rfl
noncomputable def i49 : PI := ⟨49, [(.list (.int .i64))], [tS0], fun (x : (List Int) × Unit) => m49 x.1⟩
theorem oki49 : POk Try.prog (gx gtab) i49 := pok mixed (cfg_nil _ _ : CfgOk _ cfg49) F49 eqn49
/- 50 (*treaty/treatyref40.reader).end -/
def r50_0 : List Ins := [qI 2 (.mov (kI 0))]
def r50_1 : List Ins := [qI 3 (.mov 0), qI 4 (.nck 3), qI 5 (.faddr 1 4), qI 6 (.load 1 false 5), qI 7 (.bin .eql 6 (kI 0)), qI 8 (.mov 7), qT 9 8 (.mov 0), qT 10 8 (.nck 9), qT 11 8 (.faddr 0 10), qT 12 8 (.load 1 false 11), qT 13 8 (.len 12), qT 14 8 (.bin .gtr 13 (kI 0)), qI 15 (.pick 8 14 (.k (.bool false)))]
def r50_2 : List Ins := [qI 16 (.mov 0), qI 17 (.nck 16), qI 18 (.faddr 1 17), qN (.store 1 18 (kI 5))]
def r50_3 : List Ins := [qI 19 (.mov 0), qI 20 (.nck 19), qI 21 (.faddr 1 20), qI 22 (.load 1 false 21), qI 2 (.mov 22)]
def x50 : XC := (.seq (.ops false r50_0) (.seq (.seq (.ops false r50_1) (.cond (.t 15) (.ops false r50_2) .skip)) (.seq (.ops false r50_3) .ret)))
theorem F50 : Fn Try.prog 50 23 x50.er [.t 2] := ⟨Try.f50, hcl, Try.func50, by kernel_rfl, by kernel_rfl, by kernel_rfl, by kernel_rfl⟩
noncomputable def m50 (a0 : List Int) (a1 : Int) : Option (Int × (List Int) × Int × Unit) :=
 cond (cond (iEq a1 0) (iLt 0 (lenI a0)) false)
 (some (5, a0, 5, ()))
 (some (a1, a0, a1, ()))
noncomputable def cfg50 : Cfg := ⟨ttab, gtab, [], []⟩
def ish50 : Sh := ⟨1, [], [(0, .ptr 0 0 0)], [.box 86 [.d (.list (.int .u8)), .d (.int .i64)]]⟩
def osh50 : Sh := ⟨1, [(0, (.int .i64))], [], [.box 86 [.d (.list (.int .u8)), .d (.int .i64)]]⟩
theorem eqn50 (x : (List Int) × Int × Unit) : xfunH cfg50 x50 23 [.t 2] [] ish50 osh50 x = m50 x.1 x.2.1 := by kernel_rfl
noncomputable def h50 : HI := ⟨50, ish50, osh50, fun (x : (List Int) × Int × Unit) => m50 x.1 x.2.1⟩
theorem okh50 : HOk Try.prog (gx gtab) h50 := hok mixed (cfg_nil _ _ : CfgOk _ cfg50) F50 eqn50
/- 23 treaty/treatyref40.DecodeCommand -/
def r23_0 : List Ins := [qI 2 (.alloc 38 (.agg #[.int .i64 0, .slice none 0 0, .int .i64 0, .int .i64 0, .int .i64 0, .int .i64 0])), qI 3 (.mov (kI 0))]
def r23_1 : List Ins := [qI 10 (.mov 0), qI 11 (.build [.slice none 0 0, .int .i64 0] [(0, 1, 10)]), qI 12 (.box 86 2 11), qI 4 (.mov 12)]
def r23_2 : List Ins := [qI 13 (.mov 4), qI 14 (.call (.fn 47) [13]), qI 15 (.build [.int .i64 0, .slice none 0 0, .int .i64 0, .int .i64 0, .int .i64 0, .int .i64 0] [(0, 1, 14)]), qI 5 (.alloc 38 (.agg #[.int .i64 0, .slice none 0 0, .int .i64 0, .int .i64 0, .int .i64 0, .int .i64 0])), qN (.store 6 5 15)]
def r23_3 : List Ins := [qI 16 (.mov 4), qI 17 (.nck 16), qI 18 (.faddr 1 17), qI 19 (.load 1 false 18), qI 20 (.bin .neq 19 (kI 0))]
def r23_4 : List (Nat × Ins) := [(0, qI 21 (.build [.int .i64 0, .slice none 0 0, .int .i64 0, .int .i64 0, .int .i64 0, .int .i64 0] [])),
(0, qI 22 (.mov 4)),
(0, qI 23 (.nck 22)),
(0, qI 24 (.faddr 1 23)),
(1, qI 25 (.load 1 false 24)),
(2, qN (.store 6 2 21)),
(0, qI 3 (.mov 25))]
def r23_5 : List Ins := [qI 26 (.faddr 0 5), qI 27 (.load 1 false 26)]
def r23_6 : List Ins := [qI 30 (.bin .eql 27 (kI 1)), qI 29 (.mov 30)]
def r23_7 : List Ins := [qI 31 (.mov 4), qI 32 (.call (.fn 48) [31, (kI 64)]), qI 6 (.mov 32)]
def r23_8 : List Ins := [qI 33 (.mov 6), qI 34 (.bin .gtr 33 (kI 0))]
def r23_9 : List Ins := [qI 37 (.mk 3 1 8 (.int .i64 0) (kI 10)), qI 7 (.mov 37)]
def r23_10 : List Ins := [qI 38 (.mov 7), qI 39 (.len 38), qI 40 (.mov (kI 0))]
def r23_11 : List Ins := [qI 41 (.bin .lss 40 39)]
def r23_12 : List Ins := [qI 42 (.mov 40), qI 8 (.mov 42)]
def r23_13 : List Ins := [qI 43 (.mov 7), qI 44 (.mov 8), qI 45 (.mov 4), qI 46 (.call (.fn 47) [45]), qI 47 (.iaddr 1 43 44), qN (.store 1 47 46)]
def r23_14 : List Ins := [qI 48 (.bin .add 40 (kI 1)), qI 40 (.mov 48)]
def r23_15 : List (Nat × Ins) := [(0, qI 49 (.faddr 1 5)),
(1, qI 50 (.load 1 false 49)),
(0, qI 51 (.mov 7)),
(0, qI 52 (.call (.fn 49) [51])),
(2, qI 53 (.bslice 76 10 [52])),
(0, qI 54 (.app 76 10 80 50 53)),
(0, qI 55 (.faddr 1 5)),
(0, qN (.store 1 55 54))]
def r23_16 : List Ins := [qI 35 (.mov 6), qI 36 (.bin .sub 35 (kI 1)), qI 6 (.mov 36)]
def r23_17 : List Ins := [qI 57 (.bin .eql 27 (kI 2)), qI 56 (.mov 57)]
def r23_18 : List Ins := [qI 59 (.bin .eql 27 (kI 3)), qI 58 (.mov 59)]
def r23_19 : List Ins := [qI 60 (.mov 4), qI 61 (.call (.fn 47) [60]), qI 62 (.faddr 2 5), qN (.store 1 62 61)]
def r23_20 : List Ins := [qI 63 (.mov 4), qI 64 (.call (.fn 47) [63]), qI 65 (.faddr 4 5), qN (.store 1 65 64)]
def r23_21 : List Ins := [qI 67 (.bin .eql 27 (kI 4)), qI 66 (.mov 67)]
def r23_22 : List Ins := [qI 68 (.mov 4), qI 69 (.call (.fn 47) [68]), qI 70 (.faddr 2 5), qN (.store 1 70 69)]
def r23_23 : List Ins := [qI 71 (.mov 4), qI 72 (.call (.fn 47) [71]), qI 73 (.faddr 4 5), qN (.store 1 73 72)]
def r23_24 : List Ins := [qI 74 (.mov 4), qI 75 (.call (.fn 47) [74]), qI 76 (.faddr 5 5), qN (.store 1 76 75)]
def r23_25 : List Ins := [qI 78 (.bin .eql 27 (kI 5)), qI 77 (.mov 78)]
def r23_26 : List Ins := [qI 79 (.mov 4), qI 80 (.call (.fn 47) [79]), qI 81 (.faddr 2 5), qN (.store 1 81 80)]
def r23_27 : List Ins := [qI 82 (.mov 4), qI 83 (.call (.fn 47) [82]), qI 84 (.faddr 3 5), qN (.store 1 84 83)]
def r23_28 : List Ins := [qI 28 (.build [.int .i64 0, .slice none 0 0, .int .i64 0, .int .i64 0, .int .i64 0, .int .i64 0] []), qN (.store 6 2 28), qI 3 (.mov (kI 11))]
def r23_29 : List Ins := [qI 85 (.mov 4), qI 86 (.call (.fn 50) [85]), qI 9 (.mov 86)]
def r23_30 : List Ins := [qI 87 (.mov 9), qI 88 (.bin .neq 87 (kI 0))]
def r23_31 : List Ins := [qI 89 (.build [.int .i64 0, .slice none 0 0, .int .i64 0, .int .i64 0, .int .i64 0, .int .i64 0] []), qI 90 (.mov 9), qN (.store 6 2 89), qI 3 (.mov 90)]
def r23_32 : List Ins := [qI 91 (.load 6 true 5), qN (.store 6 2 91), qI 3 (.mov (kI 0))]
def x23 : XC := (.seq (.ops false r23_0) (.seq (.ops false r23_1) (.seq (.ops false r23_2) (.seq (.seq (.ops false r23_3) (.cond (.t 20) (.seq (.rops [0] r23_4) .ret) .skip)) (.seq (.seq (.ops false r23_5) (.block 0 (.seq (.ops false r23_6) (.cond (.t 29) (.seq (.ops false r23_7) (.block 1 (.loop [.ghc 5 1 76 tS0] ⟨92, [(6, (.int .i64))], [(2, .ptr 0 0 0), (4, .ptr 1 0 0), (5, .ptr 2 0 0)], [.box 38 [.d (.int .i64), .nil, .d (.int .i64), .d (.int .i64), .d (.int .i64), .d (.int .i64)], .box 86 [.d (.list (.int .u8)), .d (.int .i64)], .box 38 [.d (.int .i64), .row 3, .d (.int .i64), .d (.int .i64), .d (.int .i64), .d (.int .i64)], .row 76 tS0 false]⟩ (.seq (.seq (.ops false r23_8) (.cond (.t 34) .skip (.exit 1))) (.seq (.block 2 (.seq (.ops false r23_9) (.seq (.seq (.ops false r23_10) (.block 3 (.loop [.ghc 5 1 76 tS0] ⟨92, [(6, (.int .i64)), (39, (.int .i64)), (40, (.int .i64))], [(2, .ptr 0 0 0), (4, .ptr 1 0 0), (5, .ptr 2 0 0), (7, .row 3)], [.box 38 [.d (.int .i64), .nil, .d (.int .i64), .d (.int .i64), .d (.int .i64), .d (.int .i64)], .box 86 [.d (.list (.int .u8)), .d (.int .i64)], .box 38 [.d (.int .i64), .row 4, .d (.int .i64), .d (.int .i64), .d (.int .i64), .d (.int .i64)], .row 3 (.int .i64) false, .row 76 tS0 false]⟩ (.seq (.ops false r23_11) (.seq (.cond (.t 41) .skip (.exit 3)) (.seq (.block 4 (.seq (.ops false r23_12) (.ops false r23_13))) (.ops false r23_14))))))) (.rops [] r23_15)))) (.ops false r23_16)))))) (.seq (.ops false r23_17) (.cond (.t 56) .skip (.seq (.ops false r23_18) (.cond (.t 58) (.seq (.ops false r23_19) (.ops false r23_20)) (.seq (.ops false r23_21) (.cond (.t 66) (.seq (.ops false r23_22) (.seq (.ops false r23_23) (.ops false r23_24))) (.seq (.ops false r23_25) (.cond (.t 77) (.seq (.ops false r23_26) (.ops false r23_27)) (.seq (.ops false r23_28) .ret))))))))))))) (.seq (.seq (.ops false r23_29) (.seq (.ops false r23_30) (.cond (.t 88) (.seq (.ops false r23_31) .ret) .skip))) (.seq (.ops false r23_32) .ret)))))))
theorem F23 : Fn Try.prog 23 92 x23.er [.c 2 6 true, .t 3] := ⟨Try.f23, hcl, Try.func23, by kernel_rfl, by kernel_rfl, by kernel_rfl, by kernel_rfl⟩
noncomputable def m23 (a0 : List Int) : Option (DS1 × Int × Unit) :=
 (m47 a0 0).bind fun y567 =>
 cond (iNe y567.2.2.1 0)
 (some ((0, ([] : List DS0), 0, 0, 0, 0, ()), y567.2.2.1, ()))
 (cond (iEq y567.1 1)
 ((m48 64 y567.2.1 y567.2.2.1).bind fun y568 =>
 loopO (S := Int × Int × Int × Int × Int × Int × (List Int) × Int × Int × Int × Int × Int × Int × (List DS0) × Unit) (R := DS1 × Int × Unit) (fun s569 =>
 cond (iLt 0 s569.1)
 (cond (fitsI 10 8)
 (loopO (S := Int × Int × Int × Int × Int × Int × Int × Int × (List Int) × Int × Int × Int × Int × Int × Int × (List Int) × (List DS0) × Unit) (R := (Int × Int × Int × Int × Int × Int × (List Int) × Int × Int × Int × Int × Int × Int × (List DS0) × Unit) ⊕ (DS1 × Int × Unit)) (fun s570 =>
 cond (iLt s570.2.2.1 s570.2.1)
 ((m47 s570.2.2.2.2.2.2.2.2.1 s570.2.2.2.2.2.2.2.2.2.1).bind fun y571 =>
 cond (bnd s570.2.2.1 (lenI s570.2.2.2.2.2.2.2.2.2.2.2.2.2.2.2.1))
 (cond (inB (Int.toNat s570.2.2.1) s570.2.2.2.2.2.2.2.2.2.2.2.2.2.2.2.1)
 (some (.inl (s570.1, s570.2.1, iAdd .i64 s570.2.2.1 1, s570.2.2.2.1, s570.2.2.2.2.1, s570.2.2.2.2.2.1, s570.2.2.2.2.2.2.1, s570.2.2.2.2.2.2.2.1, y571.2.1, y571.2.2.1, s570.2.2.2.2.2.2.2.2.2.2.1, s570.2.2.2.2.2.2.2.2.2.2.2.1, s570.2.2.2.2.2.2.2.2.2.2.2.2.1, s570.2.2.2.2.2.2.2.2.2.2.2.2.2.1, s570.2.2.2.2.2.2.2.2.2.2.2.2.2.2.1, List.set s570.2.2.2.2.2.2.2.2.2.2.2.2.2.2.2.1 (Int.toNat s570.2.2.1) y571.1, s570.2.2.2.2.2.2.2.2.2.2.2.2.2.2.2.2.1, ()))) none) none)
 (Option.map Sum.inr ((m49 s570.2.2.2.2.2.2.2.2.2.2.2.2.2.2.2.1).bind fun y572 =>
 cond (fits (List.length s570.2.2.2.2.2.2.2.2.2.2.2.2.2.2.2.2.1 + List.length ([y572.1] : List DS0)) 80)
 (some (.inl (iSub .i64 s570.1 1, s570.2.2.2.1, s570.2.2.2.2.1, s570.2.2.2.2.2.1, s570.2.2.2.2.2.2.1, s570.2.2.2.2.2.2.2.1, s570.2.2.2.2.2.2.2.2.1, s570.2.2.2.2.2.2.2.2.2.1, s570.2.2.2.2.2.2.2.2.2.2.1, s570.2.2.2.2.2.2.2.2.2.2.2.1, s570.2.2.2.2.2.2.2.2.2.2.2.2.1, s570.2.2.2.2.2.2.2.2.2.2.2.2.2.1, s570.2.2.2.2.2.2.2.2.2.2.2.2.2.2.1, s570.2.2.2.2.2.2.2.2.2.2.2.2.2.2.2.2.1 ++ ([y572.1] : List DS0), ()))) none)))
 (s569.1, lenI (List.replicate (Int.toNat 10) 0), 0, s569.2.1, s569.2.2.1, s569.2.2.2.1, s569.2.2.2.2.1, s569.2.2.2.2.2.1, s569.2.2.2.2.2.2.1, s569.2.2.2.2.2.2.2.1, s569.2.2.2.2.2.2.2.2.1, s569.2.2.2.2.2.2.2.2.2.1, s569.2.2.2.2.2.2.2.2.2.2.1, s569.2.2.2.2.2.2.2.2.2.2.2.1, s569.2.2.2.2.2.2.2.2.2.2.2.2.1, List.replicate (Int.toNat 10) 0, s569.2.2.2.2.2.2.2.2.2.2.2.2.2.1, ())) none)
 (Option.map Sum.inr ((m50 s569.2.2.2.2.2.2.1 s569.2.2.2.2.2.2.2.1).bind fun y573 =>
 cond (iNe y573.1 0)
 (some ((0, ([] : List DS0), 0, 0, 0, 0, ()), y573.1, ()))
 (some ((s569.2.2.2.2.2.2.2.2.1, s569.2.2.2.2.2.2.2.2.2.2.2.2.2.1, s569.2.2.2.2.2.2.2.2.2.1, s569.2.2.2.2.2.2.2.2.2.2.1, s569.2.2.2.2.2.2.2.2.2.2.2.1, s569.2.2.2.2.2.2.2.2.2.2.2.2.1, ()), 0, ())))))
 (y568.1, 0, 0, 0, 0, 0, y568.2.1, y568.2.2.1, y567.1, 0, 0, 0, 0, ([] : List DS0), ()))
 (cond (iEq y567.1 2)
 ((m50 y567.2.1 y567.2.2.1).bind fun y574 =>
 cond (iNe y574.1 0)
 (some ((0, ([] : List DS0), 0, 0, 0, 0, ()), y574.1, ()))
 (some ((y567.1, ([] : List DS0), 0, 0, 0, 0, ()), 0, ())))
 (cond (iEq y567.1 3)
 ((m47 y567.2.1 y567.2.2.1).bind fun y575 =>
 (m47 y575.2.1 y575.2.2.1).bind fun y576 =>
 (m50 y576.2.1 y576.2.2.1).bind fun y577 =>
 cond (iNe y577.1 0)
 (some ((0, ([] : List DS0), 0, 0, 0, 0, ()), y577.1, ()))
 (some ((y567.1, ([] : List DS0), y575.1, 0, y576.1, 0, ()), 0, ())))
 (cond (iEq y567.1 4)
 ((m47 y567.2.1 y567.2.2.1).bind fun y578 =>
 (m47 y578.2.1 y578.2.2.1).bind fun y579 =>
 (m47 y579.2.1 y579.2.2.1).bind fun y580 =>
 (m50 y580.2.1 y580.2.2.1).bind fun y581 =>
 cond (iNe y581.1 0)
 (some ((0, ([] : List DS0), 0, 0, 0, 0, ()), y581.1, ()))
 (some ((y567.1, ([] : List DS0), y578.1, 0, y579.1, y580.1, ()), 0, ())))
 (cond (iEq y567.1 5)
 ((m47 y567.2.1 y567.2.2.1).bind fun y582 =>
 (m47 y582.2.1 y582.2.2.1).bind fun y583 =>
 (m50 y583.2.1 y583.2.2.1).bind fun y584 =>
 cond (iNe y584.1 0)
 (some ((0, ([] : List DS0), 0, 0, 0, 0, ()), y584.1, ()))
 (some ((y567.1, ([] : List DS0), y582.1, y583.1, 0, 0, ()), 0, ())))
 (some ((0, ([] : List DS0), 0, 0, 0, 0, ()), 11, ())))))))
noncomputable def cfg23 : Cfg := ⟨ttab, gtab, [i49], [h47, h48, h50]⟩
theorem eqn23 (x : (List Int) × Unit) : xfun cfg23 x23 92 [.c 2 6 true, .t 3] [(.list (.int .u8))] [tS1, (.int .i64)] x = m23 x.1 := by kernel_rfl
noncomputable def i23 : PI := ⟨23, [(.list (.int .u8))], [tS1, (.int .i64)], fun (x : (List Int) × Unit) => m23 x.1⟩
theorem oki23 : POk Try.prog (gx gtab) i23 := pok mixed (cfg_p oki49 (cfg_h okh47 (cfg_h okh48 (cfg_h okh50 (cfg_nil _ _)))) : CfgOk _ cfg23) F23 eqn23
/- 51 treaty/treatyref40.SameLosses -/
def r51_0 : List Ins := [qI 4 (.mov (.k (.bool false)))]
def r51_1 : List Ins := [qI 6 (.mov 0), qI 7 (.len 6), qI 8 (.mov 1), qI 9 (.len 8), qI 10 (.bin .neq 7 9)]
def r51_2 : List Ins := [qI 4 (.mov (.k (.bool false)))]
def r51_3 : List Ins := [qI 11 (.mov 0), qI 12 (.len 11), qI 13 (.mov (kI 0))]
def r51_4 : List Ins := [qI 14 (.bin .lss 13 12)]
def r51_5 : List Ins := [qI 15 (.mov 13), qI 5 (.mov 15)]
def r51_6 : List Ins := [qI 16 (.mov 0), qI 17 (.mov 5), qI 18 (.iaddr 10 16 17), qI 19 (.load 10 true 18), qI 20 (.mov 1), qI 21 (.mov 5), qI 22 (.iaddr 10 20 21), qI 23 (.load 10 true 22), qI 24 (.aeq true [(0, 1), (1, 1), (2, 1), (3, 1), (4, 1), (5, 1), (6, 1), (7, 1), (8, 1), (9, 1)] 19 23)]
def r51_7 : List Ins := [qI 4 (.mov (.k (.bool false)))]
def r51_8 : List Ins := [qI 25 (.bin .add 13 (kI 1)), qI 13 (.mov 25)]
def r51_9 : List Ins := [qI 4 (.mov (.k (.bool true)))]
def x51 : XC := (.seq (.ops false r51_0) (.seq (.seq (.ops false r51_1) (.cond (.t 10) (.seq (.ops false r51_2) .ret) .skip)) (.seq (.seq (.ops false r51_3) (.block 0 (.loop [] ⟨26, [(0, (.list tS0)), (1, (.list tS0)), (12, (.int .i64)), (13, (.int .i64))], [], []⟩ (.seq (.ops false r51_4) (.seq (.cond (.t 14) .skip (.exit 0)) (.seq (.block 1 (.seq (.ops false r51_5) (.seq (.ops true r51_6) (.cond (.t 24) (.seq (.ops false r51_7) .ret) .skip)))) (.ops false r51_8))))))) (.seq (.ops false r51_9) .ret))))
theorem F51 : Fn Try.prog 51 26 x51.er [.t 4] := ⟨Try.f51, hcl, Try.func51, by kernel_rfl, by kernel_rfl, by kernel_rfl, by kernel_rfl⟩
noncomputable def m51 (a0 : List DS0) (a1 : List DS0) : Option (Bool × Unit) :=
 cond (iNe (lenI a0) (lenI a1))
 (some (false, ()))
 (loopO (S := (List DS0) × (List DS0) × Int × Int × Unit) (R := Bool × Unit) (fun s587 =>
 cond (iLt s587.2.2.2.1 s587.2.2.1)
 (cond (bnd s587.2.2.2.1 (lenI s587.1))
 (cond (bnd s587.2.2.2.1 (lenI s587.2.1))
 (cond (not (and (iEq ((atI s587.1 s587.2.2.2.1 (0, 0, 0, 0, 0, 0, 0, 0, 0, 0, ())).1) ((atI s587.2.1 s587.2.2.2.1 (0, 0, 0, 0, 0, 0, 0, 0, 0, 0, ())).1)) (and (iEq ((atI s587.1 s587.2.2.2.1 (0, 0, 0, 0, 0, 0, 0, 0, 0, 0, ())).2.1) ((atI s587.2.1 s587.2.2.2.1 (0, 0, 0, 0, 0, 0, 0, 0, 0, 0, ())).2.1)) (and (iEq ((atI s587.1 s587.2.2.2.1 (0, 0, 0, 0, 0, 0, 0, 0, 0, 0, ())).2.2.1) ((atI s587.2.1 s587.2.2.2.1 (0, 0, 0, 0, 0, 0, 0, 0, 0, 0, ())).2.2.1)) (and (iEq ((atI s587.1 s587.2.2.2.1 (0, 0, 0, 0, 0, 0, 0, 0, 0, 0, ())).2.2.2.1) ((atI s587.2.1 s587.2.2.2.1 (0, 0, 0, 0, 0, 0, 0, 0, 0, 0, ())).2.2.2.1)) (and (iEq ((atI s587.1 s587.2.2.2.1 (0, 0, 0, 0, 0, 0, 0, 0, 0, 0, ())).2.2.2.2.1) ((atI s587.2.1 s587.2.2.2.1 (0, 0, 0, 0, 0, 0, 0, 0, 0, 0, ())).2.2.2.2.1)) (and (iEq ((atI s587.1 s587.2.2.2.1 (0, 0, 0, 0, 0, 0, 0, 0, 0, 0, ())).2.2.2.2.2.1) ((atI s587.2.1 s587.2.2.2.1 (0, 0, 0, 0, 0, 0, 0, 0, 0, 0, ())).2.2.2.2.2.1)) (and (iEq ((atI s587.1 s587.2.2.2.1 (0, 0, 0, 0, 0, 0, 0, 0, 0, 0, ())).2.2.2.2.2.2.1) ((atI s587.2.1 s587.2.2.2.1 (0, 0, 0, 0, 0, 0, 0, 0, 0, 0, ())).2.2.2.2.2.2.1)) (and (iEq ((atI s587.1 s587.2.2.2.1 (0, 0, 0, 0, 0, 0, 0, 0, 0, 0, ())).2.2.2.2.2.2.2.1) ((atI s587.2.1 s587.2.2.2.1 (0, 0, 0, 0, 0, 0, 0, 0, 0, 0, ())).2.2.2.2.2.2.2.1)) (and (iEq ((atI s587.1 s587.2.2.2.1 (0, 0, 0, 0, 0, 0, 0, 0, 0, 0, ())).2.2.2.2.2.2.2.2.1) ((atI s587.2.1 s587.2.2.2.1 (0, 0, 0, 0, 0, 0, 0, 0, 0, 0, ())).2.2.2.2.2.2.2.2.1)) (and (iEq ((atI s587.1 s587.2.2.2.1 (0, 0, 0, 0, 0, 0, 0, 0, 0, 0, ())).2.2.2.2.2.2.2.2.2.1) ((atI s587.2.1 s587.2.2.2.1 (0, 0, 0, 0, 0, 0, 0, 0, 0, 0, ())).2.2.2.2.2.2.2.2.2.1)) true)))))))))))
 (some (.inr (false, ())))
 (some (.inl (s587.1, s587.2.1, s587.2.2.1, iAdd .i64 s587.2.2.2.1 1, ())))) none) none)
 (some (.inr (true, ()))))
 (a0, a1, lenI a0, 0, ()))
noncomputable def cfg51 : Cfg := ⟨ttab, gtab, [], []⟩
theorem eqn51 (x : (List DS0) × (List DS0) × Unit) : xfun cfg51 x51 26 [.t 4] [(.list tS0), (.list tS0)] [.bool] x = m51 x.1 x.2.1 := by kernel_rfl
noncomputable def i51 : PI := ⟨51, [(.list tS0), (.list tS0)], [.bool], fun (x : (List DS0) × (List DS0) × Unit) => m51 x.1 x.2.1⟩
theorem oki51 : POk Try.prog (gx gtab) i51 := pok mixed (cfg_nil _ _ : CfgOk _ cfg51) F51 eqn51
/- 24 treaty/treatyref40.SameCommand -/
def r24_0 : List Ins := [qI 2 (.box 38 6 0), qI 3 (.box 38 6 1), qI 4 (.mov (.k (.bool false)))]
def r24_1 : List Ins := [qI 5 (.faddr 0 2), qI 6 (.load 1 false 5), qI 7 (.faddr 0 3), qI 8 (.load 1 false 7), qI 9 (.bin .eql 6 8), qI 10 (.mov 9), qT 11 10 (.faddr 1 2), qT 12 10 (.load 1 false 11), qT 13 10 (.faddr 1 3), qT 14 10 (.load 1 false 13), qT 15 10 (.call (.fn 51) [12, 14]), qI 16 (.pick 10 15 (.k (.bool false))), qI 17 (.mov 16), qT 18 17 (.faddr 2 2), qT 19 17 (.load 1 false 18), qT 20 17 (.faddr 2 3), qT 21 17 (.load 1 false 20), qT 22 17 (.bin .eql 19 21), qI 23 (.pick 17 22 (.k (.bool false))), qI 24 (.mov 23), qT 25 24 (.faddr 3 2), qT 26 24 (.load 1 false 25), qT 27 24 (.faddr 3 3), qT 28 24 (.load 1 false 27), qT 29 24 (.bin .eql 26 28), qI 30 (.pick 24 29 (.k (.bool false))), qI 31 (.mov 30), qT 32 31 (.faddr 4 2), qT 33 31 (.load 1 false 32), qT 34 31 (.faddr 4 3), qT 35 31 (.load 1 false 34), qT 36 31 (.bin .eql 33 35), qI 37 (.pick 31 36 (.k (.bool false))), qI 38 (.mov 37), qT 39 38 (.faddr 5 2), qT 40 38 (.load 1 false 39), qT 41 38 (.faddr 5 3), qT 42 38 (.load 1 false 41), qT 43 38 (.bin .eql 40 42), qI 44 (.pick 38 43 (.k (.bool false))), qI 4 (.mov 44)]
def x24 : XC := (.seq (.ops false r24_0) (.seq (.ops false r24_1) .ret))
theorem F24 : Fn Try.prog 24 45 x24.er [.t 4] := ⟨Try.f24, hcl, Try.func24, by kernel_rfl, by kernel_rfl, by kernel_rfl, by kernel_rfl⟩
noncomputable def m24 (a0 : DS1) (a1 : DS1) : Option (Bool × Unit) :=
 cond (iEq a0.1 a1.1)
 ((m51 a0.2.1 a1.2.1).bind fun y588 =>
 some (cond (cond (cond (cond y588.1 (iEq a0.2.2.1 a1.2.2.1) false) (iEq a0.2.2.2.1 a1.2.2.2.1) false) (iEq a0.2.2.2.2.1 a1.2.2.2.2.1) false) (iEq a0.2.2.2.2.2.1 a1.2.2.2.2.2.1) false, ()))
 (some (false, ()))
noncomputable def cfg24 : Cfg := ⟨ttab, gtab, [i51], []⟩
theorem eqn24 (x : DS1 × DS1 × Unit) : xfun cfg24 x24 45 [.t 4] [tS1, tS1] [.bool] x = m24 x.1 x.2.1 := by kernel_rfl
noncomputable def i24 : PI := ⟨24, [tS1, tS1], [.bool], fun (x : DS1 × DS1 × Unit) => m24 x.1 x.2.1⟩
theorem oki24 : POk Try.prog (gx gtab) i24 := pok mixed (cfg_p oki51 (cfg_nil _ _) : CfgOk _ cfg24) F24 eqn24
/- 5 treaty/treatylaw40.CodecCommand -/
def r5_0 : List Ins := [qI 5 (.box 38 6 0), qI 10 (.mov (.k (.bool false)))]
def r5_1 : List Ins := [qI 26 (.faddr 1 5), qI 27 (.load 1 false 26), qI 28 (.len 27), qI 29 (.bin .gtr 28 (kI 80)), qI 30 (.mov 29), qF 31 30 (.mov 1), qF 32 30 (.len 31), qF 33 30 (.bin .gtr 32 (kI 400)), qI 34 (.pick 30 (.k (.bool true)) 33)]
def r5_2 : List Ins := [qI 35 (.call (.fn 9) []), qI 10 (.mov 35)]
def r5_3 : List Ins := [qI 36 (.mov 2), qI 37 (.call (.fn 10) [36]), qI 38 (.call (.fn 18) [37]), qI 11 (.alloc 38 (.agg #[.int .i64 0, .slice none 0 0, .int .i64 0, .int .i64 0, .int .i64 0, .int .i64 0])), qN (.store 6 11 38)]
def r5_4 : List Ins := [qI 39 (.load 6 true 5), qI 40 (.load 6 true 11), qI 41 (.bslice 38 6 [39, 40]), qI 42 (.len 41), qI 43 (.mov (kI 0))]
def r5_5 : List Ins := [qI 44 (.bin .lss 43 42)]
def r5_6 : List Ins := [qI 45 (.iaddr 6 41 43), qI 46 (.load 6 true 45), qI 13 (.alloc 38 (.agg #[.int .i64 0, .slice none 0 0, .int .i64 0, .int .i64 0, .int .i64 0, .int .i64 0])), qN (.store 6 13 46)]
def r5_7 : List Ins := [qI 48 (.load 6 true 13), qI 49 (.call (.fn 19) [48]), qI 47 (.mov 49), qI 50 (.ext 0 47), qI 51 (.ext 1 47), qI 14 (.mov 50), qI 15 (.mov 51)]
def r5_8 : List Ins := [qI 53 (.load 6 true 13), qI 54 (.call (.fn 20) [53]), qI 52 (.mov 54), qI 55 (.ext 0 52), qI 56 (.ext 1 52), qI 16 (.mov 55), qI 17 (.mov 56)]
def r5_9 : List Ins := [qI 57 (.mov 14), qI 58 (.mov 16), qI 59 (.call (.fn 15) [57, 58]), qI 60 (.un .not 59), qI 61 (.mov 60), qF 62 61 (.mov 15), qF 63 61 (.mov 17), qF 64 61 (.bin .neq 62 63), qI 65 (.pick 61 (.k (.bool true)) 64)]
def r5_10 : List Ins := [qI 10 (.mov (.k (.bool false)))]
def r5_11 : List Ins := [qI 66 (.bin .add 43 (kI 1)), qI 43 (.mov 66)]
def r5_12 : List Ins := [qI 68 (.load 6 true 11), qI 69 (.call (.fn 20) [68]), qI 67 (.mov 69), qI 70 (.ext 0 67), qI 71 (.ext 1 67), qI 18 (.mov 70), qI 19 (.mov 71)]
def r5_13 : List Ins := [qI 72 (.mov 19), qI 73 (.bin .neq 72 (kI 0))]
def r5_14 : List Ins := [qI 10 (.mov (.k (.bool false)))]
def r5_15 : List Ins := [qI 74 (.mov 1), qI 75 (.mov 18), qI 76 (.mov 18), qI 77 (.mov 3), qI 78 (.mov 4), qI 79 (.call (.fn 21) [76, 77, 78]), qI 80 (.bslice 22 1 [74, 75, 79]), qI 81 (.len 80), qI 82 (.mov (kI 0))]
def r5_16 : List Ins := [qI 83 (.bin .lss 82 81)]
def r5_17 : List Ins := [qI 84 (.iaddr 1 80 82), qI 85 (.load 1 false 84), qI 21 (.mov 85)]
def r5_18 : List Ins := [qI 87 (.mov 21), qI 88 (.call (.fn 22) [87]), qI 86 (.mov 88), qI 89 (.ext 0 86), qI 90 (.ext 1 86), qI 22 (.alloc 38 (.agg #[.int .i64 0, .slice none 0 0, .int .i64 0, .int .i64 0, .int .i64 0, .int .i64 0])), qN (.store 6 22 89), qI 23 (.mov 90)]
def r5_19 : List Ins := [qI 92 (.mov 21), qI 93 (.call (.fn 23) [92]), qI 91 (.mov 93), qI 94 (.ext 0 91), qI 95 (.ext 1 91), qI 24 (.alloc 38 (.agg #[.int .i64 0, .slice none 0 0, .int .i64 0, .int .i64 0, .int .i64 0, .int .i64 0])), qN (.store 6 24 94), qI 25 (.mov 95)]
def r5_20 : List Ins := [qI 96 (.load 6 true 22), qI 97 (.load 6 true 24), qI 98 (.call (.fn 24) [96, 97]), qI 99 (.un .not 98), qI 100 (.mov 99), qF 101 100 (.mov 23), qF 102 100 (.mov 25), qF 103 100 (.bin .neq 101 102), qI 104 (.pick 100 (.k (.bool true)) 103)]
def r5_21 : List Ins := [qI 10 (.mov (.k (.bool false)))]
def r5_22 : List Ins := [qI 105 (.bin .add 82 (kI 1)), qI 82 (.mov 105)]
def r5_23 : List Ins := [qI 106 (.call (.fn 9) []), qI 10 (.mov 106)]
def x5 : XC := (.seq (.ops false r5_0) (.seq (.seq (.ops false r5_1) (.cond (.t 34) (.seq (.ops false r5_2) .ret) .skip)) (.seq (.ops false r5_3) (.seq (.seq (.ops false r5_4) (.block 0 (.loop [] ⟨107, [(1, (.list (.int .u8))), (3, (.int .i64)), (4, (.int .u8)), (42, (.int .i64)), (43, (.int .i64))], [(11, .ptr 0 0 0), (41, .row 1)], [.box 38 [.d (.int .i64), .d (.list tS0), .d (.int .i64), .d (.int .i64), .d (.int .i64), .d (.int .i64)], .row 38 tS1 false]⟩ (.seq (.ops false r5_5) (.seq (.cond (.t 44) .skip (.exit 0)) (.seq (.block 1 (.seq (.ops false r5_6) (.seq (.ops false r5_7) (.seq (.ops false r5_8) (.seq (.ops false r5_9) (.cond (.t 65) (.seq (.ops false r5_10) .ret) .skip)))))) (.ops false r5_11))))))) (.seq (.ops false r5_12) (.seq (.seq (.ops false r5_13) (.cond (.t 73) (.seq (.ops false r5_14) .ret) .skip)) (.seq (.seq (.ops false r5_15) (.block 2 (.loop [] ⟨107, [(81, (.int .i64)), (82, (.int .i64))], [(80, .row 0)], [.row 22 (.list (.int .u8)) false]⟩ (.seq (.ops false r5_16) (.seq (.cond (.t 83) .skip (.exit 2)) (.seq (.block 3 (.seq (.ops false r5_17) (.seq (.ops false r5_18) (.seq (.ops false r5_19) (.seq (.ops false r5_20) (.cond (.t 104) (.seq (.ops false r5_21) .ret) .skip)))))) (.ops false r5_22))))))) (.seq (.ops false r5_23) .ret))))))))
theorem F5 : Fn Try.prog 5 107 x5.er [.t 10] := ⟨Try.f5, hcl, Try.func5, by kernel_rfl, by kernel_rfl, by kernel_rfl, by kernel_rfl⟩
noncomputable def m5 (a0 : DS1) (a1 : List Int) (a2 : List Int) (a3 : Int) (a4 : Int) : Option (Bool × Unit) :=
 cond (cond (iLt 80 (lenI a0.2.1)) true (iLt 400 (lenI a1)))
 ((m9).bind fun y591 =>
 some (y591.1, ()))
 ((m10 a2).bind fun y592 =>
 (m18 y592.1 y592.2.1).bind fun y593 =>
 loopO (S := (List Int) × Int × Int × Int × Int × Int × (List DS0) × Int × Int × Int × Int × (List DS1) × Unit) (R := Bool × Unit) (fun s594 =>
 cond (iLt s594.2.2.2.2.1 s594.2.2.2.1)
 (cond (bnd s594.2.2.2.2.1 (lenI s594.2.2.2.2.2.2.2.2.2.2.2.1))
 (cond (inB (Int.toNat s594.2.2.2.2.1) s594.2.2.2.2.2.2.2.2.2.2.2.1)
 ((m19 ((List.getD s594.2.2.2.2.2.2.2.2.2.2.2.1 (Int.toNat s594.2.2.2.2.1) (0, [], 0, 0, 0, 0, ())).1, (List.getD s594.2.2.2.2.2.2.2.2.2.2.2.1 (Int.toNat s594.2.2.2.2.1) (0, [], 0, 0, 0, 0, ())).2.1, (List.getD s594.2.2.2.2.2.2.2.2.2.2.2.1 (Int.toNat s594.2.2.2.2.1) (0, [], 0, 0, 0, 0, ())).2.2.1, (List.getD s594.2.2.2.2.2.2.2.2.2.2.2.1 (Int.toNat s594.2.2.2.2.1) (0, [], 0, 0, 0, 0, ())).2.2.2.1, (List.getD s594.2.2.2.2.2.2.2.2.2.2.2.1 (Int.toNat s594.2.2.2.2.1) (0, [], 0, 0, 0, 0, ())).2.2.2.2.1, (List.getD s594.2.2.2.2.2.2.2.2.2.2.2.1 (Int.toNat s594.2.2.2.2.1) (0, [], 0, 0, 0, 0, ())).2.2.2.2.2.1, ())).bind fun y595 =>
 (m20 ((List.getD s594.2.2.2.2.2.2.2.2.2.2.2.1 (Int.toNat s594.2.2.2.2.1) (0, [], 0, 0, 0, 0, ())).1, (List.getD s594.2.2.2.2.2.2.2.2.2.2.2.1 (Int.toNat s594.2.2.2.2.1) (0, [], 0, 0, 0, 0, ())).2.1, (List.getD s594.2.2.2.2.2.2.2.2.2.2.2.1 (Int.toNat s594.2.2.2.2.1) (0, [], 0, 0, 0, 0, ())).2.2.1, (List.getD s594.2.2.2.2.2.2.2.2.2.2.2.1 (Int.toNat s594.2.2.2.2.1) (0, [], 0, 0, 0, 0, ())).2.2.2.1, (List.getD s594.2.2.2.2.2.2.2.2.2.2.2.1 (Int.toNat s594.2.2.2.2.1) (0, [], 0, 0, 0, 0, ())).2.2.2.2.1, (List.getD s594.2.2.2.2.2.2.2.2.2.2.2.1 (Int.toNat s594.2.2.2.2.1) (0, [], 0, 0, 0, 0, ())).2.2.2.2.2.1, ())).bind fun y596 =>
 (m15 y595.1 y596.1).bind fun y597 =>
 cond (cond (not y597.1) true (iNe y595.2.1 y596.2.1))
 (some (.inr (false, ())))
 (some (.inl (s594.1, s594.2.1, s594.2.2.1, s594.2.2.2.1, iAdd .i64 s594.2.2.2.2.1 1, s594.2.2.2.2.2.1, s594.2.2.2.2.2.2.1, s594.2.2.2.2.2.2.2.1, s594.2.2.2.2.2.2.2.2.1, s594.2.2.2.2.2.2.2.2.2.1, s594.2.2.2.2.2.2.2.2.2.2.1, s594.2.2.2.2.2.2.2.2.2.2.2.1, ())))) none) none)
 (Option.map Sum.inr ((m20 (s594.2.2.2.2.2.1, s594.2.2.2.2.2.2.1, s594.2.2.2.2.2.2.2.1, s594.2.2.2.2.2.2.2.2.1, s594.2.2.2.2.2.2.2.2.2.1, s594.2.2.2.2.2.2.2.2.2.2.1, ())).bind fun y598 =>
 cond (iNe y598.2.1 0)
 (some (false, ()))
 ((m21 y598.1 s594.2.1 s594.2.2.1).bind fun y599 =>
 loopO (S := Int × Int × (List (List Int)) × Unit) (R := Bool × Unit) (fun s600 =>
 cond (iLt s600.2.1 s600.1)
 (cond (bnd s600.2.1 (lenI s600.2.2.1))
 (cond (inB (Int.toNat s600.2.1) s600.2.2.1)
 ((m22 (List.getD s600.2.2.1 (Int.toNat s600.2.1) [])).bind fun y601 =>
 (m23 (List.getD s600.2.2.1 (Int.toNat s600.2.1) [])).bind fun y602 =>
 (m24 (y601.1.1, y601.1.2.1, y601.1.2.2.1, y601.1.2.2.2.1, y601.1.2.2.2.2.1, y601.1.2.2.2.2.2.1, ()) (y602.1.1, y602.1.2.1, y602.1.2.2.1, y602.1.2.2.2.1, y602.1.2.2.2.2.1, y602.1.2.2.2.2.2.1, ())).bind fun y603 =>
 cond (cond (not y603.1) true (iNe y601.2.1 y602.2.1))
 (some (.inr (false, ())))
 (some (.inl (s600.1, iAdd .i64 s600.2.1 1, s600.2.2.1, ())))) none) none)
 (Option.map Sum.inr ((m9).bind fun y604 =>
 some (y604.1, ()))))
 (lenI ([s594.1, y598.1, y599.1] : List (List Int)), 0, ([s594.1, y598.1, y599.1] : List (List Int)), ())))))
 (a1, a3, a4, lenI ([(a0.1, a0.2.1, a0.2.2.1, a0.2.2.2.1, a0.2.2.2.2.1, a0.2.2.2.2.2.1, ()), (y593.1, y593.2.1, y593.2.2.1, y593.2.2.2.1, y593.2.2.2.2.1, y593.2.2.2.2.2.1, ())] : List DS1), 0, y593.1, y593.2.1, y593.2.2.1, y593.2.2.2.1, y593.2.2.2.2.1, y593.2.2.2.2.2.1, ([(a0.1, a0.2.1, a0.2.2.1, a0.2.2.2.1, a0.2.2.2.2.1, a0.2.2.2.2.2.1, ()), (y593.1, y593.2.1, y593.2.2.1, y593.2.2.2.1, y593.2.2.2.2.1, y593.2.2.2.2.2.1, ())] : List DS1), ()))
noncomputable def cfg5 : Cfg := ⟨ttab, gtab, [i15, i19, i20, i21, i22, i23, i24, i9], [h10, h18]⟩
theorem eqn5 (x : DS1 × (List Int) × (List Int) × Int × Int × Unit) : xfun cfg5 x5 107 [.t 10] [tS1, (.list (.int .u8)), (.list (.int .i64)), (.int .i64), (.int .u8)] [.bool] x = m5 x.1 x.2.1 x.2.2.1 x.2.2.2.1 x.2.2.2.2.1 := by kernel_rfl
noncomputable def i5 : PI := ⟨5, [tS1, (.list (.int .u8)), (.list (.int .i64)), (.int .i64), (.int .u8)], [.bool], fun (x : DS1 × (List Int) × (List Int) × Int × Int × Unit) => m5 x.1 x.2.1 x.2.2.1 x.2.2.2.1 x.2.2.2.2.1⟩
theorem oki5 : POk Try.prog (gx gtab) i5 := pok mixed (cfg_p oki15 (cfg_p oki19 (cfg_p oki20 (cfg_p oki21 (cfg_p oki22 (cfg_p oki23 (cfg_p oki24 (cfg_p oki9 (cfg_h okh10 (cfg_h okh18 (cfg_nil _ _)))))))))) : CfgOk _ cfg5) F5 eqn5
/- 62 treaty/treatymade2.Entry -/
def r62_0 : List Ins := [qI 2 (.alloc 92 (.agg #[.int .i64 0, .int .i64 0, .int .i64 0, .int .i64 0, .int .i64 0]))]
def r62_1 : List Ins := [qI 4 (.mov 0), qI 5 (.call (.fn 32) [4, (kI 5)]), qI 6 (.bin .add (kI 1) 5), qI 7 (.mov 0), qI 8 (.call (.fn 32) [7, (kI 4)]), qI 9 (.mov 0), qI 10 (.call (.fn 32) [9, (kI 4)]), qI 11 (.mov 0), qI 12 (.call (.fn 32) [11, (kI 400)]), qI 13 (.bin .sub 12 (kI 200)), qI 14 (.build [.int .i64 0, .int .i64 0, .int .i64 0, .int .i64 0, .int .i64 0] [(0, 1, 6), (1, 1, 8), (2, 1, 10), (4, 1, 13)]), qI 3 (.alloc 92 (.agg #[.int .i64 0, .int .i64 0, .int .i64 0, .int .i64 0, .int .i64 0])), qN (.store 5 3 14)]
def r62_2 : List Ins := [qI 15 (.faddr 0 3), qI 16 (.load 1 false 15), qI 17 (.bin .leq 16 (kI 2))]
def r62_3 : List Ins := [qI 18 (.mov 0), qI 19 (.call (.fn 32) [18, (kI 3)]), qI 20 (.bin .add (kI 1) 19), qI 21 (.faddr 3 3), qN (.store 1 21 20)]
def r62_4 : List Ins := [qI 22 (.mov 0), qI 23 (.call (.fn 32) [22, (kI 8)]), qI 24 (.bin .eql 23 (kI 0))]
def r62_5 : List Ins := [qI 25 (.mov 0), qI 26 (.call (.fn 32) [25, (kI 68719476736)]), qI 27 (.bin .sub 26 (kI 34359738368)), qI 28 (.faddr 4 3), qN (.store 1 28 27)]
def r62_6 : List Ins := [qI 29 (.load 5 true 3), qN (.store 5 2 29)]
def x62 : XC := (.seq (.ops false r62_0) (.seq (.ops false r62_1) (.seq (.seq (.ops false r62_2) (.cond (.t 17) (.ops false r62_3) .skip)) (.seq (.seq (.ops false r62_4) (.cond (.t 24) (.ops false r62_5) .skip)) (.seq (.ops false r62_6) .ret)))))
theorem F62 : Fn Try.prog 62 30 x62.er [.c 2 5 true] := ⟨Try.f62, hcl, Try.func62, by kernel_rfl, by kernel_rfl, by kernel_rfl, by kernel_rfl⟩
noncomputable def m62 (a0 : List Int) (a1 : Int) : Option (Int × Int × Int × Int × Int × (List Int) × Int × Unit) :=
 (m32 5 a0 a1).bind fun y621 =>
 (m32 4 y621.2.1 y621.2.2.1).bind fun y622 =>
 (m32 4 y622.2.1 y622.2.2.1).bind fun y623 =>
 (m32 400 y623.2.1 y623.2.2.1).bind fun y624 =>
 cond (iLe (iAdd .i64 1 y621.1) 2)
 ((m32 3 y624.2.1 y624.2.2.1).bind fun y625 =>
 (m32 8 y625.2.1 y625.2.2.1).bind fun y626 =>
 cond (iEq y626.1 0)
 ((m32 68719476736 y626.2.1 y626.2.2.1).bind fun y627 =>
 some (iAdd .i64 1 y621.1, y622.1, y623.1, iAdd .i64 1 y625.1, iSub .i64 y627.1 34359738368, y627.2.1, y627.2.2.1, ()))
 (some (iAdd .i64 1 y621.1, y622.1, y623.1, iAdd .i64 1 y625.1, iSub .i64 y624.1 200, y626.2.1, y626.2.2.1, ())))
 ((m32 8 y624.2.1 y624.2.2.1).bind fun y628 =>
 cond (iEq y628.1 0)
 ((m32 68719476736 y628.2.1 y628.2.2.1).bind fun y629 =>
 some (iAdd .i64 1 y621.1, y622.1, y623.1, 0, iSub .i64 y629.1 34359738368, y629.2.1, y629.2.2.1, ()))
 (some (iAdd .i64 1 y621.1, y622.1, y623.1, 0, iSub .i64 y624.1 200, y628.2.1, y628.2.2.1, ())))
noncomputable def cfg62 : Cfg := ⟨ttab, gtab, [], [h32]⟩
def ish62 : Sh := ⟨1, [], [(0, .ptr 0 0 0)], [.box 98 [.d (.list (.int .i64)), .d (.int .i64)]]⟩
def osh62 : Sh := ⟨1, [], [(0, .agg [.d (.int .i64), .d (.int .i64), .d (.int .i64), .d (.int .i64), .d (.int .i64)])], [.box 98 [.d (.list (.int .i64)), .d (.int .i64)]]⟩
theorem eqn62 (x : (List Int) × Int × Unit) : xfunH cfg62 x62 30 [.c 2 5 true] [] ish62 osh62 x = m62 x.1 x.2.1 := by kernel_rfl
noncomputable def h62 : HI := ⟨62, ish62, osh62, fun (x : (List Int) × Int × Unit) => m62 x.1 x.2.1⟩
theorem okh62 : HOk Try.prog (gx gtab) h62 := hok mixed (cfg_h okh32 (cfg_nil _ _) : CfgOk _ cfg62) F62 eqn62
/- 52 treaty/treatymade2.Entries -/
def r52_0 : List Ins := [qI 4 (.mov kN)]
def r52_1 : List Ins := [qI 5 (.mov kN)]
def r52_2 : List Ins := [qI 7 (.mov 0), qI 8 (.mov 1), qI 9 (.bin .add 8 (kI 1)), qI 10 (.call (.fn 32) [7, 9]), qI 6 (.mov 10)]
def r52_3 : List Ins := [qI 11 (.mov 6), qI 12 (.bin .gtr 11 (kI 0))]
def r52_4 : List Ins := [qI 15 (.mov 5), qI 16 (.mov 0), qI 17 (.call (.fn 62) [16]), qI 18 (.bslice 92 5 [17]), qI 19 (.app 92 5 40 15 18), qI 5 (.mov 19)]
def r52_5 : List Ins := [qI 13 (.mov 6), qI 14 (.bin .sub 13 (kI 1)), qI 6 (.mov 14)]
def r52_6 : List Ins := [qI 20 (.mov 5), qI 4 (.mov 20)]
def x52 : XC := (.seq (.ops false r52_0) (.seq (.ops false r52_1) (.seq (.seq (.ops false r52_2) (.block 0 (.loop [.gh 5 92 tS5] ⟨21, [(6, (.int .i64))], [(0, .ptr 0 0 0), (5, .row 1)], [.box 98 [.d (.list (.int .i64)), .d (.int .i64)], .row 92 tS5 false]⟩ (.seq (.seq (.ops false r52_3) (.cond (.t 12) .skip (.exit 0))) (.seq (.block 1 (.ops false r52_4)) (.ops false r52_5)))))) (.seq (.ops false r52_6) .ret))))
theorem F52 : Fn Try.prog 52 21 x52.er [.t 4] := ⟨Try.f52, hcl, Try.func52, by kernel_rfl, by kernel_rfl, by kernel_rfl, by kernel_rfl⟩
noncomputable def m52 (a0 : Int) (a1 : List Int) (a2 : Int) : Option ((List Int) × Int × (List DS5) × Unit) :=
 (m32 (iAdd .i64 a0 1) a1 a2).bind fun y634 =>
 loopO (S := Int × (List Int) × Int × (List DS5) × Unit) (R := (List Int) × Int × (List DS5) × Unit) (fun s635 =>
 cond (iLt 0 s635.1)
 ((m62 s635.2.1 s635.2.2.1).bind fun y636 =>
 cond (fits (List.length s635.2.2.2.1 + List.length ([(y636.1, y636.2.1, y636.2.2.1, y636.2.2.2.1, y636.2.2.2.2.1, ())] : List DS5)) 40)
 (some (.inl (iSub .i64 s635.1 1, y636.2.2.2.2.2.1, y636.2.2.2.2.2.2.1, s635.2.2.2.1 ++ ([(y636.1, y636.2.1, y636.2.2.1, y636.2.2.2.1, y636.2.2.2.2.1, ())] : List DS5), ()))) none)
 (some (.inr (s635.2.1, s635.2.2.1, s635.2.2.2.1, ()))))
 (y634.1, y634.2.1, y634.2.2.1, ([] : List DS5), ())
noncomputable def cfg52 : Cfg := ⟨ttab, gtab, [], [h32, h62]⟩
def ish52 : Sh := ⟨2, [(1, (.int .i64))], [(0, .ptr 0 0 0)], [.box 98 [.d (.list (.int .i64)), .d (.int .i64)]]⟩
def osh52 : Sh := ⟨1, [], [(0, .row 1)], [.box 98 [.d (.list (.int .i64)), .d (.int .i64)], .row 92 tS5 false]⟩
theorem eqn52 (x : Int × (List Int) × Int × Unit) : xfunH cfg52 x52 21 [.t 4] [.gh 4 92 tS5] ish52 osh52 x = m52 x.1 x.2.1 x.2.2.1 := by kernel_rfl
noncomputable def h52 : HI := ⟨52, ish52, osh52, fun (x : Int × (List Int) × Int × Unit) => m52 x.1 x.2.1 x.2.2.1⟩
theorem okh52 : HOk Try.prog (gx gtab) h52 := hok mixed (cfg_h okh32 (cfg_h okh62 (cfg_nil _ _)) : CfgOk _ cfg52) F52 eqn52
/- 25 treaty/treatylaw40.bordereau -/
def r25_0 : List Ins := [qI 2 (.alloc 50 (.agg #[.int .i64 0, .int .i64 0, .int .i64 0, .slice none 0 0]))]
def r25_1 : List Ins := [qI 6 (.mov 0), qI 7 (.call (.fn 32) [6, (kI 300)]), qI 8 (.mov 0), qI 9 (.call (.fn 32) [8, (kI 16)]), qI 10 (.mov 0), qI 11 (.call (.fn 32) [10, (kI 200)]), qI 12 (.build [.int .i64 0, .int .i64 0, .int .i64 0, .slice none 0 0] [(0, 1, 7), (1, 1, 9), (2, 1, 11)]), qI 3 (.alloc 50 (.agg #[.int .i64 0, .int .i64 0, .int .i64 0, .slice none 0 0])), qN (.store 4 3 12)]
def r25_2 : List Ins := [qI 13 (.mov 0), qI 14 (.call (.fn 52) [13, (kI 10)]), qI 15 (.len 14), qI 16 (.mov (kI 0))]
def r25_3 : List Ins := [qI 17 (.bin .lss 16 15)]
def r25_4 : List Ins := [qI 18 (.mov 16), qI 19 (.iaddr 5 14 16), qI 20 (.load 5 true 19), qI 5 (.alloc 92 (.agg #[.int .i64 0, .int .i64 0, .int .i64 0, .int .i64 0, .int .i64 0])), qI 4 (.mov 18), qN (.store 5 5 20)]
def r25_5 : List Ins := [qI 21 (.faddr 1 3), qI 22 (.load 1 false 21), qI 23 (.faddr 2 5), qN (.store 1 23 22)]
def r25_6 : List (Nat × Ins) := [(0, qI 24 (.faddr 3 3)),
(1, qI 25 (.load 1 false 24)),
(0, qI 26 (.mov 4)),
(0, qI 27 (.mov 0)),
(2, qI 28 (.call (.fn 32) [27, (kI 400)])),
(0, qI 29 (.bin .add 26 28)),
(0, qI 30 (.mov 0)),
(2, qI 31 (.call (.fn 32) [30, (kI 5)])),
(1, qI 32 (.load 5 true 5)),
(0, qI 33 (.build [.int .i64 0, .int .i64 0, .int .i64 0, .int .i64 0, .int .i64 0, .int .i64 0, .int .i64 0] [(0, 1, 29), (1, 1, 31), (2, 5, 32)])),
(2, qI 34 (.bslice 94 7 [33])),
(0, qI 35 (.app 94 7 56 25 34)),
(0, qI 36 (.faddr 3 3)),
(0, qN (.store 1 36 35))]
def r25_7 : List Ins := [qI 37 (.bin .add 16 (kI 1)), qI 16 (.mov 37)]
def r25_8 : List Ins := [qI 38 (.load 4 true 3), qN (.store 4 2 38)]
def x25 : XC := (.seq (.ops false r25_0) (.seq (.ops false r25_1) (.seq (.seq (.ops false r25_2) (.block 0 (.loop [.ghc 3 3 94 tS6] ⟨39, [(15, (.int .i64)), (16, (.int .i64))], [(0, .ptr 0 0 0), (2, .ptr 1 0 0), (3, .ptr 2 0 0), (14, .row 3)], [.box 98 [.d (.list (.int .i64)), .d (.int .i64)], .box 50 [.d (.int .i64), .d (.int .i64), .d (.int .i64), .nil], .box 50 [.d (.int .i64), .d (.int .i64), .d (.int .i64), .row 4], .row 92 tS5 false, .row 94 tS6 false]⟩ (.seq (.ops false r25_3) (.seq (.cond (.t 17) .skip (.exit 0)) (.seq (.block 1 (.seq (.ops false r25_4) (.seq (.ops false r25_5) (.rops [0] r25_6)))) (.ops false r25_7))))))) (.seq (.ops false r25_8) .ret))))
theorem F25 : Fn Try.prog 25 39 x25.er [.c 2 4 true] := ⟨Try.f25, hcl, Try.func25, by kernel_rfl, by kernel_rfl, by kernel_rfl, by kernel_rfl⟩
noncomputable def m25 (a0 : List Int) (a1 : Int) : Option (Int × Int × Int × (List Int) × Int × (List DS6) × Unit) :=
 (m32 300 a0 a1).bind fun y648 =>
 (m32 16 y648.2.1 y648.2.2.1).bind fun y649 =>
 (m32 200 y649.2.1 y649.2.2.1).bind fun y650 =>
 (m52 10 y650.2.1 y650.2.2.1).bind fun y651 =>
 loopO (S := Int × Int × (List Int) × Int × Int × Int × Int × Int × Int × Int × (List DS5) × (List DS6) × Unit) (R := Int × Int × Int × (List Int) × Int × (List DS6) × Unit) (fun s652 =>
 cond (iLt s652.2.1 s652.1)
 (cond (bnd s652.2.1 (lenI s652.2.2.2.2.2.2.2.2.2.2.1))
 (cond (inB (Int.toNat s652.2.1) s652.2.2.2.2.2.2.2.2.2.2.1)
 ((m32 400 s652.2.2.1 s652.2.2.2.1).bind fun y653 =>
 (m32 5 y653.2.1 y653.2.2.1).bind fun y654 =>
 cond (fits (List.length s652.2.2.2.2.2.2.2.2.2.2.2.1 + List.length ([(iAdd .i64 s652.2.1 y653.1, y654.1, ((List.getD s652.2.2.2.2.2.2.2.2.2.2.1 (Int.toNat s652.2.1) (0, 0, 0, 0, 0, ())).1, (List.getD s652.2.2.2.2.2.2.2.2.2.2.1 (Int.toNat s652.2.1) (0, 0, 0, 0, 0, ())).2.1, s652.2.2.2.2.2.2.2.2.1, (List.getD s652.2.2.2.2.2.2.2.2.2.2.1 (Int.toNat s652.2.1) (0, 0, 0, 0, 0, ())).2.2.2.1, (List.getD s652.2.2.2.2.2.2.2.2.2.2.1 (Int.toNat s652.2.1) (0, 0, 0, 0, 0, ())).2.2.2.2.1, ()), ())] : List DS6)) 56)
 (some (.inl (s652.1, iAdd .i64 s652.2.1 1, y654.2.1, y654.2.2.1, s652.2.2.2.2.1, s652.2.2.2.2.2.1, s652.2.2.2.2.2.2.1, s652.2.2.2.2.2.2.2.1, s652.2.2.2.2.2.2.2.2.1, s652.2.2.2.2.2.2.2.2.2.1, s652.2.2.2.2.2.2.2.2.2.2.1, s652.2.2.2.2.2.2.2.2.2.2.2.1 ++ ([(iAdd .i64 s652.2.1 y653.1, y654.1, ((List.getD s652.2.2.2.2.2.2.2.2.2.2.1 (Int.toNat s652.2.1) (0, 0, 0, 0, 0, ())).1, (List.getD s652.2.2.2.2.2.2.2.2.2.2.1 (Int.toNat s652.2.1) (0, 0, 0, 0, 0, ())).2.1, s652.2.2.2.2.2.2.2.2.1, (List.getD s652.2.2.2.2.2.2.2.2.2.2.1 (Int.toNat s652.2.1) (0, 0, 0, 0, 0, ())).2.2.2.1, (List.getD s652.2.2.2.2.2.2.2.2.2.2.1 (Int.toNat s652.2.1) (0, 0, 0, 0, 0, ())).2.2.2.2.1, ()), ())] : List DS6), ()))) none) none) none)
 (some (.inr (s652.2.2.2.2.2.2.2.1, s652.2.2.2.2.2.2.2.2.1, s652.2.2.2.2.2.2.2.2.2.1, s652.2.2.1, s652.2.2.2.1, s652.2.2.2.2.2.2.2.2.2.2.2.1, ()))))
 (lenI y651.2.2.1, 0, y651.1, y651.2.1, 0, 0, 0, y648.1, y649.1, y650.1, y651.2.2.1, ([] : List DS6), ())
noncomputable def cfg25 : Cfg := ⟨ttab, gtab, [], [h32, h52]⟩
def ish25 : Sh := ⟨1, [], [(0, .ptr 0 0 0)], [.box 98 [.d (.list (.int .i64)), .d (.int .i64)]]⟩
def osh25 : Sh := ⟨1, [], [(0, .agg [.d (.int .i64), .d (.int .i64), .d (.int .i64), .row 1])], [.box 98 [.d (.list (.int .i64)), .d (.int .i64)], .row 94 tS6 false]⟩
theorem eqn25 (x : (List Int) × Int × Unit) : xfunH cfg25 x25 39 [.c 2 4 true] [.ghc 2 3 94 tS6] ish25 osh25 x = m25 x.1 x.2.1 := by kernel_rfl
noncomputable def h25 : HI := ⟨25, ish25, osh25, fun (x : (List Int) × Int × Unit) => m25 x.1 x.2.1⟩
theorem okh25 : HOk Try.prog (gx gtab) h25 := hok mixed (cfg_h okh32 (cfg_h okh52 (cfg_nil _ _)) : CfgOk _ cfg25) F25 eqn25
/- 26 treaty/codec.EncodeBordereau -/
def r26_0 : List Ins := [qI 1 (.box 50 4 0), qI 2 (.mov kN), qI 3 (.mov (kI 0))]
def r26_1 : List Ins := [qI 7 (.faddr 3 1), qI 8 (.load 1 false 7), qI 9 (.len 8), qI 10 (.bin .gtr 9 (kI 64))]
def r26_2 : List Ins := [qI 2 (.mov kN), qI 3 (.mov (kI 4))]
def r26_3 : List Ins := [qI 11 (.faddr 0 1), qI 12 (.load 1 false 11), qI 13 (.faddr 1 1), qI 14 (.load 1 false 13), qI 15 (.faddr 2 1), qI 16 (.load 1 false 15), qI 17 (.faddr 3 1), qI 18 (.load 1 false 17), qI 19 (.len 18), qI 20 (.bslice 3 1 [12, 14, 16, 19]), qI 4 (.mov 20)]
def r26_4 : List Ins := [qI 21 (.faddr 3 1), qI 22 (.load 1 false 21), qI 23 (.len 22), qI 24 (.mov (kI 0))]
def r26_5 : List Ins := [qI 25 (.bin .lss 24 23)]
def r26_6 : List Ins := [qI 26 (.iaddr 7 22 24), qI 27 (.load 7 true 26), qI 6 (.alloc 94 (.agg #[.int .i64 0, .int .i64 0, .int .i64 0, .int .i64 0, .int .i64 0, .int .i64 0, .int .i64 0])), qN (.store 7 6 27)]
def r26_7 : List Ins := [qI 28 (.faddr 2 6), qI 29 (.faddr 2 28), qI 30 (.load 1 false 29), qI 31 (.faddr 1 1), qI 32 (.load 1 false 31), qI 33 (.bin .neq 30 32)]
def r26_8 : List Ins := [qI 2 (.mov kN), qI 3 (.mov (kI 20))]
def r26_9 : List Ins := [qI 34 (.mov 4), qI 35 (.faddr 0 6), qI 36 (.load 1 false 35), qI 37 (.faddr 1 6), qI 38 (.load 1 false 37), qI 39 (.faddr 2 6), qI 40 (.faddr 0 39), qI 41 (.load 1 false 40), qI 42 (.faddr 2 6), qI 43 (.faddr 1 42), qI 44 (.load 1 false 43), qI 45 (.faddr 2 6), qI 46 (.faddr 3 45), qI 47 (.load 1 false 46), qI 48 (.faddr 2 6), qI 49 (.faddr 4 48), qI 50 (.load 1 false 49), qI 51 (.bslice 3 1 [36, 38, 41, 44, 47, 50]), qI 52 (.app 3 1 8 34 51), qI 4 (.mov 52)]
def r26_10 : List Ins := [qI 53 (.bin .add 24 (kI 1)), qI 24 (.mov 53)]
def r26_11 : List Ins := [qI 54 (.mov 4), qI 55 (.call (.fn 41) [54]), qI 56 (.ext 0 55), qI 57 (.ext 1 55), qI 2 (.mov 56), qI 3 (.mov 57)]
def x26 : XC := (.seq (.ops false r26_0) (.seq (.seq (.ops false r26_1) (.cond (.t 10) (.seq (.ops false r26_2) .ret) .skip)) (.seq (.ops false r26_3) (.seq (.seq (.ops false r26_4) (.block 0 (.loop [] ⟨58, [(22, (.list tS6)), (23, (.int .i64)), (24, (.int .i64))], [(1, .ptr 0 0 0), (4, .row 1)], [.box 50 [.d (.int .i64), .d (.int .i64), .d (.int .i64), .d (.list tS6)], .row 3 (.int .i64) false]⟩ (.seq (.ops false r26_5) (.seq (.cond (.t 25) .skip (.exit 0)) (.seq (.block 1 (.seq (.ops false r26_6) (.seq (.seq (.ops false r26_7) (.cond (.t 33) (.seq (.ops false r26_8) .ret) .skip)) (.ops false r26_9)))) (.ops false r26_10))))))) (.seq (.ops false r26_11) .ret)))))
theorem F26 : Fn Try.prog 26 58 x26.er [.t 2, .t 3] := ⟨Try.f26, hcl, Try.func26, by kernel_rfl, by kernel_rfl, by kernel_rfl, by kernel_rfl⟩
noncomputable def m26 (a0 : DS7) : Option ((List Int) × Int × Unit) :=
 cond (iLt 64 (lenI a0.2.2.2.1))
 (some (([] : List Int), 4, ()))
 (loopO (S := (List DS6) × Int × Int × Int × Int × Int × (List DS6) × (List Int) × Unit) (R := (List Int) × Int × Unit) (fun s659 =>
 cond (iLt s659.2.2.1 s659.2.1)
 (cond (bnd s659.2.2.1 (lenI s659.1))
 (cond (iNe (((atI s659.1 s659.2.2.1 (0, 0, (0, 0, 0, 0, 0, ()), ())).2.2.1).2.2.1) s659.2.2.2.2.1)
 (some (.inr (([] : List Int), 20, ())))
 (cond (fits (List.length s659.2.2.2.2.2.2.2.1 + List.length ([(atI s659.1 s659.2.2.1 (0, 0, (0, 0, 0, 0, 0, ()), ())).1, (atI s659.1 s659.2.2.1 (0, 0, (0, 0, 0, 0, 0, ()), ())).2.1, ((atI s659.1 s659.2.2.1 (0, 0, (0, 0, 0, 0, 0, ()), ())).2.2.1).1, ((atI s659.1 s659.2.2.1 (0, 0, (0, 0, 0, 0, 0, ()), ())).2.2.1).2.1, ((atI s659.1 s659.2.2.1 (0, 0, (0, 0, 0, 0, 0, ()), ())).2.2.1).2.2.2.1, ((atI s659.1 s659.2.2.1 (0, 0, (0, 0, 0, 0, 0, ()), ())).2.2.1).2.2.2.2.1] : List Int)) 8)
 (some (.inl (s659.1, s659.2.1, iAdd .i64 s659.2.2.1 1, s659.2.2.2.1, s659.2.2.2.2.1, s659.2.2.2.2.2.1, s659.2.2.2.2.2.2.1, s659.2.2.2.2.2.2.2.1 ++ ([(atI s659.1 s659.2.2.1 (0, 0, (0, 0, 0, 0, 0, ()), ())).1, (atI s659.1 s659.2.2.1 (0, 0, (0, 0, 0, 0, 0, ()), ())).2.1, ((atI s659.1 s659.2.2.1 (0, 0, (0, 0, 0, 0, 0, ()), ())).2.2.1).1, ((atI s659.1 s659.2.2.1 (0, 0, (0, 0, 0, 0, 0, ()), ())).2.2.1).2.1, ((atI s659.1 s659.2.2.1 (0, 0, (0, 0, 0, 0, 0, ()), ())).2.2.1).2.2.2.1, ((atI s659.1 s659.2.2.1 (0, 0, (0, 0, 0, 0, 0, ()), ())).2.2.1).2.2.2.2.1] : List Int), ()))) none)) none)
 (Option.map Sum.inr ((m41 s659.2.2.2.2.2.2.2.1).bind fun y660 =>
 some (y660.1, y660.2.1, ()))))
 (a0.2.2.2.1, lenI a0.2.2.2.1, 0, a0.1, a0.2.1, a0.2.2.1, a0.2.2.2.1, ([a0.1, a0.2.1, a0.2.2.1, lenI a0.2.2.2.1] : List Int), ()))
noncomputable def cfg26 : Cfg := ⟨ttab, gtab, [i41], []⟩
theorem eqn26 (x : DS7 × Unit) : xfun cfg26 x26 58 [.t 2, .t 3] [tS7] [(.list (.int .u8)), (.int .i64)] x = m26 x.1 := by kernel_rfl
noncomputable def i26 : PI := ⟨26, [tS7], [(.list (.int .u8)), (.int .i64)], fun (x : DS7 × Unit) => m26 x.1⟩
theorem oki26 : POk Try.prog (gx gtab) i26 := pok mixed (cfg_p oki41 (cfg_nil _ _) : CfgOk _ cfg26) F26 eqn26
/- 27 treaty/treatyref40.EncodeBordereau -/
def r27_0 : List Ins := [qI 1 (.box 50 4 0), qI 2 (.mov kN), qI 3 (.mov (kI 0))]
def r27_1 : List Ins := [qI 7 (.faddr 3 1), qI 8 (.load 1 false 7), qI 9 (.len 8), qI 10 (.bin .gtr 9 (kI 64))]
def r27_2 : List Ins := [qI 2 (.mov kN), qI 3 (.mov (kI 4))]
def r27_3 : List Ins := [qI 11 (.faddr 0 1), qI 12 (.load 1 false 11), qI 13 (.faddr 1 1), qI 14 (.load 1 false 13), qI 15 (.faddr 2 1), qI 16 (.load 1 false 15), qI 17 (.faddr 3 1), qI 18 (.load 1 false 17), qI 19 (.len 18), qI 20 (.bslice 3 1 [12, 14, 16, 19]), qI 4 (.mov 20)]
def r27_4 : List Ins := [qI 21 (.faddr 3 1), qI 22 (.load 1 false 21), qI 23 (.len 22), qI 24 (.mov (kI 0))]
def r27_5 : List Ins := [qI 25 (.bin .lss 24 23)]
def r27_6 : List Ins := [qI 26 (.iaddr 7 22 24), qI 27 (.load 7 true 26), qI 6 (.alloc 94 (.agg #[.int .i64 0, .int .i64 0, .int .i64 0, .int .i64 0, .int .i64 0, .int .i64 0, .int .i64 0])), qN (.store 7 6 27)]
def r27_7 : List Ins := [qI 28 (.faddr 2 6), qI 29 (.faddr 2 28), qI 30 (.load 1 false 29), qI 31 (.faddr 1 1), qI 32 (.load 1 false 31), qI 33 (.bin .neq 30 32)]
def r27_8 : List Ins := [qI 2 (.mov kN), qI 3 (.mov (kI 20))]
def r27_9 : List Ins := [qI 34 (.mov 4), qI 35 (.faddr 0 6), qI 36 (.load 1 false 35), qI 37 (.faddr 1 6), qI 38 (.load 1 false 37), qI 39 (.faddr 2 6), qI 40 (.faddr 0 39), qI 41 (.load 1 false 40), qI 42 (.faddr 2 6), qI 43 (.faddr 1 42), qI 44 (.load 1 false 43), qI 45 (.faddr 2 6), qI 46 (.faddr 3 45), qI 47 (.load 1 false 46), qI 48 (.faddr 2 6), qI 49 (.faddr 4 48), qI 50 (.load 1 false 49), qI 51 (.bslice 3 1 [36, 38, 41, 44, 47, 50]), qI 52 (.app 3 1 8 34 51), qI 4 (.mov 52)]
def r27_10 : List Ins := [qI 53 (.bin .add 24 (kI 1)), qI 24 (.mov 53)]
def r27_11 : List Ins := [qI 54 (.mov 4), qI 55 (.call (.fn 43) [54]), qI 56 (.ext 0 55), qI 57 (.ext 1 55), qI 2 (.mov 56), qI 3 (.mov 57)]
def x27 : XC := (.seq (.ops false r27_0) (.seq (.seq (.ops false r27_1) (.cond (.t 10) (.seq (.ops false r27_2) .ret) .skip)) (.seq (.ops false r27_3) (.seq (.seq (.ops false r27_4) (.block 0 (.loop [] ⟨58, [(22, (.list tS6)), (23, (.int .i64)), (24, (.int .i64))], [(1, .ptr 0 0 0), (4, .row 1)], [.box 50 [.d (.int .i64), .d (.int .i64), .d (.int .i64), .d (.list tS6)], .row 3 (.int .i64) false]⟩ (.seq (.ops false r27_5) (.seq (.cond (.t 25) .skip (.exit 0)) (.seq (.block 1 (.seq (.ops false r27_6) (.seq (.seq (.ops false r27_7) (.cond (.t 33) (.seq (.ops false r27_8) .ret) .skip)) (.ops false r27_9)))) (.ops false r27_10))))))) (.seq (.ops false r27_11) .ret)))))
theorem F27 : Fn Try.prog 27 58 x27.er [.t 2, .t 3] := ⟨Try.f27, hcl, Try.func27, by kernel_rfl, by kernel_rfl, by kernel_rfl, by kernel_rfl⟩
noncomputable def m27 (a0 : DS7) : Option ((List Int) × Int × Unit) :=
 cond (iLt 64 (lenI a0.2.2.2.1))
 (some (([] : List Int), 4, ()))
 (loopO (S := (List DS6) × Int × Int × Int × Int × Int × (List DS6) × (List Int) × Unit) (R := (List Int) × Int × Unit) (fun s664 =>
 cond (iLt s664.2.2.1 s664.2.1)
 (cond (bnd s664.2.2.1 (lenI s664.1))
 (cond (iNe (((atI s664.1 s664.2.2.1 (0, 0, (0, 0, 0, 0, 0, ()), ())).2.2.1).2.2.1) s664.2.2.2.2.1)
 (some (.inr (([] : List Int), 20, ())))
 (cond (fits (List.length s664.2.2.2.2.2.2.2.1 + List.length ([(atI s664.1 s664.2.2.1 (0, 0, (0, 0, 0, 0, 0, ()), ())).1, (atI s664.1 s664.2.2.1 (0, 0, (0, 0, 0, 0, 0, ()), ())).2.1, ((atI s664.1 s664.2.2.1 (0, 0, (0, 0, 0, 0, 0, ()), ())).2.2.1).1, ((atI s664.1 s664.2.2.1 (0, 0, (0, 0, 0, 0, 0, ()), ())).2.2.1).2.1, ((atI s664.1 s664.2.2.1 (0, 0, (0, 0, 0, 0, 0, ()), ())).2.2.1).2.2.2.1, ((atI s664.1 s664.2.2.1 (0, 0, (0, 0, 0, 0, 0, ()), ())).2.2.1).2.2.2.2.1] : List Int)) 8)
 (some (.inl (s664.1, s664.2.1, iAdd .i64 s664.2.2.1 1, s664.2.2.2.1, s664.2.2.2.2.1, s664.2.2.2.2.2.1, s664.2.2.2.2.2.2.1, s664.2.2.2.2.2.2.2.1 ++ ([(atI s664.1 s664.2.2.1 (0, 0, (0, 0, 0, 0, 0, ()), ())).1, (atI s664.1 s664.2.2.1 (0, 0, (0, 0, 0, 0, 0, ()), ())).2.1, ((atI s664.1 s664.2.2.1 (0, 0, (0, 0, 0, 0, 0, ()), ())).2.2.1).1, ((atI s664.1 s664.2.2.1 (0, 0, (0, 0, 0, 0, 0, ()), ())).2.2.1).2.1, ((atI s664.1 s664.2.2.1 (0, 0, (0, 0, 0, 0, 0, ()), ())).2.2.1).2.2.2.1, ((atI s664.1 s664.2.2.1 (0, 0, (0, 0, 0, 0, 0, ()), ())).2.2.1).2.2.2.2.1] : List Int), ()))) none)) none)
 (Option.map Sum.inr ((m43 s664.2.2.2.2.2.2.2.1).bind fun y665 =>
 some (y665.1, y665.2.1, ()))))
 (a0.2.2.2.1, lenI a0.2.2.2.1, 0, a0.1, a0.2.1, a0.2.2.1, a0.2.2.2.1, ([a0.1, a0.2.1, a0.2.2.1, lenI a0.2.2.2.1] : List Int), ()))
noncomputable def cfg27 : Cfg := ⟨ttab, gtab, [i43], []⟩
theorem eqn27 (x : DS7 × Unit) : xfun cfg27 x27 58 [.t 2, .t 3] [tS7] [(.list (.int .u8)), (.int .i64)] x = m27 x.1 := by kernel_rfl
noncomputable def i27 : PI := ⟨27, [tS7], [(.list (.int .u8)), (.int .i64)], fun (x : DS7 × Unit) => m27 x.1⟩
theorem oki27 : POk Try.prog (gx gtab) i27 := pok mixed (cfg_p oki43 (cfg_nil _ _) : CfgOk _ cfg27) F27 eqn27
/- 28 treaty/codec.DecodeBordereau -/
def r28_0 : List Ins := [qI 2 (.alloc 50 (.agg #[.int .i64 0, .int .i64 0, .int .i64 0, .slice none 0 0])), qI 3 (.mov (kI 0))]
def r28_1 : List Ins := [qI 11 (.mov 0), qI 12 (.build [.slice none 0 0, .int .i64 0] [(0, 1, 11)]), qI 4 (.alloc 80 (.agg #[.slice none 0 0, .int .i64 0])), qN (.store 2 4 12)]
def r28_2 : List Ins := [qI 5 (.alloc 50 (.agg #[.int .i64 0, .int .i64 0, .int .i64 0, .slice none 0 0]))]
def r28_3 : List Ins := [qI 13 (.call (.fn 44) [4]), qI 14 (.faddr 0 5), qN (.store 1 14 13)]
def r28_4 : List Ins := [qI 15 (.call (.fn 44) [4]), qI 16 (.faddr 1 5), qN (.store 1 16 15)]
def r28_5 : List Ins := [qI 17 (.call (.fn 44) [4]), qI 18 (.faddr 2 5), qN (.store 1 18 17)]
def r28_6 : List Ins := [qI 19 (.call (.fn 53) [4, (kI 64)]), qI 6 (.mov 19)]
def r28_7 : List Ins := [qI 20 (.mov 6), qI 21 (.bin .gtr 20 (kI 0)), qI 22 (.mov 21), qT 23 22 (.faddr 1 4), qT 24 22 (.load 1 false 23), qT 25 22 (.bin .eql 24 (kI 0)), qI 26 (.pick 22 25 (.k (.bool false)))]
def r28_8 : List Ins := [qI 7 (.alloc 94 (.agg #[.int .i64 0, .int .i64 0, .int .i64 0, .int .i64 0, .int .i64 0, .int .i64 0, .int .i64 0]))]
def r28_9 : List Ins := [qI 29 (.faddr 1 5), qI 30 (.load 1 false 29), qI 31 (.faddr 2 7), qI 32 (.faddr 2 31), qN (.store 1 32 30)]
def r28_10 : List Ins := [qI 33 (.faddr 0 7), qI 34 (.faddr 1 7), qI 35 (.faddr 2 7), qI 36 (.faddr 0 35), qI 37 (.faddr 2 7), qI 38 (.faddr 1 37), qI 39 (.faddr 2 7), qI 40 (.faddr 3 39), qI 41 (.faddr 2 7), qI 42 (.faddr 4 41), qI 43 (.bvec 95 [33, 34, 36, 38, 40, 42]), qI 44 (.len 43), qI 45 (.mov (kI 0))]
def r28_11 : List Ins := [qI 46 (.bin .lss 45 44)]
def r28_12 : List Ins := [qI 47 (.iaddr 1 43 45), qI 48 (.load 1 false 47), qI 9 (.mov 48)]
def r28_13 : List Ins := [qI 49 (.mov 9), qI 50 (.call (.fn 44) [4]), qI 51 (.nck 49), qN (.store 1 51 50)]
def r28_14 : List Ins := [qI 52 (.bin .add 45 (kI 1)), qI 45 (.mov 52)]
def r28_15 : List Ins := [qI 53 (.faddr 3 5), qI 54 (.load 1 false 53), qI 55 (.load 7 true 7), qI 56 (.bslice 94 7 [55]), qI 57 (.app 94 7 56 54 56), qI 58 (.faddr 3 5), qN (.store 1 58 57)]
def r28_16 : List Ins := [qI 27 (.mov 6), qI 28 (.bin .sub 27 (kI 1)), qI 6 (.mov 28)]
def r28_17 : List Ins := [qI 59 (.call (.fn 46) [4]), qI 10 (.mov 59)]
def r28_18 : List Ins := [qI 60 (.mov 10), qI 61 (.bin .neq 60 (kI 0))]
def r28_19 : List Ins := [qI 62 (.build [.int .i64 0, .int .i64 0, .int .i64 0, .slice none 0 0] []), qI 63 (.mov 10), qN (.store 4 2 62), qI 3 (.mov 63)]
def r28_20 : List Ins := [qI 64 (.load 4 true 5), qN (.store 4 2 64), qI 3 (.mov (kI 0))]
def x28 : XC := (.seq (.ops false r28_0) (.seq (.ops false r28_1) (.seq (.ops false r28_2) (.seq (.ops false r28_3) (.seq (.ops false r28_4) (.seq (.ops false r28_5) (.seq (.seq (.ops false r28_6) (.block 0 (.loop [.ghc 5 3 94 tS6] ⟨65, [(6, (.int .i64))], [(2, .ptr 0 0 0), (4, .ptr 1 0 0), (5, .ptr 2 0 0)], [.box 50 [.d (.int .i64), .d (.int .i64), .d (.int .i64), .nil], .box 80 [.d (.list (.int .u8)), .d (.int .i64)], .box 50 [.d (.int .i64), .d (.int .i64), .d (.int .i64), .row 3], .row 94 tS6 false]⟩ (.seq (.seq (.ops false r28_7) (.cond (.t 26) .skip (.exit 0))) (.seq (.block 1 (.seq (.ops false r28_8) (.seq (.ops false r28_9) (.seq (.seq (.ops false r28_10) (.block 2 (.loopU 7 (.seq (.ops false r28_11) (.seq (.cond (.t 46) .skip (.exit 2)) (.seq (.block 3 (.seq (.ops false r28_12) (.ops false r28_13))) (.ops false r28_14))))))) (.ops false r28_15))))) (.ops false r28_16)))))) (.seq (.seq (.ops false r28_17) (.seq (.ops false r28_18) (.cond (.t 61) (.seq (.ops false r28_19) .ret) .skip))) (.seq (.ops false r28_20) .ret)))))))))
theorem F28 : Fn Try.prog 28 65 x28.er [.c 2 4 true, .t 3] := ⟨Try.f28, hcl, Try.func28, by kernel_rfl, by kernel_rfl, by kernel_rfl, by kernel_rfl⟩
noncomputable def m28 (a0 : List Int) : Option (DS7 × Int × Unit) :=
 (m44 a0 0).bind fun y683 =>
 (m44 y683.2.1 y683.2.2.1).bind fun y684 =>
 (m44 y684.2.1 y684.2.2.1).bind fun y685 =>
 (m53 64 y685.2.1 y685.2.2.1).bind fun y686 =>
 loopO (S := Int × Int × Int × Int × (List Int) × Int × Int × Int × Int × (List DS6) × Unit) (R := DS7 × Int × Unit) (fun s687 =>
 cond (cond (iLt 0 s687.1) (iEq s687.2.2.2.2.2.1 0) false)
 ((m44 s687.2.2.2.2.1 s687.2.2.2.2.2.1).bind fun y688 =>
 (m44 y688.2.1 y688.2.2.1).bind fun y689 =>
 (m44 y689.2.1 y689.2.2.1).bind fun y690 =>
 (m44 y690.2.1 y690.2.2.1).bind fun y691 =>
 (m44 y691.2.1 y691.2.2.1).bind fun y692 =>
 (m44 y692.2.1 y692.2.2.1).bind fun y693 =>
 cond (fits (List.length s687.2.2.2.2.2.2.2.2.2.1 + List.length ([(y688.1, y689.1, (y690.1, y691.1, s687.2.2.2.2.2.2.2.1, y692.1, y693.1, ()), ())] : List DS6)) 56)
 (some (.inl (iSub .i64 s687.1 1, s687.2.1, s687.2.2.1, s687.2.2.2.1, y693.2.1, y693.2.2.1, s687.2.2.2.2.2.2.1, s687.2.2.2.2.2.2.2.1, s687.2.2.2.2.2.2.2.2.1, s687.2.2.2.2.2.2.2.2.2.1 ++ ([(y688.1, y689.1, (y690.1, y691.1, s687.2.2.2.2.2.2.2.1, y692.1, y693.1, ()), ())] : List DS6), ()))) none)
 (Option.map Sum.inr ((m46 s687.2.2.2.2.1 s687.2.2.2.2.2.1).bind fun y694 =>
 cond (iNe y694.1 0)
 (some ((0, 0, 0, ([] : List DS6), ()), y694.1, ()))
 (some ((s687.2.2.2.2.2.2.1, s687.2.2.2.2.2.2.2.1, s687.2.2.2.2.2.2.2.2.1, s687.2.2.2.2.2.2.2.2.2.1, ()), 0, ())))))
 (y686.1, 0, 0, 0, y686.2.1, y686.2.2.1, y683.1, y684.1, y685.1, ([] : List DS6), ())
noncomputable def cfg28 : Cfg := ⟨ttab, gtab, [], [h44, h46, h53]⟩
theorem eqn28 (x : (List Int) × Unit) : xfun cfg28 x28 65 [.c 2 4 true, .t 3] [(.list (.int .u8))] [tS7, (.int .i64)] x = m28 x.1 := by kernel_rfl
noncomputable def i28 : PI := ⟨28, [(.list (.int .u8))], [tS7, (.int .i64)], fun (x : (List Int) × Unit) => m28 x.1⟩
theorem oki28 : POk Try.prog (gx gtab) i28 := pok mixed (cfg_h okh44 (cfg_h okh46 (cfg_h okh53 (cfg_nil _ _))) : CfgOk _ cfg28) F28 eqn28
/- 29 treaty/treatyref40.DecodeBordereau -/
def r29_0 : List Ins := [qI 2 (.alloc 50 (.agg #[.int .i64 0, .int .i64 0, .int .i64 0, .slice none 0 0])), qI 3 (.mov (kI 0))]
def r29_1 : List Ins := [qI 9 (.mov 0), qI 10 (.build [.slice none 0 0, .int .i64 0] [(0, 1, 9)]), qI 11 (.box 86 2 10), qI 4 (.mov 11)]
def r29_2 : List Ins := [qI 5 (.alloc 50 (.agg #[.int .i64 0, .int .i64 0, .int .i64 0, .slice none 0 0]))]
def r29_3 : List Ins := [qI 12 (.mov 4), qI 13 (.call (.fn 47) [12]), qI 14 (.faddr 0 5), qN (.store 1 14 13)]
def r29_4 : List Ins := [qI 15 (.mov 4), qI 16 (.call (.fn 47) [15]), qI 17 (.faddr 1 5), qN (.store 1 17 16)]
def r29_5 : List Ins := [qI 18 (.mov 4), qI 19 (.call (.fn 47) [18]), qI 20 (.faddr 2 5), qN (.store 1 20 19)]
def r29_6 : List Ins := [qI 21 (.mov 4), qI 22 (.call (.fn 48) [21, (kI 64)]), qI 6 (.mov 22)]
def r29_7 : List Ins := [qI 23 (.mov 6), qI 24 (.bin .gtr 23 (kI 0))]
def r29_8 : List Ins := [qI 7 (.alloc 94 (.agg #[.int .i64 0, .int .i64 0, .int .i64 0, .int .i64 0, .int .i64 0, .int .i64 0, .int .i64 0]))]
def r29_9 : List Ins := [qI 27 (.mov 4), qI 28 (.call (.fn 47) [27]), qI 29 (.faddr 0 7), qN (.store 1 29 28)]
def r29_10 : List Ins := [qI 30 (.mov 4), qI 31 (.call (.fn 47) [30]), qI 32 (.faddr 1 7), qN (.store 1 32 31)]
def r29_11 : List Ins := [qI 33 (.mov 4), qI 34 (.call (.fn 47) [33]), qI 35 (.faddr 2 7), qI 36 (.faddr 0 35), qN (.store 1 36 34)]
def r29_12 : List Ins := [qI 37 (.mov 4), qI 38 (.call (.fn 47) [37]), qI 39 (.faddr 2 7), qI 40 (.faddr 1 39), qN (.store 1 40 38)]
def r29_13 : List Ins := [qI 41 (.mov 4), qI 42 (.call (.fn 47) [41]), qI 43 (.faddr 2 7), qI 44 (.faddr 3 43), qN (.store 1 44 42)]
def r29_14 : List Ins := [qI 45 (.mov 4), qI 46 (.call (.fn 47) [45]), qI 47 (.faddr 2 7), qI 48 (.faddr 4 47), qN (.store 1 48 46)]
def r29_15 : List Ins := [qI 49 (.faddr 1 5), qI 50 (.load 1 false 49), qI 51 (.faddr 2 7), qI 52 (.faddr 2 51), qN (.store 1 52 50)]
def r29_16 : List Ins := [qI 53 (.faddr 3 5), qI 54 (.load 1 false 53), qI 55 (.load 7 true 7), qI 56 (.bslice 94 7 [55]), qI 57 (.app 94 7 56 54 56), qI 58 (.faddr 3 5), qN (.store 1 58 57)]
def r29_17 : List Ins := [qI 25 (.mov 6), qI 26 (.bin .sub 25 (kI 1)), qI 6 (.mov 26)]
def r29_18 : List Ins := [qI 59 (.mov 4), qI 60 (.call (.fn 50) [59]), qI 8 (.mov 60)]
def r29_19 : List Ins := [qI 61 (.mov 8), qI 62 (.bin .neq 61 (kI 0))]
def r29_20 : List Ins := [qI 63 (.build [.int .i64 0, .int .i64 0, .int .i64 0, .slice none 0 0] []), qI 64 (.mov 8), qN (.store 4 2 63), qI 3 (.mov 64)]
def r29_21 : List Ins := [qI 65 (.load 4 true 5), qN (.store 4 2 65), qI 3 (.mov (kI 0))]
def x29 : XC := (.seq (.ops false r29_0) (.seq (.ops false r29_1) (.seq (.ops false r29_2) (.seq (.ops false r29_3) (.seq (.ops false r29_4) (.seq (.ops false r29_5) (.seq (.seq (.ops false r29_6) (.block 0 (.loop [.ghc 5 3 94 tS6] ⟨66, [(6, (.int .i64))], [(2, .ptr 0 0 0), (4, .ptr 1 0 0), (5, .ptr 2 0 0)], [.box 50 [.d (.int .i64), .d (.int .i64), .d (.int .i64), .nil], .box 86 [.d (.list (.int .u8)), .d (.int .i64)], .box 50 [.d (.int .i64), .d (.int .i64), .d (.int .i64), .row 3], .row 94 tS6 false]⟩ (.seq (.seq (.ops false r29_7) (.cond (.t 24) .skip (.exit 0))) (.seq (.block 1 (.seq (.ops false r29_8) (.seq (.ops false r29_9) (.seq (.ops false r29_10) (.seq (.ops false r29_11) (.seq (.ops false r29_12) (.seq (.ops false r29_13) (.seq (.ops false r29_14) (.seq (.ops false r29_15) (.ops false r29_16)))))))))) (.ops false r29_17)))))) (.seq (.seq (.ops false r29_18) (.seq (.ops false r29_19) (.cond (.t 62) (.seq (.ops false r29_20) .ret) .skip))) (.seq (.ops false r29_21) .ret)))))))))
theorem F29 : Fn Try.prog 29 66 x29.er [.c 2 4 true, .t 3] := ⟨Try.f29, hcl, Try.func29, by kernel_rfl, by kernel_rfl, by kernel_rfl, by kernel_rfl⟩
noncomputable def m29 (a0 : List Int) : Option (DS7 × Int × Unit) :=
 (m47 a0 0).bind fun y708 =>
 (m47 y708.2.1 y708.2.2.1).bind fun y709 =>
 (m47 y709.2.1 y709.2.2.1).bind fun y710 =>
 (m48 64 y710.2.1 y710.2.2.1).bind fun y711 =>
 loopO (S := Int × Int × Int × Int × (List Int) × Int × Int × Int × Int × (List DS6) × Unit) (R := DS7 × Int × Unit) (fun s712 =>
 cond (iLt 0 s712.1)
 ((m47 s712.2.2.2.2.1 s712.2.2.2.2.2.1).bind fun y713 =>
 (m47 y713.2.1 y713.2.2.1).bind fun y714 =>
 (m47 y714.2.1 y714.2.2.1).bind fun y715 =>
 (m47 y715.2.1 y715.2.2.1).bind fun y716 =>
 (m47 y716.2.1 y716.2.2.1).bind fun y717 =>
 (m47 y717.2.1 y717.2.2.1).bind fun y718 =>
 cond (fits (List.length s712.2.2.2.2.2.2.2.2.2.1 + List.length ([(y713.1, y714.1, (y715.1, y716.1, s712.2.2.2.2.2.2.2.1, y717.1, y718.1, ()), ())] : List DS6)) 56)
 (some (.inl (iSub .i64 s712.1 1, s712.2.1, s712.2.2.1, s712.2.2.2.1, y718.2.1, y718.2.2.1, s712.2.2.2.2.2.2.1, s712.2.2.2.2.2.2.2.1, s712.2.2.2.2.2.2.2.2.1, s712.2.2.2.2.2.2.2.2.2.1 ++ ([(y713.1, y714.1, (y715.1, y716.1, s712.2.2.2.2.2.2.2.1, y717.1, y718.1, ()), ())] : List DS6), ()))) none)
 (Option.map Sum.inr ((m50 s712.2.2.2.2.1 s712.2.2.2.2.2.1).bind fun y719 =>
 cond (iNe y719.1 0)
 (some ((0, 0, 0, ([] : List DS6), ()), y719.1, ()))
 (some ((s712.2.2.2.2.2.2.1, s712.2.2.2.2.2.2.2.1, s712.2.2.2.2.2.2.2.2.1, s712.2.2.2.2.2.2.2.2.2.1, ()), 0, ())))))
 (y711.1, 0, 0, 0, y711.2.1, y711.2.2.1, y708.1, y709.1, y710.1, ([] : List DS6), ())
noncomputable def cfg29 : Cfg := ⟨ttab, gtab, [], [h47, h48, h50]⟩
theorem eqn29 (x : (List Int) × Unit) : xfun cfg29 x29 66 [.c 2 4 true, .t 3] [(.list (.int .u8))] [tS7, (.int .i64)] x = m29 x.1 := by kernel_rfl
noncomputable def i29 : PI := ⟨29, [(.list (.int .u8))], [tS7, (.int .i64)], fun (x : (List Int) × Unit) => m29 x.1⟩
theorem oki29 : POk Try.prog (gx gtab) i29 := pok mixed (cfg_h okh47 (cfg_h okh48 (cfg_h okh50 (cfg_nil _ _))) : CfgOk _ cfg29) F29 eqn29
/- 30 treaty/treatyref40.SameBordereau -/
def r30_0 : List Ins := [qI 2 (.box 50 4 0), qI 3 (.box 50 4 1), qI 4 (.mov (.k (.bool false)))]
def r30_1 : List Ins := [qI 6 (.faddr 0 2), qI 7 (.load 1 false 6), qI 8 (.faddr 0 3), qI 9 (.load 1 false 8), qI 10 (.bin .neq 7 9), qI 11 (.mov 10), qF 12 11 (.faddr 1 2), qF 13 11 (.load 1 false 12), qF 14 11 (.faddr 1 3), qF 15 11 (.load 1 false 14), qF 16 11 (.bin .neq 13 15), qI 17 (.pick 11 (.k (.bool true)) 16), qI 18 (.mov 17), qF 19 18 (.faddr 2 2), qF 20 18 (.load 1 false 19), qF 21 18 (.faddr 2 3), qF 22 18 (.load 1 false 21), qF 23 18 (.bin .neq 20 22), qI 24 (.pick 18 (.k (.bool true)) 23), qI 25 (.mov 24), qF 26 25 (.faddr 3 2), qF 27 25 (.load 1 false 26), qF 28 25 (.len 27), qF 29 25 (.faddr 3 3), qF 30 25 (.load 1 false 29), qF 31 25 (.len 30), qF 32 25 (.bin .neq 28 31), qI 33 (.pick 25 (.k (.bool true)) 32)]
def r30_2 : List Ins := [qI 4 (.mov (.k (.bool false)))]
def r30_3 : List Ins := [qI 34 (.faddr 3 2), qI 35 (.load 1 false 34), qI 36 (.len 35), qI 37 (.mov (kI 0))]
def r30_4 : List Ins := [qI 38 (.bin .lss 37 36)]
def r30_5 : List Ins := [qI 39 (.mov 37), qI 5 (.mov 39)]
def r30_6 : List Ins := [qI 40 (.faddr 3 2), qI 41 (.load 1 false 40), qI 42 (.mov 5), qI 43 (.iaddr 7 41 42), qI 44 (.load 7 true 43), qI 45 (.faddr 3 3), qI 46 (.load 1 false 45), qI 47 (.mov 5), qI 48 (.iaddr 7 46 47), qI 49 (.load 7 true 48), qI 50 (.aeq true [(0, 1), (1, 1), (2, 1), (3, 1), (4, 1), (5, 1), (6, 1)] 44 49)]
def r30_7 : List Ins := [qI 4 (.mov (.k (.bool false)))]
def r30_8 : List Ins := [qI 51 (.bin .add 37 (kI 1)), qI 37 (.mov 51)]
def r30_9 : List Ins := [qI 4 (.mov (.k (.bool true)))]
def x30 : XC := (.seq (.ops false r30_0) (.seq (.seq (.ops false r30_1) (.cond (.t 33) (.seq (.ops false r30_2) .ret) .skip)) (.seq (.seq (.ops false r30_3) (.block 0 (.loop [] ⟨52, [(36, (.int .i64)), (37, (.int .i64))], [(2, .ptr 0 0 0), (3, .ptr 1 0 0)], [.box 50 [.d (.int .i64), .d (.int .i64), .d (.int .i64), .d (.list tS6)], .box 50 [.d (.int .i64), .d (.int .i64), .d (.int .i64), .d (.list tS6)]]⟩ (.seq (.ops false r30_4) (.seq (.cond (.t 38) .skip (.exit 0)) (.seq (.block 1 (.seq (.ops false r30_5) (.seq (.ops true r30_6) (.cond (.t 50) (.seq (.ops false r30_7) .ret) .skip)))) (.ops false r30_8))))))) (.seq (.ops false r30_9) .ret))))
theorem F30 : Fn Try.prog 30 52 x30.er [.t 4] := ⟨Try.f30, hcl, Try.func30, by kernel_rfl, by kernel_rfl, by kernel_rfl, by kernel_rfl⟩
noncomputable def m30 (a0 : DS7) (a1 : DS7) : Option (Bool × Unit) :=
 cond (cond (cond (cond (iNe a0.1 a1.1) true (iNe a0.2.1 a1.2.1)) true (iNe a0.2.2.1 a1.2.2.1)) true (iNe (lenI a0.2.2.2.1) (lenI a1.2.2.2.1)))
 (some (false, ()))
 (loopO (S := Int × Int × Int × Int × Int × (List DS6) × Int × Int × Int × (List DS6) × Unit) (R := Bool × Unit) (fun s722 =>
 cond (iLt s722.2.1 s722.1)
 (cond (bnd s722.2.1 (lenI s722.2.2.2.2.2.1))
 (cond (bnd s722.2.1 (lenI s722.2.2.2.2.2.2.2.2.2.1))
 (cond (not (and (iEq ((atI s722.2.2.2.2.2.1 s722.2.1 (0, 0, (0, 0, 0, 0, 0, ()), ())).1) ((atI s722.2.2.2.2.2.2.2.2.2.1 s722.2.1 (0, 0, (0, 0, 0, 0, 0, ()), ())).1)) (and (iEq ((atI s722.2.2.2.2.2.1 s722.2.1 (0, 0, (0, 0, 0, 0, 0, ()), ())).2.1) ((atI s722.2.2.2.2.2.2.2.2.2.1 s722.2.1 (0, 0, (0, 0, 0, 0, 0, ()), ())).2.1)) (and (iEq (((atI s722.2.2.2.2.2.1 s722.2.1 (0, 0, (0, 0, 0, 0, 0, ()), ())).2.2.1).1) (((atI s722.2.2.2.2.2.2.2.2.2.1 s722.2.1 (0, 0, (0, 0, 0, 0, 0, ()), ())).2.2.1).1)) (and (iEq (((atI s722.2.2.2.2.2.1 s722.2.1 (0, 0, (0, 0, 0, 0, 0, ()), ())).2.2.1).2.1) (((atI s722.2.2.2.2.2.2.2.2.2.1 s722.2.1 (0, 0, (0, 0, 0, 0, 0, ()), ())).2.2.1).2.1)) (and (iEq (((atI s722.2.2.2.2.2.1 s722.2.1 (0, 0, (0, 0, 0, 0, 0, ()), ())).2.2.1).2.2.1) (((atI s722.2.2.2.2.2.2.2.2.2.1 s722.2.1 (0, 0, (0, 0, 0, 0, 0, ()), ())).2.2.1).2.2.1)) (and (iEq (((atI s722.2.2.2.2.2.1 s722.2.1 (0, 0, (0, 0, 0, 0, 0, ()), ())).2.2.1).2.2.2.1) (((atI s722.2.2.2.2.2.2.2.2.2.1 s722.2.1 (0, 0, (0, 0, 0, 0, 0, ()), ())).2.2.1).2.2.2.1)) (and (iEq (((atI s722.2.2.2.2.2.1 s722.2.1 (0, 0, (0, 0, 0, 0, 0, ()), ())).2.2.1).2.2.2.2.1) (((atI s722.2.2.2.2.2.2.2.2.2.1 s722.2.1 (0, 0, (0, 0, 0, 0, 0, ()), ())).2.2.1).2.2.2.2.1)) true))))))))
 (some (.inr (false, ())))
 (some (.inl (s722.1, iAdd .i64 s722.2.1 1, s722.2.2.1, s722.2.2.2.1, s722.2.2.2.2.1, s722.2.2.2.2.2.1, s722.2.2.2.2.2.2.1, s722.2.2.2.2.2.2.2.1, s722.2.2.2.2.2.2.2.2.1, s722.2.2.2.2.2.2.2.2.2.1, ())))) none) none)
 (some (.inr (true, ()))))
 (lenI a0.2.2.2.1, 0, a0.1, a0.2.1, a0.2.2.1, a0.2.2.2.1, a1.1, a1.2.1, a1.2.2.1, a1.2.2.2.1, ()))
noncomputable def cfg30 : Cfg := ⟨ttab, gtab, [], []⟩
theorem eqn30 (x : DS7 × DS7 × Unit) : xfun cfg30 x30 52 [.t 4] [tS7, tS7] [.bool] x = m30 x.1 x.2.1 := by kernel_rfl
noncomputable def i30 : PI := ⟨30, [tS7, tS7], [.bool], fun (x : DS7 × DS7 × Unit) => m30 x.1 x.2.1⟩
theorem oki30 : POk Try.prog (gx gtab) i30 := pok mixed (cfg_nil _ _ : CfgOk _ cfg30) F30 eqn30
/- 6 treaty/treatylaw40.CodecBordereau -/
def r6_0 : List Ins := [qI 5 (.box 50 4 0), qI 10 (.mov (.k (.bool false)))]
def r6_1 : List Ins := [qI 26 (.faddr 3 5), qI 27 (.load 1 false 26), qI 28 (.len 27), qI 29 (.bin .gtr 28 (kI 80)), qI 30 (.mov 29), qF 31 30 (.mov 1), qF 32 30 (.len 31), qF 33 30 (.bin .gtr 32 (kI 400)), qI 34 (.pick 30 (.k (.bool true)) 33)]
def r6_2 : List Ins := [qI 35 (.call (.fn 9) []), qI 10 (.mov 35)]
def r6_3 : List Ins := [qI 36 (.mov 2), qI 37 (.call (.fn 10) [36]), qI 38 (.call (.fn 25) [37]), qI 11 (.alloc 50 (.agg #[.int .i64 0, .int .i64 0, .int .i64 0, .slice none 0 0])), qN (.store 4 11 38)]
def r6_4 : List Ins := [qI 39 (.load 4 true 5), qI 40 (.load 4 true 11), qI 41 (.bslice 50 4 [39, 40]), qI 42 (.len 41), qI 43 (.mov (kI 0))]
def r6_5 : List Ins := [qI 44 (.bin .lss 43 42)]
def r6_6 : List Ins := [qI 45 (.iaddr 4 41 43), qI 46 (.load 4 true 45), qI 13 (.alloc 50 (.agg #[.int .i64 0, .int .i64 0, .int .i64 0, .slice none 0 0])), qN (.store 4 13 46)]
def r6_7 : List Ins := [qI 48 (.load 4 true 13), qI 49 (.call (.fn 26) [48]), qI 47 (.mov 49), qI 50 (.ext 0 47), qI 51 (.ext 1 47), qI 14 (.mov 50), qI 15 (.mov 51)]
def r6_8 : List Ins := [qI 53 (.load 4 true 13), qI 54 (.call (.fn 27) [53]), qI 52 (.mov 54), qI 55 (.ext 0 52), qI 56 (.ext 1 52), qI 16 (.mov 55), qI 17 (.mov 56)]
def r6_9 : List Ins := [qI 57 (.mov 14), qI 58 (.mov 16), qI 59 (.call (.fn 15) [57, 58]), qI 60 (.un .not 59), qI 61 (.mov 60), qF 62 61 (.mov 15), qF 63 61 (.mov 17), qF 64 61 (.bin .neq 62 63), qI 65 (.pick 61 (.k (.bool true)) 64)]
def r6_10 : List Ins := [qI 10 (.mov (.k (.bool false)))]
def r6_11 : List Ins := [qI 66 (.bin .add 43 (kI 1)), qI 43 (.mov 66)]
def r6_12 : List Ins := [qI 68 (.load 4 true 11), qI 69 (.call (.fn 27) [68]), qI 67 (.mov 69), qI 70 (.ext 0 67), qI 71 (.ext 1 67), qI 18 (.mov 70), qI 19 (.mov 71)]
def r6_13 : List Ins := [qI 72 (.mov 19), qI 73 (.bin .neq 72 (kI 0))]
def r6_14 : List Ins := [qI 10 (.mov (.k (.bool false)))]
def r6_15 : List Ins := [qI 74 (.mov 1), qI 75 (.mov 18), qI 76 (.mov 18), qI 77 (.mov 3), qI 78 (.mov 4), qI 79 (.call (.fn 21) [76, 77, 78]), qI 80 (.bslice 22 1 [74, 75, 79]), qI 81 (.len 80), qI 82 (.mov (kI 0))]
def r6_16 : List Ins := [qI 83 (.bin .lss 82 81)]
def r6_17 : List Ins := [qI 84 (.iaddr 1 80 82), qI 85 (.load 1 false 84), qI 21 (.mov 85)]
def r6_18 : List Ins := [qI 87 (.mov 21), qI 88 (.call (.fn 28) [87]), qI 86 (.mov 88), qI 89 (.ext 0 86), qI 90 (.ext 1 86), qI 22 (.alloc 50 (.agg #[.int .i64 0, .int .i64 0, .int .i64 0, .slice none 0 0])), qN (.store 4 22 89), qI 23 (.mov 90)]
def r6_19 : List Ins := [qI 92 (.mov 21), qI 93 (.call (.fn 29) [92]), qI 91 (.mov 93), qI 94 (.ext 0 91), qI 95 (.ext 1 91), qI 24 (.alloc 50 (.agg #[.int .i64 0, .int .i64 0, .int .i64 0, .slice none 0 0])), qN (.store 4 24 94), qI 25 (.mov 95)]
def r6_20 : List Ins := [qI 96 (.load 4 true 22), qI 97 (.load 4 true 24), qI 98 (.call (.fn 30) [96, 97]), qI 99 (.un .not 98), qI 100 (.mov 99), qF 101 100 (.mov 23), qF 102 100 (.mov 25), qF 103 100 (.bin .neq 101 102), qI 104 (.pick 100 (.k (.bool true)) 103)]
def r6_21 : List Ins := [qI 10 (.mov (.k (.bool false)))]
def r6_22 : List Ins := [qI 105 (.bin .add 82 (kI 1)), qI 82 (.mov 105)]
def r6_23 : List Ins := [qI 106 (.call (.fn 9) []), qI 10 (.mov 106)]
def x6 : XC := (.seq (.ops false r6_0) (.seq (.seq (.ops false r6_1) (.cond (.t 34) (.seq (.ops false r6_2) .ret) .skip)) (.seq (.ops false r6_3) (.seq (.seq (.ops false r6_4) (.block 0 (.loop [] ⟨107, [(1, (.list (.int .u8))), (3, (.int .i64)), (4, (.int .u8)), (42, (.int .i64)), (43, (.int .i64))], [(11, .ptr 0 0 0), (41, .row 1)], [.box 50 [.d (.int .i64), .d (.int .i64), .d (.int .i64), .row 2], .row 50 tS7 false, .row 94 tS6 true]⟩ (.seq (.ops false r6_5) (.seq (.cond (.t 44) .skip (.exit 0)) (.seq (.block 1 (.seq (.ops false r6_6) (.seq (.ops false r6_7) (.seq (.ops false r6_8) (.seq (.ops false r6_9) (.cond (.t 65) (.seq (.ops false r6_10) .ret) .skip)))))) (.ops false r6_11))))))) (.seq (.ops false r6_12) (.seq (.seq (.ops false r6_13) (.cond (.t 73) (.seq (.ops false r6_14) .ret) .skip)) (.seq (.seq (.ops false r6_15) (.block 2 (.loop [] ⟨107, [(81, (.int .i64)), (82, (.int .i64))], [(80, .row 0)], [.row 22 (.list (.int .u8)) false]⟩ (.seq (.ops false r6_16) (.seq (.cond (.t 83) .skip (.exit 2)) (.seq (.block 3 (.seq (.ops false r6_17) (.seq (.ops false r6_18) (.seq (.ops false r6_19) (.seq (.ops false r6_20) (.cond (.t 104) (.seq (.ops false r6_21) .ret) .skip)))))) (.ops false r6_22))))))) (.seq (.ops false r6_23) .ret))))))))
theorem F6 : Fn Try.prog 6 107 x6.er [.t 10] := ⟨Try.f6, hcl, Try.func6, by kernel_rfl, by kernel_rfl, by kernel_rfl, by kernel_rfl⟩
noncomputable def m6 (a0 : DS7) (a1 : List Int) (a2 : List Int) (a3 : Int) (a4 : Int) : Option (Bool × Unit) :=
 cond (cond (iLt 80 (lenI a0.2.2.2.1)) true (iLt 400 (lenI a1)))
 ((m9).bind fun y725 =>
 some (y725.1, ()))
 ((m10 a2).bind fun y726 =>
 (m25 y726.1 y726.2.1).bind fun y727 =>
 loopO (S := (List Int) × Int × Int × Int × Int × Int × Int × Int × (List DS7) × (List DS6) × Unit) (R := Bool × Unit) (fun s728 =>
 cond (iLt s728.2.2.2.2.1 s728.2.2.2.1)
 (cond (bnd s728.2.2.2.2.1 (lenI s728.2.2.2.2.2.2.2.2.1))
 (cond (inB (Int.toNat s728.2.2.2.2.1) s728.2.2.2.2.2.2.2.2.1)
 ((m26 ((List.getD s728.2.2.2.2.2.2.2.2.1 (Int.toNat s728.2.2.2.2.1) (0, 0, 0, [], ())).1, (List.getD s728.2.2.2.2.2.2.2.2.1 (Int.toNat s728.2.2.2.2.1) (0, 0, 0, [], ())).2.1, (List.getD s728.2.2.2.2.2.2.2.2.1 (Int.toNat s728.2.2.2.2.1) (0, 0, 0, [], ())).2.2.1, (List.getD s728.2.2.2.2.2.2.2.2.1 (Int.toNat s728.2.2.2.2.1) (0, 0, 0, [], ())).2.2.2.1, ())).bind fun y729 =>
 (m27 ((List.getD s728.2.2.2.2.2.2.2.2.1 (Int.toNat s728.2.2.2.2.1) (0, 0, 0, [], ())).1, (List.getD s728.2.2.2.2.2.2.2.2.1 (Int.toNat s728.2.2.2.2.1) (0, 0, 0, [], ())).2.1, (List.getD s728.2.2.2.2.2.2.2.2.1 (Int.toNat s728.2.2.2.2.1) (0, 0, 0, [], ())).2.2.1, (List.getD s728.2.2.2.2.2.2.2.2.1 (Int.toNat s728.2.2.2.2.1) (0, 0, 0, [], ())).2.2.2.1, ())).bind fun y730 =>
 (m15 y729.1 y730.1).bind fun y731 =>
 cond (cond (not y731.1) true (iNe y729.2.1 y730.2.1))
 (some (.inr (false, ())))
 (some (.inl (s728.1, s728.2.1, s728.2.2.1, s728.2.2.2.1, iAdd .i64 s728.2.2.2.2.1 1, s728.2.2.2.2.2.1, s728.2.2.2.2.2.2.1, s728.2.2.2.2.2.2.2.1, s728.2.2.2.2.2.2.2.2.1, s728.2.2.2.2.2.2.2.2.2.1, ())))) none) none)
 (Option.map Sum.inr ((m27 (s728.2.2.2.2.2.1, s728.2.2.2.2.2.2.1, s728.2.2.2.2.2.2.2.1, s728.2.2.2.2.2.2.2.2.2.1, ())).bind fun y732 =>
 cond (iNe y732.2.1 0)
 (some (false, ()))
 ((m21 y732.1 s728.2.1 s728.2.2.1).bind fun y733 =>
 loopO (S := Int × Int × (List (List Int)) × Unit) (R := Bool × Unit) (fun s734 =>
 cond (iLt s734.2.1 s734.1)
 (cond (bnd s734.2.1 (lenI s734.2.2.1))
 (cond (inB (Int.toNat s734.2.1) s734.2.2.1)
 ((m28 (List.getD s734.2.2.1 (Int.toNat s734.2.1) [])).bind fun y735 =>
 (m29 (List.getD s734.2.2.1 (Int.toNat s734.2.1) [])).bind fun y736 =>
 (m30 (y735.1.1, y735.1.2.1, y735.1.2.2.1, y735.1.2.2.2.1, ()) (y736.1.1, y736.1.2.1, y736.1.2.2.1, y736.1.2.2.2.1, ())).bind fun y737 =>
 cond (cond (not y737.1) true (iNe y735.2.1 y736.2.1))
 (some (.inr (false, ())))
 (some (.inl (s734.1, iAdd .i64 s734.2.1 1, s734.2.2.1, ())))) none) none)
 (Option.map Sum.inr ((m9).bind fun y738 =>
 some (y738.1, ()))))
 (lenI ([s728.1, y732.1, y733.1] : List (List Int)), 0, ([s728.1, y732.1, y733.1] : List (List Int)), ())))))
 (a1, a3, a4, lenI ([(a0.1, a0.2.1, a0.2.2.1, a0.2.2.2.1, ()), (y727.1, y727.2.1, y727.2.2.1, y727.2.2.2.2.2.1, ())] : List DS7), 0, y727.1, y727.2.1, y727.2.2.1, ([(a0.1, a0.2.1, a0.2.2.1, a0.2.2.2.1, ()), (y727.1, y727.2.1, y727.2.2.1, y727.2.2.2.2.2.1, ())] : List DS7), y727.2.2.2.2.2.1, ()))
noncomputable def cfg6 : Cfg := ⟨ttab, gtab, [i15, i21, i26, i27, i28, i29, i30, i9], [h10, h25]⟩
theorem eqn6 (x : DS7 × (List Int) × (List Int) × Int × Int × Unit) : xfun cfg6 x6 107 [.t 10] [tS7, (.list (.int .u8)), (.list (.int .i64)), (.int .i64), (.int .u8)] [.bool] x = m6 x.1 x.2.1 x.2.2.1 x.2.2.2.1 x.2.2.2.2.1 := by kernel_rfl
noncomputable def i6 : PI := ⟨6, [tS7, (.list (.int .u8)), (.list (.int .i64)), (.int .i64), (.int .u8)], [.bool], fun (x : DS7 × (List Int) × (List Int) × Int × Int × Unit) => m6 x.1 x.2.1 x.2.2.1 x.2.2.2.1 x.2.2.2.2.1⟩
theorem oki6 : POk Try.prog (gx gtab) i6 := pok mixed (cfg_p oki15 (cfg_p oki21 (cfg_p oki26 (cfg_p oki27 (cfg_p oki28 (cfg_p oki29 (cfg_p oki30 (cfg_p oki9 (cfg_h okh10 (cfg_h okh25 (cfg_nil _ _)))))))))) : CfgOk _ cfg6) F6 eqn6
/- 7 treaty/treatylaw40.CodecRoundTrip -/
def r7_0 : List Ins := [qI 3 (.box 38 6 0), qI 4 (.box 50 4 1), qI 6 (.mov (.k (.bool false)))]
def r7_1 : List Ins := [qI 20 (.faddr 1 3), qI 21 (.load 1 false 20), qI 22 (.len 21), qI 23 (.bin .gtr 22 (kI 80)), qI 24 (.mov 23), qF 25 24 (.faddr 3 4), qF 26 24 (.load 1 false 25), qF 27 24 (.len 26), qF 28 24 (.bin .gtr 27 (kI 80)), qI 29 (.pick 24 (.k (.bool true)) 28)]
def r7_2 : List Ins := [qI 30 (.call (.fn 9) []), qI 6 (.mov 30)]
def r7_3 : List Ins := [qI 31 (.mov 2), qI 32 (.call (.fn 10) [31]), qI 7 (.mov 32)]
def r7_4 : List (Nat × Ins) := [(1, qI 33 (.load 6 true 3)),
(0, qI 34 (.mov 7)),
(2, qI 35 (.call (.fn 18) [34])),
(0, qI 36 (.bslice 38 6 [33, 35])),
(0, qI 37 (.len 36)),
(0, qI 38 (.mov (kI 0)))]
def r7_5 : List Ins := [qI 39 (.bin .lss 38 37)]
def r7_6 : List Ins := [qI 40 (.iaddr 6 36 38), qI 41 (.load 6 true 40), qI 9 (.alloc 38 (.agg #[.int .i64 0, .slice none 0 0, .int .i64 0, .int .i64 0, .int .i64 0, .int .i64 0])), qN (.store 6 9 41)]
def r7_7 : List Ins := [qI 43 (.load 6 true 9), qI 44 (.call (.fn 19) [43]), qI 42 (.mov 44), qI 45 (.ext 0 42), qI 46 (.ext 1 42), qI 10 (.mov 45), qI 11 (.mov 46)]
def r7_8 : List Ins := [qI 48 (.mov 10), qI 49 (.call (.fn 22) [48]), qI 47 (.mov 49), qI 50 (.ext 0 47), qI 51 (.ext 1 47), qI 12 (.alloc 38 (.agg #[.int .i64 0, .slice none 0 0, .int .i64 0, .int .i64 0, .int .i64 0, .int .i64 0])), qN (.store 6 12 50), qI 13 (.mov 51)]
def r7_9 : List Ins := [qI 52 (.mov 11), qI 53 (.bin .eql 52 (kI 0)), qI 54 (.mov 53), qT 55 54 (.mov 13), qT 56 54 (.bin .neq 55 (kI 0)), qT 57 54 (.mov 56), qF 58 57 (.load 6 true 9), qF 59 57 (.load 6 true 12), qF 60 57 (.call (.fn 24) [58, 59]), qF 61 57 (.un .not 60), qT 62 54 (.pick 57 (.k (.bool true)) 61), qT 63 54 (.mov 62), qF 64 63 (.mov 10), qF 65 63 (.len 64), qF 66 63 (.bin .gtr 65 (kI 8192)), qT 67 54 (.pick 63 (.k (.bool true)) 66), qT 68 54 (.mov 67), qF 69 68 (.mov 10), qF 70 68 (.len 69), qF 71 68 (.bin .eql 70 (kI 0)), qT 72 54 (.pick 68 (.k (.bool true)) 71), qI 73 (.pick 54 72 (.k (.bool false)))]
def r7_10 : List Ins := [qI 6 (.mov (.k (.bool false)))]
def r7_11 : List Ins := [qI 74 (.bin .add 38 (kI 1)), qI 38 (.mov 74)]
def r7_12 : List (Nat × Ins) := [(1, qI 75 (.load 4 true 4)),
(0, qI 76 (.mov 7)),
(2, qI 77 (.call (.fn 25) [76])),
(0, qI 78 (.bslice 50 4 [75, 77])),
(0, qI 79 (.len 78)),
(0, qI 80 (.mov (kI 0)))]
def r7_13 : List Ins := [qI 81 (.bin .lss 80 79)]
def r7_14 : List Ins := [qI 82 (.iaddr 4 78 80), qI 83 (.load 4 true 82), qI 15 (.alloc 50 (.agg #[.int .i64 0, .int .i64 0, .int .i64 0, .slice none 0 0])), qN (.store 4 15 83)]
def r7_15 : List Ins := [qI 85 (.load 4 true 15), qI 86 (.call (.fn 26) [85]), qI 84 (.mov 86), qI 87 (.ext 0 84), qI 88 (.ext 1 84), qI 16 (.mov 87), qI 17 (.mov 88)]
def r7_16 : List Ins := [qI 90 (.mov 16), qI 91 (.call (.fn 28) [90]), qI 89 (.mov 91), qI 92 (.ext 0 89), qI 93 (.ext 1 89), qI 18 (.alloc 50 (.agg #[.int .i64 0, .int .i64 0, .int .i64 0, .slice none 0 0])), qN (.store 4 18 92), qI 19 (.mov 93)]
def r7_17 : List Ins := [qI 94 (.mov 17), qI 95 (.bin .eql 94 (kI 0)), qI 96 (.mov 95), qT 97 96 (.mov 19), qT 98 96 (.bin .neq 97 (kI 0)), qT 99 96 (.mov 98), qF 100 99 (.load 4 true 15), qF 101 99 (.load 4 true 18), qF 102 99 (.call (.fn 30) [100, 101]), qF 103 99 (.un .not 102), qT 104 96 (.pick 99 (.k (.bool true)) 103), qT 105 96 (.mov 104), qF 106 105 (.mov 16), qF 107 105 (.len 106), qF 108 105 (.bin .gtr 107 (kI 8192)), qT 109 96 (.pick 105 (.k (.bool true)) 108), qT 110 96 (.mov 109), qF 111 110 (.mov 16), qF 112 110 (.len 111), qF 113 110 (.bin .eql 112 (kI 0)), qT 114 96 (.pick 110 (.k (.bool true)) 113), qI 115 (.pick 96 114 (.k (.bool false)))]
def r7_18 : List Ins := [qI 6 (.mov (.k (.bool false)))]
def r7_19 : List Ins := [qI 116 (.bin .add 80 (kI 1)), qI 80 (.mov 116)]
def r7_20 : List Ins := [qI 117 (.call (.fn 9) []), qI 6 (.mov 117)]
def x7 : XC := (.seq (.ops false r7_0) (.seq (.seq (.ops false r7_1) (.cond (.t 29) (.seq (.ops false r7_2) .ret) .skip)) (.seq (.ops false r7_3) (.seq (.seq (.rops [2] r7_4) (.block 0 (.loop [] ⟨118, [(37, (.int .i64)), (38, (.int .i64))], [(4, .ptr 0 0 0), (7, .ptr 1 0 0), (36, .row 2)], [.box 50 [.d (.int .i64), .d (.int .i64), .d (.int .i64), .d (.list tS6)], .box 98 [.d (.list (.int .i64)), .d (.int .i64)], .row 38 tS1 false]⟩ (.seq (.ops false r7_5) (.seq (.cond (.t 39) .skip (.exit 0)) (.seq (.block 1 (.seq (.ops false r7_6) (.seq (.ops false r7_7) (.seq (.ops false r7_8) (.seq (.ops false r7_9) (.cond (.t 73) (.seq (.ops false r7_10) .ret) .skip)))))) (.ops false r7_11))))))) (.seq (.seq (.rops [1] r7_12) (.block 2 (.loop [] ⟨118, [(79, (.int .i64)), (80, (.int .i64))], [(78, .row 0)], [.row 50 tS7 false]⟩ (.seq (.ops false r7_13) (.seq (.cond (.t 81) .skip (.exit 2)) (.seq (.block 3 (.seq (.ops false r7_14) (.seq (.ops false r7_15) (.seq (.ops false r7_16) (.seq (.ops false r7_17) (.cond (.t 115) (.seq (.ops false r7_18) .ret) .skip)))))) (.ops false r7_19))))))) (.seq (.ops false r7_20) .ret))))))
theorem F7 : Fn Try.prog 7 118 x7.er [.t 6] := ⟨Try.f7, hcl, Try.func7, by kernel_rfl, by kernel_rfl, by kernel_rfl, by kernel_rfl⟩
noncomputable def m7 (a0 : DS1) (a1 : DS7) (a2 : List Int) : Option (Bool × Unit) :=
 cond (cond (iLt 80 (lenI a0.2.1)) true (iLt 80 (lenI a1.2.2.2.1)))
 ((m9).bind fun y752 =>
 some (y752.1, ()))
 ((m10 a2).bind fun y753 =>
 (m18 y753.1 y753.2.1).bind fun y754 =>
 loopO (S := Int × Int × Int × Int × Int × (List DS6) × (List Int) × Int × (List DS1) × Unit) (R := Bool × Unit) (fun s755 =>
 cond (iLt s755.2.1 s755.1)
 (cond (bnd s755.2.1 (lenI s755.2.2.2.2.2.2.2.2.1))
 (cond (inB (Int.toNat s755.2.1) s755.2.2.2.2.2.2.2.2.1)
 ((m19 ((List.getD s755.2.2.2.2.2.2.2.2.1 (Int.toNat s755.2.1) (0, [], 0, 0, 0, 0, ())).1, (List.getD s755.2.2.2.2.2.2.2.2.1 (Int.toNat s755.2.1) (0, [], 0, 0, 0, 0, ())).2.1, (List.getD s755.2.2.2.2.2.2.2.2.1 (Int.toNat s755.2.1) (0, [], 0, 0, 0, 0, ())).2.2.1, (List.getD s755.2.2.2.2.2.2.2.2.1 (Int.toNat s755.2.1) (0, [], 0, 0, 0, 0, ())).2.2.2.1, (List.getD s755.2.2.2.2.2.2.2.2.1 (Int.toNat s755.2.1) (0, [], 0, 0, 0, 0, ())).2.2.2.2.1, (List.getD s755.2.2.2.2.2.2.2.2.1 (Int.toNat s755.2.1) (0, [], 0, 0, 0, 0, ())).2.2.2.2.2.1, ())).bind fun y756 =>
 (m22 y756.1).bind fun y757 =>
 cond (iEq y756.2.1 0)
 (cond (iNe y757.2.1 0)
 (some (.inr (false, ())))
 ((m24 ((List.getD s755.2.2.2.2.2.2.2.2.1 (Int.toNat s755.2.1) (0, [], 0, 0, 0, 0, ())).1, (List.getD s755.2.2.2.2.2.2.2.2.1 (Int.toNat s755.2.1) (0, [], 0, 0, 0, 0, ())).2.1, (List.getD s755.2.2.2.2.2.2.2.2.1 (Int.toNat s755.2.1) (0, [], 0, 0, 0, 0, ())).2.2.1, (List.getD s755.2.2.2.2.2.2.2.2.1 (Int.toNat s755.2.1) (0, [], 0, 0, 0, 0, ())).2.2.2.1, (List.getD s755.2.2.2.2.2.2.2.2.1 (Int.toNat s755.2.1) (0, [], 0, 0, 0, 0, ())).2.2.2.2.1, (List.getD s755.2.2.2.2.2.2.2.2.1 (Int.toNat s755.2.1) (0, [], 0, 0, 0, 0, ())).2.2.2.2.2.1, ()) (y757.1.1, y757.1.2.1, y757.1.2.2.1, y757.1.2.2.2.1, y757.1.2.2.2.2.1, y757.1.2.2.2.2.2.1, ())).bind fun y758 =>
 cond (cond (cond (not y758.1) true (iLt 8192 (lenI y756.1))) true (iEq (lenI y756.1) 0))
 (some (.inr (false, ())))
 (some (.inl (s755.1, iAdd .i64 s755.2.1 1, s755.2.2.1, s755.2.2.2.1, s755.2.2.2.2.1, s755.2.2.2.2.2.1, s755.2.2.2.2.2.2.1, s755.2.2.2.2.2.2.2.1, s755.2.2.2.2.2.2.2.2.1, ())))))
 (some (.inl (s755.1, iAdd .i64 s755.2.1 1, s755.2.2.1, s755.2.2.2.1, s755.2.2.2.2.1, s755.2.2.2.2.2.1, s755.2.2.2.2.2.2.1, s755.2.2.2.2.2.2.2.1, s755.2.2.2.2.2.2.2.2.1, ())))) none) none)
 (Option.map Sum.inr ((m25 s755.2.2.2.2.2.2.1 s755.2.2.2.2.2.2.2.1).bind fun y759 =>
 loopO (S := Int × Int × (List DS7) × Unit) (R := Bool × Unit) (fun s760 =>
 cond (iLt s760.2.1 s760.1)
 (cond (bnd s760.2.1 (lenI s760.2.2.1))
 (cond (inB (Int.toNat s760.2.1) s760.2.2.1)
 ((m26 ((List.getD s760.2.2.1 (Int.toNat s760.2.1) (0, 0, 0, [], ())).1, (List.getD s760.2.2.1 (Int.toNat s760.2.1) (0, 0, 0, [], ())).2.1, (List.getD s760.2.2.1 (Int.toNat s760.2.1) (0, 0, 0, [], ())).2.2.1, (List.getD s760.2.2.1 (Int.toNat s760.2.1) (0, 0, 0, [], ())).2.2.2.1, ())).bind fun y761 =>
 (m28 y761.1).bind fun y762 =>
 cond (iEq y761.2.1 0)
 (cond (iNe y762.2.1 0)
 (some (.inr (false, ())))
 ((m30 ((List.getD s760.2.2.1 (Int.toNat s760.2.1) (0, 0, 0, [], ())).1, (List.getD s760.2.2.1 (Int.toNat s760.2.1) (0, 0, 0, [], ())).2.1, (List.getD s760.2.2.1 (Int.toNat s760.2.1) (0, 0, 0, [], ())).2.2.1, (List.getD s760.2.2.1 (Int.toNat s760.2.1) (0, 0, 0, [], ())).2.2.2.1, ()) (y762.1.1, y762.1.2.1, y762.1.2.2.1, y762.1.2.2.2.1, ())).bind fun y763 =>
 cond (cond (cond (not y763.1) true (iLt 8192 (lenI y761.1))) true (iEq (lenI y761.1) 0))
 (some (.inr (false, ())))
 (some (.inl (s760.1, iAdd .i64 s760.2.1 1, s760.2.2.1, ())))))
 (some (.inl (s760.1, iAdd .i64 s760.2.1 1, s760.2.2.1, ())))) none) none)
 (Option.map Sum.inr ((m9).bind fun y764 =>
 some (y764.1, ()))))
 (lenI ([(s755.2.2.1, s755.2.2.2.1, s755.2.2.2.2.1, s755.2.2.2.2.2.1, ()), (y759.1, y759.2.1, y759.2.2.1, y759.2.2.2.2.2.1, ())] : List DS7), 0, ([(s755.2.2.1, s755.2.2.2.1, s755.2.2.2.2.1, s755.2.2.2.2.2.1, ()), (y759.1, y759.2.1, y759.2.2.1, y759.2.2.2.2.2.1, ())] : List DS7), ()))))
 (lenI ([(a0.1, a0.2.1, a0.2.2.1, a0.2.2.2.1, a0.2.2.2.2.1, a0.2.2.2.2.2.1, ()), (y754.1, y754.2.1, y754.2.2.1, y754.2.2.2.1, y754.2.2.2.2.1, y754.2.2.2.2.2.1, ())] : List DS1), 0, a1.1, a1.2.1, a1.2.2.1, a1.2.2.2.1, y754.2.2.2.2.2.2.1, y754.2.2.2.2.2.2.2.1, ([(a0.1, a0.2.1, a0.2.2.1, a0.2.2.2.1, a0.2.2.2.2.1, a0.2.2.2.2.2.1, ()), (y754.1, y754.2.1, y754.2.2.1, y754.2.2.2.1, y754.2.2.2.2.1, y754.2.2.2.2.2.1, ())] : List DS1), ()))
noncomputable def cfg7 : Cfg := ⟨ttab, gtab, [i19, i22, i24, i26, i28, i30, i9], [h10, h18, h25]⟩
theorem eqn7 (x : DS1 × DS7 × (List Int) × Unit) : xfun cfg7 x7 118 [.t 6] [tS1, tS7, (.list (.int .i64))] [.bool] x = m7 x.1 x.2.1 x.2.2.1 := by kernel_rfl
noncomputable def i7 : PI := ⟨7, [tS1, tS7, (.list (.int .i64))], [.bool], fun (x : DS1 × DS7 × (List Int) × Unit) => m7 x.1 x.2.1 x.2.2.1⟩
theorem oki7 : POk Try.prog (gx gtab) i7 := pok mixed (cfg_p oki19 (cfg_p oki22 (cfg_p oki24 (cfg_p oki26 (cfg_p oki28 (cfg_p oki30 (cfg_p oki9 (cfg_h okh10 (cfg_h okh18 (cfg_h okh25 (cfg_nil _ _)))))))))) : CfgOk _ cfg7) F7 eqn7
/- 8 treaty/treatylaw40.CodecUnique -/
def r8_0 : List Ins := [qI 8 (.mov (.k (.bool false)))]
def r8_1 : List Ins := [qI 24 (.mov 0), qI 25 (.len 24), qI 26 (.bin .gtr 25 (kI 400))]
def r8_2 : List Ins := [qI 27 (.call (.fn 9) []), qI 8 (.mov 27)]
def r8_3 : List Ins := [qI 28 (.mov 1), qI 29 (.call (.fn 10) [28]), qI 9 (.mov 29)]
def r8_4 : List Ins := [qI 31 (.mov 9), qI 32 (.call (.fn 18) [31]), qI 33 (.call (.fn 20) [32]), qI 30 (.mov 33), qI 34 (.ext 0 30), qI 35 (.ext 1 30), qI 10 (.mov 34), qI 11 (.mov 35)]
def r8_5 : List Ins := [qI 37 (.mov 9), qI 38 (.call (.fn 25) [37]), qI 39 (.call (.fn 27) [38]), qI 36 (.mov 39), qI 40 (.ext 0 36), qI 41 (.ext 1 36), qI 12 (.mov 40), qI 13 (.mov 41)]
def r8_6 : List Ins := [qI 42 (.mov 11), qI 43 (.bin .neq 42 (kI 0)), qI 44 (.mov 43), qF 45 44 (.mov 13), qF 46 44 (.bin .neq 45 (kI 0)), qI 47 (.pick 44 (.k (.bool true)) 46)]
def r8_7 : List Ins := [qI 8 (.mov (.k (.bool false)))]
def r8_8 : List Ins := [qI 48 (.mov 0), qI 49 (.mov 10), qI 50 (.mov 2), qI 51 (.mov 3), qI 52 (.call (.fn 21) [49, 50, 51]), qI 53 (.mov 12), qI 54 (.mov 2), qI 55 (.mov 3), qI 56 (.call (.fn 21) [53, 54, 55]), qI 57 (.bslice 22 1 [48, 52, 56]), qI 58 (.len 57), qI 59 (.mov (kI 0))]
def r8_9 : List Ins := [qI 60 (.bin .lss 59 58)]
def r8_10 : List Ins := [qI 61 (.iaddr 1 57 59), qI 62 (.load 1 false 61), qI 15 (.mov 62)]
def r8_11 : List Ins := [qI 64 (.mov 15), qI 65 (.call (.fn 22) [64]), qI 63 (.mov 65), qI 66 (.ext 0 63), qI 67 (.ext 1 63), qI 16 (.alloc 38 (.agg #[.int .i64 0, .slice none 0 0, .int .i64 0, .int .i64 0, .int .i64 0, .int .i64 0])), qN (.store 6 16 66), qI 17 (.mov 67)]
def r8_12 : List Ins := [qI 69 (.load 6 true 16), qI 70 (.call (.fn 19) [69]), qI 68 (.mov 70), qI 71 (.ext 0 68), qI 72 (.ext 1 68), qI 18 (.mov 71), qI 19 (.mov 72)]
def r8_13 : List Ins := [qI 73 (.mov 17), qI 74 (.bin .eql 73 (kI 0)), qI 75 (.mov 74), qT 76 75 (.mov 19), qT 77 75 (.bin .neq 76 (kI 0)), qT 78 75 (.mov 77), qF 79 78 (.mov 18), qF 80 78 (.mov 15), qF 81 78 (.call (.fn 15) [79, 80]), qF 82 78 (.un .not 81), qT 83 75 (.pick 78 (.k (.bool true)) 82), qI 84 (.pick 75 83 (.k (.bool false)))]
def r8_14 : List Ins := [qI 8 (.mov (.k (.bool false)))]
def r8_15 : List Ins := [qI 86 (.mov 15), qI 87 (.call (.fn 28) [86]), qI 85 (.mov 87), qI 88 (.ext 0 85), qI 89 (.ext 1 85), qI 20 (.alloc 50 (.agg #[.int .i64 0, .int .i64 0, .int .i64 0, .slice none 0 0])), qN (.store 4 20 88), qI 21 (.mov 89)]
def r8_16 : List Ins := [qI 91 (.load 4 true 20), qI 92 (.call (.fn 26) [91]), qI 90 (.mov 92), qI 93 (.ext 0 90), qI 94 (.ext 1 90), qI 22 (.mov 93), qI 23 (.mov 94)]
def r8_17 : List Ins := [qI 95 (.mov 21), qI 96 (.bin .eql 95 (kI 0)), qI 97 (.mov 96), qT 98 97 (.mov 23), qT 99 97 (.bin .neq 98 (kI 0)), qT 100 97 (.mov 99), qF 101 100 (.mov 22), qF 102 100 (.mov 15), qF 103 100 (.call (.fn 15) [101, 102]), qF 104 100 (.un .not 103), qT 105 97 (.pick 100 (.k (.bool true)) 104), qI 106 (.pick 97 105 (.k (.bool false)))]
def r8_18 : List Ins := [qI 8 (.mov (.k (.bool false)))]
def r8_19 : List Ins := [qI 107 (.bin .add 59 (kI 1)), qI 59 (.mov 107)]
def r8_20 : List Ins := [qI 108 (.call (.fn 9) []), qI 8 (.mov 108)]
def x8 : XC := (.seq (.ops false r8_0) (.seq (.seq (.ops false r8_1) (.cond (.t 26) (.seq (.ops false r8_2) .ret) .skip)) (.seq (.ops false r8_3) (.seq (.ops false r8_4) (.seq (.ops false r8_5) (.seq (.seq (.ops false r8_6) (.cond (.t 47) (.seq (.ops false r8_7) .ret) .skip)) (.seq (.seq (.ops false r8_8) (.block 0 (.loop [] ⟨109, [(58, (.int .i64)), (59, (.int .i64))], [(57, .row 0)], [.row 22 (.list (.int .u8)) false]⟩ (.seq (.ops false r8_9) (.seq (.cond (.t 60) .skip (.exit 0)) (.seq (.block 1 (.seq (.ops false r8_10) (.seq (.ops false r8_11) (.seq (.ops false r8_12) (.seq (.seq (.ops false r8_13) (.cond (.t 84) (.seq (.ops false r8_14) .ret) .skip)) (.seq (.ops false r8_15) (.seq (.ops false r8_16) (.seq (.ops false r8_17) (.cond (.t 106) (.seq (.ops false r8_18) .ret) .skip))))))))) (.ops false r8_19))))))) (.seq (.ops false r8_20) .ret))))))))
theorem F8 : Fn Try.prog 8 109 x8.er [.t 8] := ⟨Try.f8, hcl, Try.func8, by kernel_rfl, by kernel_rfl, by kernel_rfl, by kernel_rfl⟩
noncomputable def m8 (a0 : List Int) (a1 : List Int) (a2 : Int) (a3 : Int) : Option (Bool × Unit) :=
 cond (iLt 400 (lenI a0))
 ((m9).bind fun y784 =>
 some (y784.1, ()))
 ((m10 a1).bind fun y785 =>
 (m18 y785.1 y785.2.1).bind fun y786 =>
 (m20 (y786.1, y786.2.1, y786.2.2.1, y786.2.2.2.1, y786.2.2.2.2.1, y786.2.2.2.2.2.1, ())).bind fun y787 =>
 (m25 y786.2.2.2.2.2.2.1 y786.2.2.2.2.2.2.2.1).bind fun y788 =>
 (m27 (y788.1, y788.2.1, y788.2.2.1, y788.2.2.2.2.2.1, ())).bind fun y789 =>
 cond (cond (iNe y787.2.1 0) true (iNe y789.2.1 0))
 (some (false, ()))
 ((m21 y787.1 a2 a3).bind fun y790 =>
 (m21 y789.1 a2 a3).bind fun y791 =>
 loopO (S := Int × Int × (List (List Int)) × Unit) (R := Bool × Unit) (fun s792 =>
 cond (iLt s792.2.1 s792.1)
 (cond (bnd s792.2.1 (lenI s792.2.2.1))
 (cond (inB (Int.toNat s792.2.1) s792.2.2.1)
 ((m22 (List.getD s792.2.2.1 (Int.toNat s792.2.1) [])).bind fun y793 =>
 (m19 (y793.1.1, y793.1.2.1, y793.1.2.2.1, y793.1.2.2.2.1, y793.1.2.2.2.2.1, y793.1.2.2.2.2.2.1, ())).bind fun y794 =>
 cond (iEq y793.2.1 0)
 (cond (iNe y794.2.1 0)
 (some (.inr (false, ())))
 ((m15 y794.1 (List.getD s792.2.2.1 (Int.toNat s792.2.1) [])).bind fun y795 =>
 cond (not y795.1)
 (some (.inr (false, ())))
 ((m28 (List.getD s792.2.2.1 (Int.toNat s792.2.1) [])).bind fun y796 =>
 (m26 (y796.1.1, y796.1.2.1, y796.1.2.2.1, y796.1.2.2.2.1, ())).bind fun y797 =>
 cond (iEq y796.2.1 0)
 (cond (iNe y797.2.1 0)
 (some (.inr (false, ())))
 ((m15 y797.1 (List.getD s792.2.2.1 (Int.toNat s792.2.1) [])).bind fun y798 =>
 cond (not y798.1)
 (some (.inr (false, ())))
 (some (.inl (s792.1, iAdd .i64 s792.2.1 1, s792.2.2.1, ())))))
 (some (.inl (s792.1, iAdd .i64 s792.2.1 1, s792.2.2.1, ()))))))
 ((m28 (List.getD s792.2.2.1 (Int.toNat s792.2.1) [])).bind fun y799 =>
 (m26 (y799.1.1, y799.1.2.1, y799.1.2.2.1, y799.1.2.2.2.1, ())).bind fun y800 =>
 cond (iEq y799.2.1 0)
 (cond (iNe y800.2.1 0)
 (some (.inr (false, ())))
 ((m15 y800.1 (List.getD s792.2.2.1 (Int.toNat s792.2.1) [])).bind fun y801 =>
 cond (not y801.1)
 (some (.inr (false, ())))
 (some (.inl (s792.1, iAdd .i64 s792.2.1 1, s792.2.2.1, ())))))
 (some (.inl (s792.1, iAdd .i64 s792.2.1 1, s792.2.2.1, ()))))) none) none)
 (Option.map Sum.inr ((m9).bind fun y802 =>
 some (y802.1, ()))))
 (lenI ([a0, y790.1, y791.1] : List (List Int)), 0, ([a0, y790.1, y791.1] : List (List Int)), ())))
noncomputable def cfg8 : Cfg := ⟨ttab, gtab, [i15, i19, i20, i21, i22, i26, i27, i28, i9], [h10, h18, h25]⟩
theorem eqn8 (x : (List Int) × (List Int) × Int × Int × Unit) : xfun cfg8 x8 109 [.t 8] [(.list (.int .u8)), (.list (.int .i64)), (.int .i64), (.int .u8)] [.bool] x = m8 x.1 x.2.1 x.2.2.1 x.2.2.2.1 := by kernel_rfl
noncomputable def i8 : PI := ⟨8, [(.list (.int .u8)), (.list (.int .i64)), (.int .i64), (.int .u8)], [.bool], fun (x : (List Int) × (List Int) × Int × Int × Unit) => m8 x.1 x.2.1 x.2.2.1 x.2.2.2.1⟩
theorem oki8 : POk Try.prog (gx gtab) i8 := pok mixed (cfg_p oki15 (cfg_p oki19 (cfg_p oki20 (cfg_p oki21 (cfg_p oki22 (cfg_p oki26 (cfg_p oki27 (cfg_p oki28 (cfg_p oki9 (cfg_h okh10 (cfg_h okh18 (cfg_h okh25 (cfg_nil _ _)))))))))))) : CfgOk _ cfg8) F8 eqn8
end Abs
end Go.Proofs.Ytbghnjkieghloaa
