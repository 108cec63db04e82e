/- The functions' models on the typed machine, printed by a program of mine; that they are the code's is checked by the kernel. -/
import Derived.Test.YtgkijjppdaeikaaDoorPI
import Derived.Test.YtgkijjppdaeikaaDoorPJ
import Derived.Test.YtgkijjppdaeikaaDoorXI
import Derived.Test.YtgkijjppdaeikaaDoorProg
import Derived.KernelRfl
namespace Go.Proofs.YtgkijjppdaeikaaDoor
namespace Abs
set_option maxRecDepth 100000
set_option linter.unusedVariables false
theorem mixed : Tryd.prog.follows .mixedOrders = true := by kernel_rfl
abbrev tS0 : Ty := .tup [.str, (.int .i64), (.list .str), (.int .i64), (.int .i64)]
abbrev DS0 : Type := ByteArray × Int × (List ByteArray) × Int × Int × Unit
abbrev tS1 : Ty := .tup [(.list tS0)]
abbrev DS1 : Type := (List DS0) × Unit
abbrev tS2 : Ty := .tup [(.int .u64), (.int .u64), (.int .u64), (.int .u64), (.int .u64), (.int .u64), (.int .u64), (.int .u64), (.int .u64), (.int .u64), (.int .u64), (.int .u64), (.int .u64), (.int .u64), (.int .u64), (.int .u64), (.int .u64), (.int .u64), (.int .u64), (.int .u64)]
abbrev DS2 : Type := Int × Int × Int × Int × Int × Int × Int × Int × Int × Int × Int × Int × Int × Int × Int × Int × Int × Int × Int × Int × Unit
instance (n : Nat) : OfNat Opd n := ⟨.t n⟩
@[reducible] def qI (d : Nat) (i : I) : Ins := ⟨some d, none, i⟩
@[reducible] def qT (d g : Nat) (i : I) : Ins := ⟨some d, some (g, true), i⟩
@[reducible] def qF (d g : Nat) (i : I) : Ins := ⟨some d, some (g, false), i⟩
@[reducible] def qN (i : I) : Ins := ⟨none, none, i⟩
@[reducible] def kN : Opd := .k (.slice none 0 0)
@[reducible] def kI (n : Int) : Opd := .k (.int .i64 n)
def ttab : Nat → Option Ty := fun n => if Nat.beq n 3 = true then some (.int .i64) else if Nat.beq n 5 = true then some (.int .u8) else if Nat.beq n 9 = true then some .str else if Nat.beq n 27 = true then some tS0 else none
structure GP where
  m : Int
  s1 : Int
  s2 : Int
  s3 : Int
  r1 : Int
  r2 : Int
  r3 : Int
def gtab (G : GP) : GXT := fun n => if Nat.beq n 0 = true then some ⟨(.int .i64), (show Int from G.m)⟩ else if Nat.beq n 3 = true then some ⟨tS2, (show DS2 from (1, 10, 100, 1000, 10000, 100000, 1000000, 10000000, 100000000, 1000000000, 10000000000, 100000000000, 1000000000000, 10000000000000, 100000000000000, 1000000000000000, 10000000000000000, 100000000000000000, 1000000000000000000, 10000000000000000000, ()))⟩ else if Nat.beq n 1000001 = true then some ⟨(.list (.int .i64)), (show List Int from [G.s1, G.s2, G.s3])⟩ else if Nat.beq n 1000002 = true then some ⟨(.list (.int .i64)), (show List Int from [G.r1, G.r2, G.r3])⟩ else none
def hcl : List Nat := [11, 12, 13, 16, 49, 50, 51, 64, 65, 79, 80, 81, 82, 109, 110, 111, 112, 113, 116, 117, 119, 120]
theorem okiItoa {G : GP} : POk Tryd.prog (gx (gtab G)) iItoa := okhItoa (by rfl)
theorem okiJoin {G : GP} : POk Tryd.prog (gx (gtab G)) iJoin := okhJoin
theorem okiCut {G : GP} : POk Tryd.prog (gx (gtab G)) iCut := okhCut (m := G.m) (by rfl)
theorem okiTrim {G : GP} : POk Tryd.prog (gx (gtab G)) iTrim := okhTrim
theorem okiRead {G : GP} : POk Tryd.prog (gx (gtab G)) iRead := okhRead (t1 := G.s1.toNat) (p1 := ⟨G.s2.toNat, G.s3.toNat, none⟩) (t2 := G.r1.toNat) (p2 := ⟨G.r2.toNat, G.r3.toNat, none⟩) (by rfl) (by rfl)
/- 10 treaty/treatymade.Within -/
def r10_0 : List Ins := [qI 4 (.mov (kI 0))]
def r10_1 : List Ins := [qI 5 (.mov 0), qI 6 (.mov 1), qI 7 (.bin .rem 5 6), qI 8 (.mov 1), qI 9 (.bin .add 7 8), qI 10 (.mov 1), qI 11 (.bin .rem 9 10), qI 4 (.mov 11)]
def x10 : XC := (.seq (.ops false r10_0) (.seq (.ops false r10_1) .ret))
theorem F10 : Fn Tryd.prog 10 12 x10.er [.t 4] := ⟨Tryd.f10, hcl, Tryd.func10, by kernel_rfl, by kernel_rfl, by kernel_rfl, by kernel_rfl⟩
noncomputable def m10 (a0 : Int) (a1 : Int) : Option (Int × Unit) :=
 cond (iNe a1 0)
 (cond (iNe a1 0)
 (some (iRem (iAdd .i64 (iRem a0 a1) a1) a1, ())) none) none
noncomputable def cfg10 (G : GP) : Cfg := ⟨ttab, (gtab G), [], []⟩
theorem eqn10 (G : GP) (x : Int × Int × Unit) : xfun (cfg10 G) x10 12 [.t 4] [(.int .i64), (.int .i64)] [(.int .i64)] x = m10 x.1 x.2.1 := by kernel_rfl
noncomputable def i10 : PI := ⟨10, [(.int .i64), (.int .i64)], [(.int .i64)], fun (x : Int × Int × Unit) => m10 x.1 x.2.1⟩
theorem oki10 {G : GP} : POk Tryd.prog (gx (gtab G)) i10 := pok mixed (cfg_nil _ _ : CfgOk _ (cfg10 G)) F10 (eqn10 G)
/- 25 treaty/treatymade.peril -/
def r25_0 : List Ins := [qI 0 (.alloc 27 (.agg #[.string (bs []), .int .i64 0, .slice none 0 0, .int .i64 0, .int .i64 0]))]
def r25_1 : List Ins := [qI 1 (.bslice 9 1 [(.k (.string (bs [102, 105, 114, 101]))), (.k (.string (bs [102, 108, 111, 111, 100]))), (.k (.string (bs [119, 105, 110, 100]))), (.k (.string (bs [116, 104, 101, 102, 116])))]), qI 2 (.build [.string (bs []), .int .i64 0, .slice none 0 0, .int .i64 0, .int .i64 0] [(0, 1, (.k (.string (bs [112, 101, 114, 105, 108])))), (1, 1, (kI 1)), (2, 1, 1)]), qN (.store 5 0 2)]
def x25 : XC := (.seq (.ops false r25_0) (.seq (.ops false r25_1) .ret))
theorem F25 : Fn Tryd.prog 25 3 x25.er [.c 0 5 true] := ⟨Tryd.f25, hcl, Tryd.func25, by kernel_rfl, by kernel_rfl, by kernel_rfl, by kernel_rfl⟩
noncomputable def m25 : Option (DS0 × Unit) :=
 some (((bs [112, 101, 114, 105, 108]), 1, ([(bs [102, 105, 114, 101]), (bs [102, 108, 111, 111, 100]), (bs [119, 105, 110, 100]), (bs [116, 104, 101, 102, 116])] : List ByteArray), 0, 0, ()), ())
noncomputable def cfg25 (G : GP) : Cfg := ⟨ttab, (gtab G), [], []⟩
theorem eqn25 (G : GP) (x : Unit) : xfun (cfg25 G) x25 3 [.c 0 5 true] [] [tS0] x = m25 := by kernel_rfl
noncomputable def i25 : PI := ⟨25, [], [tS0], fun (x : Unit) => m25⟩
theorem oki25 {G : GP} : POk Tryd.prog (gx (gtab G)) i25 := pok mixed (cfg_nil _ _ : CfgOk _ (cfg25 G)) F25 (eqn25 G)
/- 9 treaty/treatymade.Schema -/
def r9_0 : List Ins := [qI 2 (.alloc 24 (.agg #[.slice none 0 0]))]
def r9_1 : List Ins := [qI 3 (.mov 0), qI 4 (.call (.fn 10) [3, (kI 6)])]
def r9_2 : List Ins := [qI 6 (.bin .eql 4 (kI 0)), qI 5 (.mov 6)]
def r9_3 : List Ins := [qI 7 (.call (.fn 25) []), qI 8 (.build [.string (bs []), .int .i64 0, .slice none 0 0, .int .i64 0, .int .i64 0] [(0, 1, (.k (.string (bs [115, 116, 111, 114, 101, 121, 115])))), (1, 1, (kI 2)), (3, 1, (kI 1)), (4, 1, (kI 9))]), qI 9 (.build [.string (bs []), .int .i64 0, .slice none 0 0, .int .i64 0, .int .i64 0] [(0, 1, (.k (.string (bs [97, 108, 97, 114, 109])))), (1, 1, (kI 3))]), qI 10 (.bslice 27 5 [7, 8, 9]), qI 11 (.build [.slice none 0 0] [(0, 1, 10)]), qN (.store 1 2 11)]
def r9_4 : List Ins := [qI 13 (.bin .eql 4 (kI 1)), qI 12 (.mov 13)]
def r9_5 : List Ins := [qI 14 (.build [.string (bs []), .int .i64 0, .slice none 0 0, .int .i64 0, .int .i64 0] [(0, 1, (.k (.string (bs [110])))), (1, 1, (kI 2)), (3, 1, (.k (.int .i64 (-5)))), (4, 1, (kI 20))]), qI 15 (.bslice 27 5 [14]), qI 16 (.build [.slice none 0 0] [(0, 1, 15)]), qN (.store 1 2 16)]
def r9_6 : List Ins := [qI 18 (.bin .eql 4 (kI 2)), qI 17 (.mov 18)]
def r9_7 : List Ins := [qI 19 (.build [.string (bs []), .int .i64 0, .slice none 0 0, .int .i64 0, .int .i64 0] [(0, 1, (.k (.string (bs [97])))), (1, 1, (kI 3))]), qI 20 (.bslice 9 1 [(.k (.string (bs [99, 114, 101, 119]))), (.k (.string (bs [103, 117, 101, 115, 116])))]), qI 21 (.build [.string (bs []), .int .i64 0, .slice none 0 0, .int .i64 0, .int .i64 0] [(0, 1, (.k (.string (bs [114, 111, 108, 101])))), (1, 1, (kI 1)), (2, 1, 20)]), qI 22 (.build [.string (bs []), .int .i64 0, .slice none 0 0, .int .i64 0, .int .i64 0] [(0, 1, (.k (.string (bs [98])))), (1, 1, (kI 3))]), qI 23 (.bslice 27 5 [19, 21, 22]), qI 24 (.build [.slice none 0 0] [(0, 1, 23)]), qN (.store 1 2 24)]
def r9_8 : List Ins := [qI 26 (.bin .eql 4 (kI 3)), qI 25 (.mov 26)]
def r9_9 : List Ins := [qI 27 (.build [.string (bs []), .int .i64 0, .slice none 0 0, .int .i64 0, .int .i64 0] [(0, 1, (.k (.string (bs [110])))), (1, 1, (kI 2)), (3, 1, (.k (.int .i64 (-1000000000)))), (4, 1, (kI 1000000000))]), qI 28 (.build [.string (bs []), .int .i64 0, .slice none 0 0, .int .i64 0, .int .i64 0] [(0, 1, (.k (.string (bs [116])))), (1, 1, (kI 3))]), qI 29 (.bslice 27 5 [27, 28]), qI 30 (.build [.slice none 0 0] [(0, 1, 29)]), qN (.store 1 2 30)]
def r9_10 : List Ins := [qI 32 (.bin .eql 4 (kI 4)), qI 31 (.mov 32)]
def r9_11 : List Ins := [qI 33 (.bslice 9 1 [(.k (.string (bs [111, 110, 108, 121])))]), qI 34 (.build [.string (bs []), .int .i64 0, .slice none 0 0, .int .i64 0, .int .i64 0] [(0, 1, (.k (.string (bs [111, 110, 101])))), (1, 1, (kI 1)), (2, 1, 33)]), qI 35 (.call (.fn 25) []), qI 36 (.build [.string (bs []), .int .i64 0, .slice none 0 0, .int .i64 0, .int .i64 0] [(0, 1, (.k (.string (bs [110])))), (1, 1, (kI 2)), (3, 1, (kI 0)), (4, 1, (kI 6))]), qI 37 (.build [.string (bs []), .int .i64 0, .slice none 0 0, .int .i64 0, .int .i64 0] [(0, 1, (.k (.string (bs [116])))), (1, 1, (kI 3))]), qI 38 (.bslice 27 5 [34, 35, 36, 37]), qI 39 (.build [.slice none 0 0] [(0, 1, 38)]), qN (.store 1 2 39)]
def r9_12 : List Ins := [qI 40 (.build [.string (bs []), .int .i64 0, .slice none 0 0, .int .i64 0, .int .i64 0] [(0, 1, (.k (.string (bs [116])))), (1, 1, (kI 3))]), qI 41 (.bslice 27 5 [40]), qI 42 (.build [.slice none 0 0] [(0, 1, 41)]), qN (.store 1 2 42)]
def x9 : XC := (.seq (.ops false r9_0) (.seq (.seq (.ops false r9_1) (.block 0 (.seq (.ops false r9_2) (.cond (.t 5) (.seq (.ops false r9_3) .ret) (.seq (.ops false r9_4) (.cond (.t 12) (.seq (.ops false r9_5) .ret) (.seq (.ops false r9_6) (.cond (.t 17) (.seq (.ops false r9_7) .ret) (.seq (.ops false r9_8) (.cond (.t 25) (.seq (.ops false r9_9) .ret) (.seq (.ops false r9_10) (.cond (.t 31) (.seq (.ops false r9_11) .ret) .skip)))))))))))) (.seq (.ops false r9_12) .ret)))
theorem F9 : Fn Tryd.prog 9 43 x9.er [.c 2 1 true] := ⟨Tryd.f9, hcl, Tryd.func9, by kernel_rfl, by kernel_rfl, by kernel_rfl, by kernel_rfl⟩
noncomputable def m9 (a0 : Int) : Option (DS1 × Unit) :=
 (m10 a0 6).bind fun y1 =>
 cond (iEq y1.1 0)
 ((m25).bind fun y2 =>
 some ((([y2.1, ((bs [115, 116, 111, 114, 101, 121, 115]), 2, ([] : List ByteArray), 1, 9, ()), ((bs [97, 108, 97, 114, 109]), 3, ([] : List ByteArray), 0, 0, ())] : List DS0), ()), ()))
 (cond (iEq y1.1 1)
 (some ((([((bs [110]), 2, ([] : List ByteArray), (-5), 20, ())] : List DS0), ()), ()))
 (cond (iEq y1.1 2)
 (some ((([((bs [97]), 3, ([] : List ByteArray), 0, 0, ()), ((bs [114, 111, 108, 101]), 1, ([(bs [99, 114, 101, 119]), (bs [103, 117, 101, 115, 116])] : List ByteArray), 0, 0, ()), ((bs [98]), 3, ([] : List ByteArray), 0, 0, ())] : List DS0), ()), ()))
 (cond (iEq y1.1 3)
 (some ((([((bs [110]), 2, ([] : List ByteArray), (-1000000000), 1000000000, ()), ((bs [116]), 3, ([] : List ByteArray), 0, 0, ())] : List DS0), ()), ()))
 (cond (iEq y1.1 4)
 ((m25).bind fun y3 =>
 some ((([((bs [111, 110, 101]), 1, ([(bs [111, 110, 108, 121])] : List ByteArray), 0, 0, ()), y3.1, ((bs [110]), 2, ([] : List ByteArray), 0, 6, ()), ((bs [116]), 3, ([] : List ByteArray), 0, 0, ())] : List DS0), ()), ()))
 (some ((([((bs [116]), 3, ([] : List ByteArray), 0, 0, ())] : List DS0), ()), ()))))))
noncomputable def cfg9 (G : GP) : Cfg := ⟨ttab, (gtab G), [i10, i25], []⟩
theorem eqn9 (G : GP) (x : Int × Unit) : xfun (cfg9 G) x9 43 [.c 2 1 true] [(.int .i64)] [tS1] x = m9 x.1 := by kernel_rfl
noncomputable def i9 : PI := ⟨9, [(.int .i64)], [tS1], fun (x : Int × Unit) => m9 x.1⟩
theorem oki9 {G : GP} : POk Tryd.prog (gx (gtab G)) i9 := pok mixed (cfg_p oki10 (cfg_p oki25 (cfg_nil _ _)) : CfgOk _ (cfg9 G)) F9 (eqn9 G)
/- 58 treaty/lexer.letter -/
def r58_0 : List Ins := [qI 2 (.mov (.k (.bool false)))]
def r58_1 : List Ins := [qI 3 (.mov 0), qI 4 (.bin .leq (.k (.int .u8 97)) 3), qI 5 (.mov 4), qT 6 5 (.mov 0), qT 7 5 (.bin .leq 6 (.k (.int .u8 122))), qI 8 (.pick 5 7 (.k (.bool false))), qI 2 (.mov 8)]
def x58 : XC := (.seq (.ops false r58_0) (.seq (.ops false r58_1) .ret))
theorem F58 : Fn Tryd.prog 58 9 x58.er [.t 2] := ⟨Tryd.f58, hcl, Tryd.func58, by kernel_rfl, by kernel_rfl, by kernel_rfl, by kernel_rfl⟩
noncomputable def m58 (a0 : Int) : Option (Bool × Unit) :=
 some (cond (iLe 97 a0) (iLe a0 122) false, ())
noncomputable def cfg58 (G : GP) : Cfg := ⟨ttab, (gtab G), [], []⟩
theorem eqn58 (G : GP) (x : Int × Unit) : xfun (cfg58 G) x58 9 [.t 2] [(.int .u8)] [.bool] x = m58 x.1 := by kernel_rfl
noncomputable def i58 : PI := ⟨58, [(.int .u8)], [.bool], fun (x : Int × Unit) => m58 x.1⟩
theorem oki58 {G : GP} : POk Tryd.prog (gx (gtab G)) i58 := pok mixed (cfg_nil _ _ : CfgOk _ (cfg58 G)) F58 (eqn58 G)
/- 70 treaty/lexer.digit -/
def r70_0 : List Ins := [qI 2 (.mov (.k (.bool false)))]
def r70_1 : List Ins := [qI 3 (.mov 0), qI 4 (.bin .leq (.k (.int .u8 48)) 3), qI 5 (.mov 4), qT 6 5 (.mov 0), qT 7 5 (.bin .leq 6 (.k (.int .u8 57))), qI 8 (.pick 5 7 (.k (.bool false))), qI 2 (.mov 8)]
def x70 : XC := (.seq (.ops false r70_0) (.seq (.ops false r70_1) .ret))
theorem F70 : Fn Tryd.prog 70 9 x70.er [.t 2] := ⟨Tryd.f70, hcl, Tryd.func70, by kernel_rfl, by kernel_rfl, by kernel_rfl, by kernel_rfl⟩
noncomputable def m70 (a0 : Int) : Option (Bool × Unit) :=
 some (cond (iLe 48 a0) (iLe a0 57) false, ())
noncomputable def cfg70 (G : GP) : Cfg := ⟨ttab, (gtab G), [], []⟩
theorem eqn70 (G : GP) (x : Int × Unit) : xfun (cfg70 G) x70 9 [.t 2] [(.int .u8)] [.bool] x = m70 x.1 := by kernel_rfl
noncomputable def i70 : PI := ⟨70, [(.int .u8)], [.bool], fun (x : Int × Unit) => m70 x.1⟩
theorem oki70 {G : GP} : POk Tryd.prog (gx (gtab G)) i70 := pok mixed (cfg_nil _ _ : CfgOk _ (cfg70 G)) F70 (eqn70 G)
/- 60 treaty/lexer.inWord -/
def r60_0 : List Ins := [qI 2 (.mov (.k (.bool false)))]
def r60_1 : List Ins := [qI 3 (.mov 0), qI 4 (.call (.fn 58) [3]), qI 5 (.mov 4), qF 6 5 (.mov 0), qF 7 5 (.call (.fn 70) [6]), qI 8 (.pick 5 (.k (.bool true)) 7), qI 9 (.mov 8), qF 10 9 (.mov 0), qF 11 9 (.bin .eql 10 (.k (.int .u8 45))), qI 12 (.pick 9 (.k (.bool true)) 11), qI 2 (.mov 12)]
def x60 : XC := (.seq (.ops false r60_0) (.seq (.ops false r60_1) .ret))
theorem F60 : Fn Tryd.prog 60 13 x60.er [.t 2] := ⟨Tryd.f60, hcl, Tryd.func60, by kernel_rfl, by kernel_rfl, by kernel_rfl, by kernel_rfl⟩
noncomputable def m60 (a0 : Int) : Option (Bool × Unit) :=
 (m58 a0).bind fun y8 =>
 cond y8.1
 (some (true, ()))
 ((m70 a0).bind fun y9 =>
 some (cond y9.1 true (iEq a0 45), ()))
noncomputable def cfg60 (G : GP) : Cfg := ⟨ttab, (gtab G), [i58, i70], []⟩
theorem eqn60 (G : GP) (x : Int × Unit) : xfun (cfg60 G) x60 13 [.t 2] [(.int .u8)] [.bool] x = m60 x.1 := by kernel_rfl
noncomputable def i60 : PI := ⟨60, [(.int .u8)], [.bool], fun (x : Int × Unit) => m60 x.1⟩
theorem oki60 {G : GP} : POk Tryd.prog (gx (gtab G)) i60 := pok mixed (cfg_p oki58 (cfg_p oki70 (cfg_nil _ _)) : CfgOk _ (cfg60 G)) F60 (eqn60 G)
/- 59 treaty/lexer.span -/
def r59_0 : List Ins := [qI 6 (.mov (kI 0))]
def r59_1 : List Ins := [qI 7 (.mov 1), qI 8 (.mov 0), qI 9 (.slen 8), qI 10 (.bin .lss 7 9), qI 11 (.mov 10), qT 12 11 (.mov 2), qT 13 11 (.mov 0), qT 14 11 (.mov 1), qT 15 11 (.idx 13 14), qT 16 11 (.call 12 [15]), qI 17 (.pick 11 16 (.k (.bool false)))]
def r59_2 : List Ins := [qI 18 (.mov 1), qI 19 (.bin .add 18 (kI 1)), qI 1 (.mov 19)]
def r59_3 : List Ins := [qI 20 (.mov 1), qI 6 (.mov 20)]
def x59 : XC := (.seq (.ops false r59_0) (.seq (.block 0 (.loop [] ⟨21, [(0, .str), (1, (.int .i64)), (2, (.fnc 60))], [], []⟩ (.seq (.seq (.ops false r59_1) (.cond (.t 17) .skip (.exit 0))) (.block 1 (.ops false r59_2))))) (.seq (.ops false r59_3) .ret)))
theorem F59 : Fn Tryd.prog 59 21 x59.er [.t 6] := ⟨Tryd.f59, hcl, Tryd.func59, by kernel_rfl, by kernel_rfl, by kernel_rfl, by kernel_rfl⟩
noncomputable def m59 (a0 : ByteArray) (a1 : Int) (a2 : Unit) : Option (Int × Unit) :=
 loopO (S := ByteArray × Int × Unit × Unit) (R := Int × Unit) (fun s11 =>
 cond (or (bnd s11.2.1 (sLen s11.1)) (not (bEq (iLt s11.2.1 (sLen s11.1)) true)))
 (cond (iLt s11.2.1 (sLen s11.1))
 ((m60 (sAt s11.1 s11.2.1)).bind fun y12 =>
 cond y12.1
 (some (.inl (s11.1, iAdd .i64 s11.2.1 1, s11.2.2.1, ())))
 (some (.inr (s11.2.1, ()))))
 (some (.inr (s11.2.1, ())))) none)
 (a0, a1, (), ())
noncomputable def cfg59 (G : GP) : Cfg := ⟨ttab, (gtab G), [i60], []⟩
theorem eqn59 (G : GP) (x : ByteArray × Int × Unit × Unit) : xfun (cfg59 G) x59 21 [.t 6] [.str, (.int .i64), (.fnc 60)] [(.int .i64)] x = m59 x.1 x.2.1 x.2.2.1 := by kernel_rfl
noncomputable def i59 : PI := ⟨59, [.str, (.int .i64), (.fnc 60)], [(.int .i64)], fun (x : ByteArray × Int × Unit × Unit) => m59 x.1 x.2.1 x.2.2.1⟩
theorem oki59 {G : GP} : POk Tryd.prog (gx (gtab G)) i59 := pok mixed (cfg_p oki60 (cfg_nil _ _) : CfgOk _ (cfg59 G)) F59 (eqn59 G)
/- 40 treaty/lexer.word -/
def r40_0 : List Ins := [qI 2 (.mov (.k (.bool false)))]
def r40_1 : List Ins := [qI 3 (.mov 0), qI 4 (.slen 3), qI 5 (.bin .eql 4 (kI 0)), qI 6 (.mov 5), qF 7 6 (.mov 0), qF 8 6 (.slen 7), qF 9 6 (.bin .gtr 8 (kI 16)), qI 10 (.pick 6 (.k (.bool true)) 9), qI 11 (.mov 10), qF 12 11 (.mov 0), qF 13 11 (.idx 12 (kI 0)), qF 14 11 (.call (.fn 58) [13]), qF 15 11 (.un .not 14), qI 16 (.pick 11 (.k (.bool true)) 15), qI 17 (.mov 16), qF 18 17 (.mov 0), qF 19 17 (.mov 0), qF 20 17 (.slen 19), qF 21 17 (.bin .sub 20 (kI 1)), qF 22 17 (.idx 18 21), qF 23 17 (.bin .eql 22 (.k (.int .u8 45))), qI 24 (.pick 17 (.k (.bool true)) 23)]
def r40_2 : List Ins := [qI 2 (.mov (.k (.bool false)))]
def r40_3 : List Ins := [qI 25 (.mov 0), qI 26 (.call (.fn 59) [25, (kI 0), (.fn 60)]), qI 27 (.mov 0), qI 28 (.slen 27), qI 29 (.bin .eql 26 28), qI 2 (.mov 29)]
def x40 : XC := (.seq (.ops false r40_0) (.seq (.seq (.ops false r40_1) (.cond (.t 24) (.seq (.ops false r40_2) .ret) .skip)) (.seq (.ops false r40_3) .ret)))
theorem F40 : Fn Tryd.prog 40 30 x40.er [.t 2] := ⟨Tryd.f40, hcl, Tryd.func40, by kernel_rfl, by kernel_rfl, by kernel_rfl, by kernel_rfl⟩
noncomputable def m40 (a0 : ByteArray) : Option (Bool × Unit) :=
 cond (or (bnd 0 (sLen a0)) (not (bEq (cond (iEq (sLen a0) 0) true (iLt 16 (sLen a0))) false)))
 (cond (cond (iEq (sLen a0) 0) true (iLt 16 (sLen a0)))
 (cond (or (bnd (iSub .i64 (sLen a0) 1) (sLen a0)) (not (bEq true false)))
 (some (false, ())) none)
 ((m58 (sAt a0 0)).bind fun y6 =>
 cond (or (bnd (iSub .i64 (sLen a0) 1) (sLen a0)) (not (bEq (not y6.1) false)))
 (cond (cond (not y6.1) true (iEq (sAt a0 (iSub .i64 (sLen a0) 1)) 45))
 (some (false, ()))
 ((m59 a0 0 ()).bind fun y13 =>
 some (iEq y13.1 (sLen a0), ()))) none)) none
noncomputable def cfg40 (G : GP) : Cfg := ⟨ttab, (gtab G), [i58, i59], []⟩
theorem eqn40 (G : GP) (x : ByteArray × Unit) : xfun (cfg40 G) x40 30 [.t 2] [.str] [.bool] x = m40 x.1 := by kernel_rfl
noncomputable def i40 : PI := ⟨40, [.str], [.bool], fun (x : ByteArray × Unit) => m40 x.1⟩
theorem oki40 {G : GP} : POk Tryd.prog (gx (gtab G)) i40 := pok mixed (cfg_p oki58 (cfg_p oki59 (cfg_nil _ _)) : CfgOk _ (cfg40 G)) F40 (eqn40 G)
/- 41 treaty/lexer.Reserved -/
def r41_0 : List Ins := [qI 2 (.mov (.k (.bool false)))]
def r41_1 : List Ins := [qI 3 (.mov 0)]
def r41_2 : List Ins := [qI 5 (.bin .eql 3 (.k (.string (bs [97, 110, 100])))), qI 4 (.mov 5)]
def r41_3 : List Ins := [qI 6 (.bin .eql 3 (.k (.string (bs [97, 118, 101, 114, 97, 103, 101])))), qI 4 (.mov 6)]
def r41_4 : List Ins := [qI 7 (.bin .eql 3 (.k (.string (bs [99, 111, 105, 110, 115, 117, 114, 97, 110, 99, 101])))), qI 4 (.mov 7)]
def r41_5 : List Ins := [qI 8 (.bin .eql 3 (.k (.string (bs [99, 111, 110, 100, 105, 116, 105, 111, 110])))), qI 4 (.mov 8)]
def r41_6 : List Ins := [qI 9 (.bin .eql 3 (.k (.string (bs [99, 111, 118, 101, 114])))), qI 4 (.mov 9)]
def r41_7 : List Ins := [qI 10 (.bin .eql 3 (.k (.string (bs [100, 101, 100, 117, 99, 116, 105, 98, 108, 101])))), qI 4 (.mov 10)]
def r41_8 : List Ins := [qI 11 (.bin .eql 3 (.k (.string (bs [100, 101, 102, 105, 110, 101])))), qI 4 (.mov 11)]
def r41_9 : List Ins := [qI 12 (.bin .eql 3 (.k (.string (bs [101, 110, 100])))), qI 4 (.mov 12)]
def r41_10 : List Ins := [qI 13 (.bin .eql 3 (.k (.string (bs [101, 110, 100, 111, 114, 115, 101])))), qI 4 (.mov 13)]
def r41_11 : List Ins := [qI 14 (.bin .eql 3 (.k (.string (bs [101, 120, 99, 108, 117, 100, 101])))), qI 4 (.mov 14)]
def r41_12 : List Ins := [qI 15 (.bin .eql 3 (.k (.string (bs [102, 97, 108, 115, 101])))), qI 4 (.mov 15)]
def r41_13 : List Ins := [qI 16 (.bin .eql 3 (.k (.string (bs [102, 114, 97, 110, 99, 104, 105, 115, 101])))), qI 4 (.mov 16)]
def r41_14 : List Ins := [qI 17 (.bin .eql 3 (.k (.string (bs [102, 114, 111, 109])))), qI 4 (.mov 17)]
def r41_15 : List Ins := [qI 18 (.bin .eql 3 (.k (.string (bs [105, 110])))), qI 4 (.mov 18)]
def r41_16 : List Ins := [qI 19 (.bin .eql 3 (.k (.string (bs [108, 105, 109, 105, 116])))), qI 4 (.mov 19)]
def r41_17 : List Ins := [qI 20 (.bin .eql 3 (.k (.string (bs [110, 111, 116])))), qI 4 (.mov 20)]
def r41_18 : List Ins := [qI 21 (.bin .eql 3 (.k (.string (bs [111, 114])))), qI 4 (.mov 21)]
def r41_19 : List Ins := [qI 22 (.bin .eql 3 (.k (.string (bs [114, 101, 109, 111, 118, 101])))), qI 4 (.mov 22)]
def r41_20 : List Ins := [qI 23 (.bin .eql 3 (.k (.string (bs [115, 117, 98, 108, 105, 109, 105, 116])))), qI 4 (.mov 23)]
def r41_21 : List Ins := [qI 24 (.bin .eql 3 (.k (.string (bs [116, 111])))), qI 4 (.mov 24)]
def r41_22 : List Ins := [qI 25 (.bin .eql 3 (.k (.string (bs [116, 114, 117, 101])))), qI 4 (.mov 25)]
def r41_23 : List Ins := [qI 26 (.bin .eql 3 (.k (.string (bs [117, 110, 108, 101, 115, 115])))), qI 4 (.mov 26)]
def r41_24 : List Ins := [qI 27 (.bin .eql 3 (.k (.string (bs [119, 104, 101, 110])))), qI 4 (.mov 27)]
def r41_25 : List Ins := [qI 2 (.mov (.k (.bool true)))]
def r41_26 : List Ins := [qI 2 (.mov (.k (.bool false)))]
def x41 : XC := (.seq (.ops false r41_0) (.seq (.seq (.ops false r41_1) (.block 0 (.seq (.seq (.ops false r41_2) (.cond (.t 4) .skip (.seq (.ops false r41_3) (.cond (.t 4) .skip (.seq (.ops false r41_4) (.cond (.t 4) .skip (.seq (.ops false r41_5) (.cond (.t 4) .skip (.seq (.ops false r41_6) (.cond (.t 4) .skip (.seq (.ops false r41_7) (.cond (.t 4) .skip (.seq (.ops false r41_8) (.cond (.t 4) .skip (.seq (.ops false r41_9) (.cond (.t 4) .skip (.seq (.ops false r41_10) (.cond (.t 4) .skip (.seq (.ops false r41_11) (.cond (.t 4) .skip (.seq (.ops false r41_12) (.cond (.t 4) .skip (.seq (.ops false r41_13) (.cond (.t 4) .skip (.seq (.ops false r41_14) (.cond (.t 4) .skip (.seq (.ops false r41_15) (.cond (.t 4) .skip (.seq (.ops false r41_16) (.cond (.t 4) .skip (.seq (.ops false r41_17) (.cond (.t 4) .skip (.seq (.ops false r41_18) (.cond (.t 4) .skip (.seq (.ops false r41_19) (.cond (.t 4) .skip (.seq (.ops false r41_20) (.cond (.t 4) .skip (.seq (.ops false r41_21) (.cond (.t 4) .skip (.seq (.ops false r41_22) (.cond (.t 4) .skip (.seq (.ops false r41_23) (.cond (.t 4) .skip (.ops false r41_24))))))))))))))))))))))))))))))))))))))))))))) (.cond (.t 4) (.seq (.ops false r41_25) .ret) .skip)))) (.seq (.ops false r41_26) .ret)))
theorem F41 : Fn Tryd.prog 41 28 x41.er [.t 2] := ⟨Tryd.f41, hcl, Tryd.func41, by kernel_rfl, by kernel_rfl, by kernel_rfl, by kernel_rfl⟩
noncomputable def m41 (a0 : ByteArray) : Option (Bool × Unit) :=
 cond (sEq a0 (bs [97, 110, 100]))
 (some (true, ()))
 (cond (sEq a0 (bs [97, 118, 101, 114, 97, 103, 101]))
 (some (true, ()))
 (cond (sEq a0 (bs [99, 111, 105, 110, 115, 117, 114, 97, 110, 99, 101]))
 (some (true, ()))
 (cond (sEq a0 (bs [99, 111, 110, 100, 105, 116, 105, 111, 110]))
 (some (true, ()))
 (cond (sEq a0 (bs [99, 111, 118, 101, 114]))
 (some (true, ()))
 (cond (sEq a0 (bs [100, 101, 100, 117, 99, 116, 105, 98, 108, 101]))
 (some (true, ()))
 (cond (sEq a0 (bs [100, 101, 102, 105, 110, 101]))
 (some (true, ()))
 (cond (sEq a0 (bs [101, 110, 100]))
 (some (true, ()))
 (cond (sEq a0 (bs [101, 110, 100, 111, 114, 115, 101]))
 (some (true, ()))
 (cond (sEq a0 (bs [101, 120, 99, 108, 117, 100, 101]))
 (some (true, ()))
 (cond (sEq a0 (bs [102, 97, 108, 115, 101]))
 (some (true, ()))
 (cond (sEq a0 (bs [102, 114, 97, 110, 99, 104, 105, 115, 101]))
 (some (true, ()))
 (cond (sEq a0 (bs [102, 114, 111, 109]))
 (some (true, ()))
 (cond (sEq a0 (bs [105, 110]))
 (some (true, ()))
 (cond (sEq a0 (bs [108, 105, 109, 105, 116]))
 (some (true, ()))
 (cond (sEq a0 (bs [110, 111, 116]))
 (some (true, ()))
 (cond (sEq a0 (bs [111, 114]))
 (some (true, ()))
 (cond (sEq a0 (bs [114, 101, 109, 111, 118, 101]))
 (some (true, ()))
 (cond (sEq a0 (bs [115, 117, 98, 108, 105, 109, 105, 116]))
 (some (true, ()))
 (cond (sEq a0 (bs [116, 111]))
 (some (true, ()))
 (cond (sEq a0 (bs [116, 114, 117, 101]))
 (some (true, ()))
 (cond (sEq a0 (bs [117, 110, 108, 101, 115, 115]))
 (some (true, ()))
 (cond (sEq a0 (bs [119, 104, 101, 110]))
 (some (true, ()))
 (some (false, ()))))))))))))))))))))))))
noncomputable def cfg41 (G : GP) : Cfg := ⟨ttab, (gtab G), [], []⟩
theorem eqn41 (G : GP) (x : ByteArray × Unit) : xfun (cfg41 G) x41 28 [.t 2] [.str] [.bool] x = m41 x.1 := by kernel_rfl
noncomputable def i41 : PI := ⟨41, [.str], [.bool], fun (x : ByteArray × Unit) => m41 x.1⟩
theorem oki41 {G : GP} : POk Tryd.prog (gx (gtab G)) i41 := pok mixed (cfg_nil _ _ : CfgOk _ (cfg41 G)) F41 (eqn41 G)
/- 26 treaty/lexer.Name -/
def r26_0 : List Ins := [qI 2 (.mov (.k (.bool false)))]
def r26_1 : List Ins := [qI 3 (.mov 0), qI 4 (.call (.fn 40) [3]), qI 5 (.mov 4), qT 6 5 (.mov 0), qT 7 5 (.call (.fn 41) [6]), qT 8 5 (.un .not 7), qI 9 (.pick 5 8 (.k (.bool false))), qI 2 (.mov 9)]
def x26 : XC := (.seq (.ops false r26_0) (.seq (.ops false r26_1) .ret))
theorem F26 : Fn Tryd.prog 26 10 x26.er [.t 2] := ⟨Tryd.f26, hcl, Tryd.func26, by kernel_rfl, by kernel_rfl, by kernel_rfl, by kernel_rfl⟩
noncomputable def m26 (a0 : ByteArray) : Option (Bool × Unit) :=
 (m40 a0).bind fun y14 =>
 cond y14.1
 ((m41 a0).bind fun y15 =>
 some (not y15.1, ()))
 (some (false, ()))
noncomputable def cfg26 (G : GP) : Cfg := ⟨ttab, (gtab G), [i40, i41], []⟩
theorem eqn26 (G : GP) (x : ByteArray × Unit) : xfun (cfg26 G) x26 10 [.t 2] [.str] [.bool] x = m26 x.1 := by kernel_rfl
noncomputable def i26 : PI := ⟨26, [.str], [.bool], fun (x : ByteArray × Unit) => m26 x.1⟩
theorem oki26 {G : GP} : POk Tryd.prog (gx (gtab G)) i26 := pok mixed (cfg_p oki40 (cfg_p oki41 (cfg_nil _ _)) : CfgOk _ (cfg26 G)) F26 (eqn26 G)
/- 27 treaty/schema.Index -/
def r27_0 : List Ins := [qI 2 (.box 24 1 0), qI 4 (.mov (kI 0)), qI 5 (.mov (.k (.bool false)))]
def r27_1 : List Ins := [qI 8 (.faddr 0 2), qI 9 (.load 1 false 8), qI 10 (.len 9), qI 11 (.mov (kI 0))]
def r27_2 : List Ins := [qI 12 (.bin .lss 11 10)]
def r27_3 : List Ins := [qI 13 (.mov 11), qI 14 (.iaddr 5 9 11), qI 15 (.load 5 true 14), qI 7 (.alloc 27 (.agg #[.string (bs []), .int .i64 0, .slice none 0 0, .int .i64 0, .int .i64 0])), qI 6 (.mov 13), qN (.store 5 7 15)]
def r27_4 : List Ins := [qI 16 (.faddr 0 7), qI 17 (.load 1 false 16), qI 18 (.mov 1), qI 19 (.bin .eql 17 18)]
def r27_5 : List Ins := [qI 20 (.mov 6), qI 4 (.mov 20), qI 5 (.mov (.k (.bool true)))]
def r27_6 : List Ins := [qI 21 (.bin .add 11 (kI 1)), qI 11 (.mov 21)]
def r27_7 : List Ins := [qI 4 (.mov (kI 0)), qI 5 (.mov (.k (.bool false)))]
def x27 : XC := (.seq (.ops false r27_0) (.seq (.seq (.ops false r27_1) (.block 0 (.loop [] ⟨22, [(1, .str), (9, (.list tS0)), (10, (.int .i64)), (11, (.int .i64))], [], []⟩ (.seq (.ops false r27_2) (.seq (.cond (.t 12) .skip (.exit 0)) (.seq (.block 1 (.seq (.ops false r27_3) (.seq (.ops false r27_4) (.cond (.t 19) (.seq (.ops false r27_5) .ret) .skip)))) (.ops false r27_6))))))) (.seq (.ops false r27_7) .ret)))
theorem F27 : Fn Tryd.prog 27 22 x27.er [.t 4, .t 5] := ⟨Tryd.f27, hcl, Tryd.func27, by kernel_rfl, by kernel_rfl, by kernel_rfl, by kernel_rfl⟩
noncomputable def m27 (a0 : DS1) (a1 : ByteArray) : Option (Int × Bool × Unit) :=
 loopO (S := ByteArray × (List DS0) × Int × Int × Unit) (R := Int × Bool × Unit) (fun s18 =>
 cond (iLt s18.2.2.2.1 s18.2.2.1)
 (cond (bnd s18.2.2.2.1 (lenI s18.2.1))
 (cond (sEq ((atI s18.2.1 s18.2.2.2.1 (ByteArray.empty, 0, [], 0, 0, ())).1) s18.1)
 (some (.inr (s18.2.2.2.1, true, ())))
 (some (.inl (s18.1, s18.2.1, s18.2.2.1, iAdd .i64 s18.2.2.2.1 1, ())))) none)
 (some (.inr (0, false, ()))))
 (a1, a0.1, lenI a0.1, 0, ())
noncomputable def cfg27 (G : GP) : Cfg := ⟨ttab, (gtab G), [], []⟩
theorem eqn27 (G : GP) (x : DS1 × ByteArray × Unit) : xfun (cfg27 G) x27 22 [.t 4, .t 5] [tS1, .str] [(.int .i64), .bool] x = m27 x.1 x.2.1 := by kernel_rfl
noncomputable def i27 : PI := ⟨27, [tS1, .str], [(.int .i64), .bool], fun (x : DS1 × ByteArray × Unit) => m27 x.1 x.2.1⟩
theorem oki27 {G : GP} : POk Tryd.prog (gx (gtab G)) i27 := pok mixed (cfg_nil _ _ : CfgOk _ (cfg27 G)) F27 (eqn27 G)
/- 54 slices.Index[[]string,string] -/
def r54_0 : List Ins := [qI 4 (.mov (kI 0))]
def r54_1 : List Ins := [qI 6 (.mov 0), qI 7 (.len 6), qI 8 (.mov (kI 0))]
def r54_2 : List Ins := [qI 9 (.bin .lss 8 7)]
def r54_3 : List Ins := [qI 10 (.mov 8), qI 5 (.mov 10)]
def r54_4 : List Ins := [qI 11 (.mov 1), qI 12 (.mov 0), qI 13 (.mov 5), qI 14 (.iaddr 1 12 13), qI 15 (.load 1 false 14), qI 16 (.bin .eql 11 15)]
def r54_5 : List Ins := [qI 17 (.mov 5), qI 4 (.mov 17)]
def r54_6 : List Ins := [qI 18 (.bin .add 8 (kI 1)), qI 8 (.mov 18)]
def r54_7 : List Ins := [qI 4 (.mov (.k (.int .i64 (-1))))]
def x54 : XC := (.seq (.ops false r54_0) (.seq (.seq (.ops false r54_1) (.block 0 (.loop [] ⟨19, [(0, (.list .str)), (1, .str), (7, (.int .i64)), (8, (.int .i64))], [], []⟩ (.seq (.ops false r54_2) (.seq (.cond (.t 9) .skip (.exit 0)) (.seq (.block 1 (.seq (.ops false r54_3) (.seq (.ops false r54_4) (.cond (.t 16) (.seq (.ops false r54_5) .ret) .skip)))) (.ops false r54_6))))))) (.seq (.ops false r54_7) .ret)))
theorem F54 : Fn Tryd.prog 54 19 x54.er [.t 4] := ⟨Tryd.f54, hcl, Tryd.func54, by kernel_rfl, by kernel_rfl, by kernel_rfl, by kernel_rfl⟩
noncomputable def m54 (a0 : List ByteArray) (a1 : ByteArray) : Option (Int × Unit) :=
 loopO (S := (List ByteArray) × ByteArray × Int × Int × Unit) (R := Int × Unit) (fun s24 =>
 cond (iLt s24.2.2.2.1 s24.2.2.1)
 (cond (bnd s24.2.2.2.1 (lenI s24.1))
 (cond (sEq s24.2.1 (atI s24.1 s24.2.2.2.1 ByteArray.empty))
 (some (.inr (s24.2.2.2.1, ())))
 (some (.inl (s24.1, s24.2.1, s24.2.2.1, iAdd .i64 s24.2.2.2.1 1, ())))) none)
 (some (.inr ((-1), ()))))
 (a0, a1, lenI a0, 0, ())
noncomputable def cfg54 (G : GP) : Cfg := ⟨ttab, (gtab G), [], []⟩
theorem eqn54 (G : GP) (x : (List ByteArray) × ByteArray × Unit) : xfun (cfg54 G) x54 19 [.t 4] [(.list .str), .str] [(.int .i64)] x = m54 x.1 x.2.1 := by kernel_rfl
noncomputable def i54 : PI := ⟨54, [(.list .str), .str], [(.int .i64)], fun (x : (List ByteArray) × ByteArray × Unit) => m54 x.1 x.2.1⟩
theorem oki54 {G : GP} : POk Tryd.prog (gx (gtab G)) i54 := pok mixed (cfg_nil _ _ : CfgOk _ (cfg54 G)) F54 (eqn54 G)
/- 61 slices.Contains[[]string,string] -/
def r61_0 : List Ins := [qI 4 (.mov (.k (.bool false)))]
def r61_1 : List Ins := [qI 5 (.mov 0), qI 6 (.mov 1), qI 7 (.call (.fn 54) [5, 6]), qI 8 (.bin .geq 7 (kI 0)), qI 4 (.mov 8)]
def x61 : XC := (.seq (.ops false r61_0) (.seq (.ops false r61_1) .ret))
theorem F61 : Fn Tryd.prog 61 9 x61.er [.t 4] := ⟨Tryd.f61, hcl, Tryd.func61, by kernel_rfl, by kernel_rfl, by kernel_rfl, by kernel_rfl⟩
noncomputable def m61 (a0 : List ByteArray) (a1 : ByteArray) : Option (Bool × Unit) :=
 (m54 a0 a1).bind fun y25 =>
 some (iLe 0 y25.1, ())
noncomputable def cfg61 (G : GP) : Cfg := ⟨ttab, (gtab G), [i54], []⟩
theorem eqn61 (G : GP) (x : (List ByteArray) × ByteArray × Unit) : xfun (cfg61 G) x61 9 [.t 4] [(.list .str), .str] [.bool] x = m61 x.1 x.2.1 := by kernel_rfl
noncomputable def i61 : PI := ⟨61, [(.list .str), .str], [.bool], fun (x : (List ByteArray) × ByteArray × Unit) => m61 x.1 x.2.1⟩
theorem oki61 {G : GP} : POk Tryd.prog (gx (gtab G)) i61 := pok mixed (cfg_p oki54 (cfg_nil _ _) : CfgOk _ (cfg61 G)) F61 (eqn61 G)
/- 42 treaty/schema.words -/
def r42_0 : List Ins := [qI 2 (.mov (kI 0))]
def r42_1 : List Ins := [qI 7 (.mov 0), qI 8 (.len 7), qI 9 (.bin .eql 8 (kI 0))]
def r42_2 : List Ins := [qI 2 (.mov (kI 19))]
def r42_3 : List Ins := [qI 10 (.mov 0), qI 11 (.len 10), qI 12 (.bin .gtr 11 (kI 12))]
def r42_4 : List Ins := [qI 2 (.mov (kI 4))]
def r42_5 : List Ins := [qI 13 (.mov 0), qI 14 (.len 13), qI 15 (.mov (kI 0))]
def r42_6 : List Ins := [qI 16 (.bin .lss 15 14)]
def r42_7 : List Ins := [qI 17 (.iaddr 1 13 15), qI 18 (.load 1 false 17), qI 4 (.mov 18)]
def r42_8 : List Ins := [qI 19 (.mov 4), qI 20 (.call (.fn 26) [19]), qI 21 (.un .not 20)]
def r42_9 : List Ins := [qI 2 (.mov (kI 6))]
def r42_10 : List Ins := [qI 22 (.bin .add 15 (kI 1)), qI 15 (.mov 22)]
def r42_11 : List Ins := [qI 23 (.mov 0), qI 24 (.len 23), qI 25 (.mov (kI 0))]
def r42_12 : List Ins := [qI 26 (.bin .lss 25 24)]
def r42_13 : List Ins := [qI 27 (.mov 25), qI 28 (.iaddr 1 23 25), qI 29 (.load 1 false 28), qI 5 (.mov 27), qI 6 (.mov 29)]
def r42_14 : List Ins := [qI 30 (.mov 0), qI 31 (.mov 5), qI 32 (.slice 1 30 none (some 31)), qI 33 (.mov 6), qI 34 (.call (.fn 61) [32, 33])]
def r42_15 : List Ins := [qI 2 (.mov (kI 8))]
def r42_16 : List Ins := [qI 35 (.bin .add 25 (kI 1)), qI 25 (.mov 35)]
def r42_17 : List Ins := [qI 2 (.mov (kI 0))]
def x42 : XC := (.seq (.ops false r42_0) (.seq (.seq (.ops false r42_1) (.cond (.t 9) (.seq (.ops false r42_2) .ret) .skip)) (.seq (.seq (.ops false r42_3) (.cond (.t 12) (.seq (.ops false r42_4) .ret) .skip)) (.seq (.seq (.ops false r42_5) (.block 0 (.loop [] ⟨36, [(0, (.list .str)), (13, (.list .str)), (14, (.int .i64)), (15, (.int .i64))], [], []⟩ (.seq (.ops false r42_6) (.seq (.cond (.t 16) .skip (.exit 0)) (.seq (.block 1 (.seq (.ops false r42_7) (.seq (.ops false r42_8) (.cond (.t 21) (.seq (.ops false r42_9) .ret) .skip)))) (.ops false r42_10))))))) (.seq (.seq (.ops false r42_11) (.block 2 (.loop [] ⟨36, [(0, (.list .str)), (23, (.list .str)), (24, (.int .i64)), (25, (.int .i64))], [], []⟩ (.seq (.ops false r42_12) (.seq (.cond (.t 26) .skip (.exit 2)) (.seq (.block 3 (.seq (.ops false r42_13) (.seq (.ops false r42_14) (.cond (.t 34) (.seq (.ops false r42_15) .ret) .skip)))) (.ops false r42_16))))))) (.seq (.ops false r42_17) .ret))))))
theorem F42 : Fn Tryd.prog 42 36 x42.er [.t 2] := ⟨Tryd.f42, hcl, Tryd.func42, by kernel_rfl, by kernel_rfl, by kernel_rfl, by kernel_rfl⟩
noncomputable def m42 (a0 : List ByteArray) : Option (Int × Unit) :=
 cond (iEq (lenI a0) 0)
 (some (19, ()))
 (cond (iLt 12 (lenI a0))
 (some (4, ()))
 (loopO (S := (List ByteArray) × (List ByteArray) × Int × Int × Unit) (R := Int × Unit) (fun s27 =>
 cond (iLt s27.2.2.2.1 s27.2.2.1)
 (cond (bnd s27.2.2.2.1 (lenI s27.2.1))
 ((m26 (atI s27.2.1 s27.2.2.2.1 ByteArray.empty)).bind fun y28 =>
 cond (not y28.1)
 (some (.inr (6, ())))
 (some (.inl (s27.1, s27.2.1, s27.2.2.1, iAdd .i64 s27.2.2.2.1 1, ())))) none)
 (Option.map Sum.inr (loopO (S := (List ByteArray) × (List ByteArray) × Int × Int × Unit) (R := Int × Unit) (fun s29 =>
 cond (iLt s29.2.2.2.1 s29.2.2.1)
 (cond (bnd s29.2.2.2.1 (lenI s29.2.1))
 (cond (cutOk 0 s29.2.2.2.1 (List.length s29.1))
 ((m61 (cutL 0 s29.2.2.2.1 s29.1) (atI s29.2.1 s29.2.2.2.1 ByteArray.empty)).bind fun y30 =>
 cond y30.1
 (some (.inr (8, ())))
 (some (.inl (s29.1, s29.2.1, s29.2.2.1, iAdd .i64 s29.2.2.2.1 1, ())))) none) none)
 (some (.inr (0, ()))))
 (s27.1, s27.1, lenI s27.1, 0, ()))))
 (a0, a0, lenI a0, 0, ())))
noncomputable def cfg42 (G : GP) : Cfg := ⟨ttab, (gtab G), [i26, i61], []⟩
theorem eqn42 (G : GP) (x : (List ByteArray) × Unit) : xfun (cfg42 G) x42 36 [.t 2] [(.list .str)] [(.int .i64)] x = m42 x.1 := by kernel_rfl
noncomputable def i42 : PI := ⟨42, [(.list .str)], [(.int .i64)], fun (x : (List ByteArray) × Unit) => m42 x.1⟩
theorem oki42 {G : GP} : POk Tryd.prog (gx (gtab G)) i42 := pok mixed (cfg_p oki26 (cfg_p oki61 (cfg_nil _ _)) : CfgOk _ (cfg42 G)) F42 (eqn42 G)
/- 28 treaty/schema.attribute -/
def r28_0 : List Ins := [qI 1 (.box 27 5 0), qI 2 (.mov (kI 0))]
def r28_1 : List Ins := [qI 3 (.faddr 1 1), qI 4 (.load 1 false 3)]
def r28_2 : List Ins := [qI 6 (.bin .eql 4 (kI 1)), qI 5 (.mov 6)]
def r28_3 : List Ins := [qI 7 (.faddr 3 1), qI 8 (.load 1 false 7), qI 9 (.bin .neq 8 (kI 0)), qI 10 (.mov 9), qF 11 10 (.faddr 4 1), qF 12 10 (.load 1 false 11), qF 13 10 (.bin .neq 12 (kI 0)), qI 14 (.pick 10 (.k (.bool true)) 13)]
def r28_4 : List Ins := [qI 2 (.mov (kI 20))]
def r28_5 : List Ins := [qI 15 (.faddr 2 1), qI 16 (.load 1 false 15), qI 17 (.call (.fn 42) [16]), qI 2 (.mov 17)]
def r28_6 : List Ins := [qI 19 (.bin .eql 4 (kI 2)), qI 18 (.mov 19)]
def r28_7 : List Ins := [qI 20 (.faddr 2 1), qI 21 (.load 1 false 20), qI 22 (.len 21), qI 23 (.bin .gtr 22 (kI 0))]
def r28_8 : List Ins := [qI 2 (.mov (kI 20))]
def r28_9 : List Ins := [qI 24 (.faddr 3 1), qI 25 (.load 1 false 24), qI 26 (.faddr 4 1), qI 27 (.load 1 false 26), qI 28 (.bin .gtr 25 27), qI 29 (.mov 28), qF 30 29 (.faddr 3 1), qF 31 29 (.load 1 false 30), qF 32 29 (.bin .lss 31 (.k (.int .i64 (-1000000000)))), qI 33 (.pick 29 (.k (.bool true)) 32), qI 34 (.mov 33), qF 35 34 (.faddr 4 1), qF 36 34 (.load 1 false 35), qF 37 34 (.bin .gtr 36 (kI 1000000000)), qI 38 (.pick 34 (.k (.bool true)) 37)]
def r28_10 : List Ins := [qI 2 (.mov (kI 1))]
def r28_11 : List Ins := [qI 40 (.bin .eql 4 (kI 3)), qI 39 (.mov 40)]
def r28_12 : List Ins := [qI 41 (.faddr 2 1), qI 42 (.load 1 false 41), qI 43 (.len 42), qI 44 (.bin .gtr 43 (kI 0)), qI 45 (.mov 44), qF 46 45 (.faddr 3 1), qF 47 45 (.load 1 false 46), qF 48 45 (.bin .neq 47 (kI 0)), qI 49 (.pick 45 (.k (.bool true)) 48), qI 50 (.mov 49), qF 51 50 (.faddr 4 1), qF 52 50 (.load 1 false 51), qF 53 50 (.bin .neq 52 (kI 0)), qI 54 (.pick 50 (.k (.bool true)) 53)]
def r28_13 : List Ins := [qI 2 (.mov (kI 20))]
def r28_14 : List Ins := [qI 2 (.mov (kI 11))]
def r28_15 : List Ins := [qI 2 (.mov (kI 0))]
def x28 : XC := (.seq (.ops false r28_0) (.seq (.seq (.ops false r28_1) (.block 0 (.seq (.ops false r28_2) (.cond (.t 5) (.seq (.seq (.ops false r28_3) (.cond (.t 14) (.seq (.ops false r28_4) .ret) .skip)) (.seq (.ops false r28_5) .ret)) (.seq (.ops false r28_6) (.cond (.t 18) (.seq (.seq (.ops false r28_7) (.cond (.t 23) (.seq (.ops false r28_8) .ret) .skip)) (.seq (.ops false r28_9) (.cond (.t 38) (.seq (.ops false r28_10) .ret) .skip))) (.seq (.ops false r28_11) (.cond (.t 39) (.seq (.ops false r28_12) (.cond (.t 54) (.seq (.ops false r28_13) .ret) .skip)) (.seq (.ops false r28_14) .ret))))))))) (.seq (.ops false r28_15) .ret)))
theorem F28 : Fn Tryd.prog 28 55 x28.er [.t 2] := ⟨Tryd.f28, hcl, Tryd.func28, by kernel_rfl, by kernel_rfl, by kernel_rfl, by kernel_rfl⟩
noncomputable def m28 (a0 : DS0) : Option (Int × Unit) :=
 cond (iEq a0.2.1 1)
 (cond (cond (iNe a0.2.2.2.1 0) true (iNe a0.2.2.2.2.1 0))
 (some (20, ()))
 ((m42 a0.2.2.1).bind fun y31 =>
 some (y31.1, ())))
 (cond (iEq a0.2.1 2)
 (cond (iLt 0 (lenI a0.2.2.1))
 (some (20, ()))
 (cond (cond (cond (iLt a0.2.2.2.2.1 a0.2.2.2.1) true (iLt a0.2.2.2.1 (-1000000000))) true (iLt 1000000000 a0.2.2.2.2.1))
 (some (1, ()))
 (some (0, ()))))
 (cond (iEq a0.2.1 3)
 (cond (cond (cond (iLt 0 (lenI a0.2.2.1)) true (iNe a0.2.2.2.1 0)) true (iNe a0.2.2.2.2.1 0))
 (some (20, ()))
 (some (0, ())))
 (some (11, ()))))
noncomputable def cfg28 (G : GP) : Cfg := ⟨ttab, (gtab G), [i42], []⟩
theorem eqn28 (G : GP) (x : DS0 × Unit) : xfun (cfg28 G) x28 55 [.t 2] [tS0] [(.int .i64)] x = m28 x.1 := by kernel_rfl
noncomputable def i28 : PI := ⟨28, [tS0], [(.int .i64)], fun (x : DS0 × Unit) => m28 x.1⟩
theorem oki28 {G : GP} : POk Tryd.prog (gx (gtab G)) i28 := pok mixed (cfg_p oki42 (cfg_nil _ _) : CfgOk _ (cfg28 G)) F28 (eqn28 G)
/- 14 treaty/schema.Validate -/
def r14_0 : List Ins := [qI 1 (.box 24 1 0), qI 2 (.mov (kI 0))]
def r14_1 : List Ins := [qI 8 (.faddr 0 1), qI 9 (.load 1 false 8), qI 10 (.len 9), qI 11 (.bin .eql 10 (kI 0))]
def r14_2 : List Ins := [qI 2 (.mov (kI 19))]
def r14_3 : List Ins := [qI 12 (.faddr 0 1), qI 13 (.load 1 false 12), qI 14 (.len 13), qI 15 (.bin .gtr 14 (kI 6))]
def r14_4 : List Ins := [qI 2 (.mov (kI 4))]
def r14_5 : List Ins := [qI 16 (.faddr 0 1), qI 17 (.load 1 false 16), qI 18 (.len 17), qI 19 (.mov (kI 0))]
def r14_6 : List Ins := [qI 20 (.bin .lss 19 18)]
def r14_7 : List Ins := [qI 21 (.mov 19), qI 22 (.iaddr 5 17 19), qI 23 (.load 5 true 22), qI 4 (.alloc 27 (.agg #[.string (bs []), .int .i64 0, .slice none 0 0, .int .i64 0, .int .i64 0])), qI 3 (.mov 21), qN (.store 5 4 23)]
def r14_8 : List Ins := [qI 24 (.faddr 0 4), qI 25 (.load 1 false 24), qI 26 (.call (.fn 26) [25]), qI 27 (.un .not 26)]
def r14_9 : List Ins := [qI 2 (.mov (kI 6))]
def r14_10 : List Ins := [qI 29 (.load 1 true 1), qI 30 (.faddr 0 4), qI 31 (.load 1 false 30), qI 32 (.call (.fn 27) [29, 31]), qI 28 (.mov 32), qI 33 (.ext 0 28), qI 34 (.ext 1 28), qI 5 (.mov 33), qI 6 (.mov 34)]
def r14_11 : List Ins := [qI 35 (.mov 5), qI 36 (.mov 3), qI 37 (.bin .lss 35 36)]
def r14_12 : List Ins := [qI 2 (.mov (kI 8))]
def r14_13 : List Ins := [qI 38 (.load 5 true 4), qI 39 (.call (.fn 28) [38]), qI 7 (.mov 39)]
def r14_14 : List Ins := [qI 40 (.mov 7), qI 41 (.bin .neq 40 (kI 0))]
def r14_15 : List Ins := [qI 42 (.mov 7), qI 2 (.mov 42)]
def r14_16 : List Ins := [qI 43 (.bin .add 19 (kI 1)), qI 19 (.mov 43)]
def r14_17 : List Ins := [qI 2 (.mov (kI 0))]
def x14 : XC := (.seq (.ops false r14_0) (.seq (.seq (.ops false r14_1) (.cond (.t 11) (.seq (.ops false r14_2) .ret) .skip)) (.seq (.seq (.ops false r14_3) (.cond (.t 15) (.seq (.ops false r14_4) .ret) .skip)) (.seq (.seq (.ops false r14_5) (.block 0 (.loop [] ⟨44, [(17, (.list tS0)), (18, (.int .i64)), (19, (.int .i64))], [(1, .ptr 0 0 0)], [.box 24 [.d (.list tS0)]]⟩ (.seq (.ops false r14_6) (.seq (.cond (.t 20) .skip (.exit 0)) (.seq (.block 1 (.seq (.ops false r14_7) (.seq (.seq (.ops false r14_8) (.cond (.t 27) (.seq (.ops false r14_9) .ret) .skip)) (.seq (.seq (.ops false r14_10) (.seq (.ops false r14_11) (.cond (.t 37) (.seq (.ops false r14_12) .ret) .skip))) (.seq (.ops false r14_13) (.seq (.ops false r14_14) (.cond (.t 41) (.seq (.ops false r14_15) .ret) .skip))))))) (.ops false r14_16))))))) (.seq (.ops false r14_17) .ret)))))
theorem F14 : Fn Tryd.prog 14 44 x14.er [.t 2] := ⟨Tryd.f14, hcl, Tryd.func14, by kernel_rfl, by kernel_rfl, by kernel_rfl, by kernel_rfl⟩
noncomputable def m14 (a0 : DS1) : Option (Int × Unit) :=
 cond (iEq (lenI a0.1) 0)
 (some (19, ()))
 (cond (iLt 6 (lenI a0.1))
 (some (4, ()))
 (loopO (S := (List DS0) × Int × Int × (List DS0) × Unit) (R := Int × Unit) (fun s33 =>
 cond (iLt s33.2.2.1 s33.2.1)
 (cond (bnd s33.2.2.1 (lenI s33.1))
 ((m26 ((atI s33.1 s33.2.2.1 (ByteArray.empty, 0, [], 0, 0, ())).1)).bind fun y34 =>
 cond (not y34.1)
 (some (.inr (6, ())))
 ((m27 (s33.2.2.2.1, ()) ((atI s33.1 s33.2.2.1 (ByteArray.empty, 0, [], 0, 0, ())).1)).bind fun y35 =>
 cond (iLt y35.1 s33.2.2.1)
 (some (.inr (8, ())))
 ((m28 ((atI s33.1 s33.2.2.1 (ByteArray.empty, 0, [], 0, 0, ())).1, (atI s33.1 s33.2.2.1 (ByteArray.empty, 0, [], 0, 0, ())).2.1, (atI s33.1 s33.2.2.1 (ByteArray.empty, 0, [], 0, 0, ())).2.2.1, (atI s33.1 s33.2.2.1 (ByteArray.empty, 0, [], 0, 0, ())).2.2.2.1, (atI s33.1 s33.2.2.1 (ByteArray.empty, 0, [], 0, 0, ())).2.2.2.2.1, ())).bind fun y36 =>
 cond (iNe y36.1 0)
 (some (.inr (y36.1, ())))
 (some (.inl (s33.1, s33.2.1, iAdd .i64 s33.2.2.1 1, s33.2.2.2.1, ())))))) none)
 (some (.inr (0, ()))))
 (a0.1, lenI a0.1, 0, a0.1, ())))
noncomputable def cfg14 (G : GP) : Cfg := ⟨ttab, (gtab G), [i26, i27, i28], []⟩
theorem eqn14 (G : GP) (x : DS1 × Unit) : xfun (cfg14 G) x14 44 [.t 2] [tS1] [(.int .i64)] x = m14 x.1 := by kernel_rfl
noncomputable def i14 : PI := ⟨14, [tS1], [(.int .i64)], fun (x : DS1 × Unit) => m14 x.1⟩
theorem oki14 {G : GP} : POk Tryd.prog (gx (gtab G)) i14 := pok mixed (cfg_p oki26 (cfg_p oki27 (cfg_p oki28 (cfg_nil _ _))) : CfgOk _ (cfg14 G)) F14 (eqn14 G)
/- 32 treaty/schema.domain -/
def r32_0 : List Ins := [qI 1 (.box 27 5 0), qI 2 (.mov (kI 0)), qI 3 (.mov (kI 0))]
def r32_1 : List Ins := [qI 4 (.faddr 1 1), qI 5 (.load 1 false 4)]
def r32_2 : List Ins := [qI 7 (.bin .eql 5 (kI 1)), qI 6 (.mov 7)]
def r32_3 : List Ins := [qI 8 (.faddr 2 1), qI 9 (.load 1 false 8), qI 10 (.len 9), qI 11 (.bin .sub 10 (kI 1)), qI 2 (.mov (kI 0)), qI 3 (.mov 11)]
def r32_4 : List Ins := [qI 13 (.bin .eql 5 (kI 2)), qI 12 (.mov 13)]
def r32_5 : List Ins := [qI 14 (.faddr 3 1), qI 15 (.load 1 false 14), qI 16 (.faddr 4 1), qI 17 (.load 1 false 16), qI 2 (.mov 15), qI 3 (.mov 17)]
def r32_6 : List Ins := [qI 2 (.mov (kI 0)), qI 3 (.mov (kI 1))]
def x32 : XC := (.seq (.ops false r32_0) (.seq (.seq (.ops false r32_1) (.block 0 (.seq (.ops false r32_2) (.cond (.t 6) (.seq (.ops true r32_3) .ret) (.seq (.ops false r32_4) (.cond (.t 12) (.seq (.ops true r32_5) .ret) .skip)))))) (.seq (.ops false r32_6) .ret)))
theorem F32 : Fn Tryd.prog 32 18 x32.er [.t 2, .t 3] := ⟨Tryd.f32, hcl, Tryd.func32, by kernel_rfl, by kernel_rfl, by kernel_rfl, by kernel_rfl⟩
noncomputable def m32 (a0 : DS0) : Option (Int × Int × Unit) :=
 cond (iEq a0.2.1 1)
 (some (0, iSub .i64 (lenI a0.2.2.1) 1, ()))
 (cond (iEq a0.2.1 2)
 (some (a0.2.2.2.1, a0.2.2.2.2.1, ()))
 (some (0, 1, ())))
noncomputable def cfg32 (G : GP) : Cfg := ⟨ttab, (gtab G), [], []⟩
theorem eqn32 (G : GP) (x : DS0 × Unit) : xfun (cfg32 G) x32 18 [.t 2, .t 3] [tS0] [(.int .i64), (.int .i64)] x = m32 x.1 := by kernel_rfl
noncomputable def i32 : PI := ⟨32, [tS0], [(.int .i64), (.int .i64)], fun (x : DS0 × Unit) => m32 x.1⟩
theorem oki32 {G : GP} : POk Tryd.prog (gx (gtab G)) i32 := pok mixed (cfg_nil _ _ : CfgOk _ (cfg32 G)) F32 (eqn32 G)
/- 17 treaty/schema.Valid -/
def r17_0 : List Ins := [qI 2 (.box 24 1 0), qI 4 (.mov (.k (.bool false)))]
def r17_1 : List Ins := [qI 9 (.load 1 true 2), qI 10 (.call (.fn 14) [9]), qI 11 (.bin .neq 10 (kI 0)), qI 12 (.mov 11), qF 13 12 (.mov 1), qF 14 12 (.len 13), qF 15 12 (.faddr 0 2), qF 16 12 (.load 1 false 15), qF 17 12 (.len 16), qF 18 12 (.bin .neq 14 17), qI 19 (.pick 12 (.k (.bool true)) 18)]
def r17_2 : List Ins := [qI 4 (.mov (.k (.bool false)))]
def r17_3 : List Ins := [qI 20 (.mov 1), qI 21 (.len 20), qI 22 (.mov (kI 0))]
def r17_4 : List Ins := [qI 23 (.bin .lss 22 21)]
def r17_5 : List Ins := [qI 24 (.mov 22), qI 25 (.iaddr 1 20 22), qI 26 (.load 1 false 25), qI 5 (.mov 24), qI 6 (.mov 26)]
def r17_6 : List Ins := [qI 28 (.faddr 0 2), qI 29 (.load 1 false 28), qI 30 (.mov 5), qI 31 (.iaddr 5 29 30), qI 32 (.load 5 true 31), qI 33 (.call (.fn 32) [32]), qI 27 (.mov 33), qI 34 (.ext 0 27), qI 35 (.ext 1 27), qI 7 (.mov 34), qI 8 (.mov 35)]
def r17_7 : List Ins := [qI 36 (.mov 6), qI 37 (.mov 7), qI 38 (.bin .lss 36 37), qI 39 (.mov 38), qF 40 39 (.mov 6), qF 41 39 (.mov 8), qF 42 39 (.bin .gtr 40 41), qI 43 (.pick 39 (.k (.bool true)) 42)]
def r17_8 : List Ins := [qI 4 (.mov (.k (.bool false)))]
def r17_9 : List Ins := [qI 44 (.bin .add 22 (kI 1)), qI 22 (.mov 44)]
def r17_10 : List Ins := [qI 4 (.mov (.k (.bool true)))]
def x17 : XC := (.seq (.ops false r17_0) (.seq (.seq (.ops false r17_1) (.cond (.t 19) (.seq (.ops false r17_2) .ret) .skip)) (.seq (.seq (.ops false r17_3) (.block 0 (.loop [] ⟨45, [(20, (.list (.int .i64))), (21, (.int .i64)), (22, (.int .i64))], [(2, .ptr 0 0 0)], [.box 24 [.d (.list tS0)]]⟩ (.seq (.ops false r17_4) (.seq (.cond (.t 23) .skip (.exit 0)) (.seq (.block 1 (.seq (.ops false r17_5) (.seq (.ops false r17_6) (.seq (.ops false r17_7) (.cond (.t 43) (.seq (.ops false r17_8) .ret) .skip))))) (.ops false r17_9))))))) (.seq (.ops false r17_10) .ret))))
theorem F17 : Fn Tryd.prog 17 45 x17.er [.t 4] := ⟨Tryd.f17, hcl, Tryd.func17, by kernel_rfl, by kernel_rfl, by kernel_rfl, by kernel_rfl⟩
noncomputable def m17 (a0 : DS1) (a1 : List Int) : Option (Bool × Unit) :=
 (m14 (a0.1, ())).bind fun y41 =>
 cond (cond (iNe y41.1 0) true (iNe (lenI a1) (lenI a0.1)))
 (some (false, ()))
 (loopO (S := (List Int) × Int × Int × (List DS0) × Unit) (R := Bool × Unit) (fun s42 =>
 cond (iLt s42.2.2.1 s42.2.1)
 (cond (bnd s42.2.2.1 (lenI s42.1))
 (cond (bnd s42.2.2.1 (lenI s42.2.2.2.1))
 ((m32 (atI s42.2.2.2.1 s42.2.2.1 (ByteArray.empty, 0, [], 0, 0, ()))).bind fun y43 =>
 cond (cond (iLt (atI s42.1 s42.2.2.1 0) y43.1) true (iLt y43.2.1 (atI s42.1 s42.2.2.1 0)))
 (some (.inr (false, ())))
 (some (.inl (s42.1, s42.2.1, iAdd .i64 s42.2.2.1 1, s42.2.2.2.1, ())))) none) none)
 (some (.inr (true, ()))))
 (a1, lenI a1, 0, a0.1, ()))
noncomputable def cfg17 (G : GP) : Cfg := ⟨ttab, (gtab G), [i14, i32], []⟩
theorem eqn17 (G : GP) (x : DS1 × (List Int) × Unit) : xfun (cfg17 G) x17 45 [.t 4] [tS1, (.list (.int .i64))] [.bool] x = m17 x.1 x.2.1 := by kernel_rfl
noncomputable def i17 : PI := ⟨17, [tS1, (.list (.int .i64))], [.bool], fun (x : DS1 × (List Int) × Unit) => m17 x.1 x.2.1⟩
theorem oki17 {G : GP} : POk Tryd.prog (gx (gtab G)) i17 := pok mixed (cfg_p oki14 (cfg_p oki32 (cfg_nil _ _)) : CfgOk _ (cfg17 G)) F17 (eqn17 G)
/- 33 treaty/schema.value -/
def r33_0 : List Ins := [qI 2 (.box 27 5 0), qI 4 (.mov (.k (.string (bs []))))]
def r33_1 : List Ins := [qI 5 (.faddr 1 2), qI 6 (.load 1 false 5)]
def r33_2 : List Ins := [qI 8 (.bin .eql 6 (kI 1)), qI 7 (.mov 8)]
def r33_3 : List Ins := [qI 9 (.faddr 2 2), qI 10 (.load 1 false 9), qI 11 (.mov 1), qI 12 (.iaddr 1 10 11), qI 13 (.load 1 false 12), qI 4 (.mov 13)]
def r33_4 : List Ins := [qI 15 (.bin .eql 6 (kI 2)), qI 14 (.mov 15)]
def r33_5 : List Ins := [qI 16 (.mov 1), qI 17 (.call (.fn 48) [16]), qI 4 (.mov 17)]
def r33_6 : List Ins := [qI 18 (.mov 1), qI 19 (.bin .eql 18 (kI 1))]
def r33_7 : List Ins := [qI 4 (.mov (.k (.string (bs [121, 101, 115]))))]
def r33_8 : List Ins := [qI 4 (.mov (.k (.string (bs [110, 111]))))]
def x33 : XC := (.seq (.ops false r33_0) (.seq (.seq (.ops false r33_1) (.block 0 (.seq (.ops false r33_2) (.cond (.t 7) (.seq (.ops false r33_3) .ret) (.seq (.ops false r33_4) (.cond (.t 14) (.seq (.ops false r33_5) .ret) .skip)))))) (.seq (.seq (.ops false r33_6) (.cond (.t 19) (.seq (.ops false r33_7) .ret) .skip)) (.seq (.ops false r33_8) .ret))))
theorem F33 : Fn Tryd.prog 33 20 x33.er [.t 4] := ⟨Tryd.f33, hcl, Tryd.func33, by kernel_rfl, by kernel_rfl, by kernel_rfl, by kernel_rfl⟩
noncomputable def m33 (a0 : DS0) (a1 : Int) : Option (ByteArray × Unit) :=
 cond (iEq a0.2.1 1)
 (cond (bnd a1 (lenI a0.2.2.1))
 (some (atI a0.2.2.1 a1 ByteArray.empty, ())) none)
 (cond (iEq a0.2.1 2)
 ((mItoa a1).bind fun y46 =>
 some (y46.1, ()))
 (cond (iEq a1 1)
 (some ((bs [121, 101, 115]), ()))
 (some ((bs [110, 111]), ()))))
noncomputable def cfg33 (G : GP) : Cfg := ⟨ttab, (gtab G), [iItoa], []⟩
theorem eqn33 (G : GP) (x : DS0 × Int × Unit) : xfun (cfg33 G) x33 20 [.t 4] [tS0, (.int .i64)] [.str] x = m33 x.1 x.2.1 := by kernel_rfl
noncomputable def i33 : PI := ⟨33, [tS0, (.int .i64)], [.str], fun (x : DS0 × Int × Unit) => m33 x.1 x.2.1⟩
theorem oki33 {G : GP} : POk Tryd.prog (gx (gtab G)) i33 := pok mixed (cfg_p okiItoa (cfg_nil _ _) : CfgOk _ (cfg33 G)) F33 (eqn33 G)
/- 19 treaty/schema.Format -/
def r19_0 : List Ins := [qI 2 (.box 24 1 0), qI 4 (.mov (.k (.string (bs [])))), qI 5 (.mov (kI 0))]
def r19_1 : List Ins := [qI 10 (.load 1 true 2), qI 11 (.call (.fn 14) [10]), qI 6 (.mov 11)]
def r19_2 : List Ins := [qI 12 (.mov 6), qI 13 (.bin .neq 12 (kI 0))]
def r19_3 : List Ins := [qI 14 (.mov 6), qI 4 (.mov (.k (.string (bs [])))), qI 5 (.mov 14)]
def r19_4 : List Ins := [qI 15 (.load 1 true 2), qI 16 (.mov 1), qI 17 (.call (.fn 17) [15, 16]), qI 18 (.un .not 17)]
def r19_5 : List Ins := [qI 4 (.mov (.k (.string (bs [])))), qI 5 (.mov (kI 16))]
def r19_6 : List Ins := [qI 19 (.mov 1), qI 20 (.len 19), qI 21 (.mk 9 1 16 (.string (bs [])) 20), qI 7 (.mov 21)]
def r19_7 : List Ins := [qI 22 (.faddr 0 2), qI 23 (.load 1 false 22), qI 24 (.len 23), qI 25 (.mov (kI 0))]
def r19_8 : List Ins := [qI 26 (.bin .lss 25 24)]
def r19_9 : List Ins := [qI 27 (.mov 25), qI 28 (.iaddr 5 23 25), qI 29 (.load 5 true 28), qI 9 (.alloc 27 (.agg #[.string (bs []), .int .i64 0, .slice none 0 0, .int .i64 0, .int .i64 0])), qI 8 (.mov 27), qN (.store 5 9 29)]
def r19_10 : List Ins := [qI 30 (.mov 7), qI 31 (.mov 8), qI 32 (.faddr 0 9), qI 33 (.load 1 false 32), qI 34 (.bin .add 33 (.k (.string (bs [61])))), qI 35 (.load 5 true 9), qI 36 (.mov 1), qI 37 (.mov 8), qI 38 (.iaddr 1 36 37), qI 39 (.load 1 false 38), qI 40 (.call (.fn 33) [35, 39]), qI 41 (.bin .add 34 40), qI 42 (.iaddr 1 30 31), qN (.store 1 42 41)]
def r19_11 : List Ins := [qI 43 (.bin .add 25 (kI 1)), qI 25 (.mov 43)]
def r19_12 : List Ins := [qI 44 (.mov 7), qI 45 (.call (.fn 34) [44, (.k (.string (bs [59, 32])))]), qI 4 (.mov 45), qI 5 (.mov (kI 0))]
def x19 : XC := (.seq (.ops false r19_0) (.seq (.seq (.ops false r19_1) (.seq (.ops false r19_2) (.cond (.t 13) (.seq (.ops false r19_3) .ret) .skip))) (.seq (.seq (.ops false r19_4) (.cond (.t 18) (.seq (.ops false r19_5) .ret) .skip)) (.seq (.ops false r19_6) (.seq (.seq (.ops false r19_7) (.block 0 (.loop [] ⟨46, [(1, (.list (.int .i64))), (23, (.list tS0)), (24, (.int .i64)), (25, (.int .i64))], [(7, .row 0)], [.row 9 .str false]⟩ (.seq (.ops false r19_8) (.seq (.cond (.t 26) .skip (.exit 0)) (.seq (.block 1 (.seq (.ops false r19_9) (.ops true r19_10))) (.ops false r19_11))))))) (.seq (.ops false r19_12) .ret))))))
theorem F19 : Fn Tryd.prog 19 46 x19.er [.t 4, .t 5] := ⟨Tryd.f19, hcl, Tryd.func19, by kernel_rfl, by kernel_rfl, by kernel_rfl, by kernel_rfl⟩
noncomputable def m19 (a0 : DS1) (a1 : List Int) : Option (ByteArray × Int × Unit) :=
 (m14 (a0.1, ())).bind fun y49 =>
 cond (iNe y49.1 0)
 (some ((bs []), y49.1, ()))
 ((m17 (a0.1, ()) a1).bind fun y50 =>
 cond (not y50.1)
 (some ((bs []), 16, ()))
 (cond (fitsI (lenI a1) 16)
 (loopO (S := (List Int) × (List DS0) × Int × Int × (List ByteArray) × Unit) (R := ByteArray × Int × Unit) (fun s51 =>
 cond (iLt s51.2.2.2.1 s51.2.2.1)
 (cond (bnd s51.2.2.2.1 (lenI s51.2.1))
 (cond (sFits ((atI s51.2.1 s51.2.2.2.1 (ByteArray.empty, 0, [], 0, 0, ())).1) (bs [61]))
 (cond (bnd s51.2.2.2.1 (lenI s51.1))
 ((m33 ((atI s51.2.1 s51.2.2.2.1 (ByteArray.empty, 0, [], 0, 0, ())).1, (atI s51.2.1 s51.2.2.2.1 (ByteArray.empty, 0, [], 0, 0, ())).2.1, (atI s51.2.1 s51.2.2.2.1 (ByteArray.empty, 0, [], 0, 0, ())).2.2.1, (atI s51.2.1 s51.2.2.2.1 (ByteArray.empty, 0, [], 0, 0, ())).2.2.2.1, (atI s51.2.1 s51.2.2.2.1 (ByteArray.empty, 0, [], 0, 0, ())).2.2.2.2.1, ()) (atI s51.1 s51.2.2.2.1 0)).bind fun y52 =>
 cond (sFits (sCat ((atI s51.2.1 s51.2.2.2.1 (ByteArray.empty, 0, [], 0, 0, ())).1) (bs [61])) y52.1)
 (cond (bnd s51.2.2.2.1 (lenI s51.2.2.2.2.1))
 (cond (inB (Int.toNat s51.2.2.2.1) s51.2.2.2.2.1)
 (some (.inl (s51.1, s51.2.1, s51.2.2.1, iAdd .i64 s51.2.2.2.1 1, List.set s51.2.2.2.2.1 (Int.toNat s51.2.2.2.1) (sCat (sCat ((atI s51.2.1 s51.2.2.2.1 (ByteArray.empty, 0, [], 0, 0, ())).1) (bs [61])) y52.1), ()))) none) none) none) none) none) none)
 (Option.map Sum.inr ((mJoin s51.2.2.2.2.1 (bs [59, 32])).bind fun y53 =>
 some (y53.1, 0, ()))))
 (a1, a0.1, lenI a0.1, 0, List.replicate (Int.toNat (lenI a1)) (bs []), ())) none))
noncomputable def cfg19 (G : GP) : Cfg := ⟨ttab, (gtab G), [i14, i17, i33, iJoin], []⟩
theorem eqn19 (G : GP) (x : DS1 × (List Int) × Unit) : xfun (cfg19 G) x19 46 [.t 4, .t 5] [tS1, (.list (.int .i64))] [.str, (.int .i64)] x = m19 x.1 x.2.1 := by kernel_rfl
noncomputable def i19 : PI := ⟨19, [tS1, (.list (.int .i64))], [.str, (.int .i64)], fun (x : DS1 × (List Int) × Unit) => m19 x.1 x.2.1⟩
theorem oki19 {G : GP} : POk Tryd.prog (gx (gtab G)) i19 := pok mixed (cfg_p oki14 (cfg_p oki17 (cfg_p oki33 (cfg_p okiJoin (cfg_nil _ _)))) : CfgOk _ (cfg19 G)) F19 (eqn19 G)
/- 24 treaty/schema.Count -/
def r24_0 : List Ins := [qI 1 (.box 24 1 0), qI 2 (.mov (kI 0))]
def r24_1 : List Ins := [qI 9 (.load 1 true 1), qI 10 (.call (.fn 14) [9]), qI 11 (.bin .neq 10 (kI 0))]
def r24_2 : List Ins := [qI 2 (.mov (kI 0))]
def r24_3 : List Ins := [qI 3 (.mov (kI 1))]
def r24_4 : List Ins := [qI 12 (.faddr 0 1), qI 13 (.load 1 false 12), qI 14 (.len 13), qI 15 (.mov (kI 0))]
def r24_5 : List Ins := [qI 16 (.bin .lss 15 14)]
def r24_6 : List Ins := [qI 17 (.iaddr 5 13 15), qI 18 (.load 5 true 17), qI 5 (.alloc 27 (.agg #[.string (bs []), .int .i64 0, .slice none 0 0, .int .i64 0, .int .i64 0])), qN (.store 5 5 18)]
def r24_7 : List Ins := [qI 20 (.load 5 true 5), qI 21 (.call (.fn 32) [20]), qI 19 (.mov 21), qI 22 (.ext 0 19), qI 23 (.ext 1 19), qI 6 (.mov 22), qI 7 (.mov 23)]
def r24_8 : List Ins := [qI 24 (.mov 7), qI 25 (.mov 6), qI 26 (.bin .sub 24 25), qI 27 (.bin .add 26 (kI 1)), qI 8 (.mov 27)]
def r24_9 : List Ins := [qI 28 (.mov 8), qI 29 (.mov 3), qI 30 (.bin .quo (kI 17592186044416) 29), qI 31 (.bin .gtr 28 30)]
def r24_10 : List Ins := [qI 2 (.mov (kI 17592186044416))]
def r24_11 : List Ins := [qI 32 (.mov 3), qI 33 (.mov 8), qI 34 (.bin .mul 32 33), qI 3 (.mov 34)]
def r24_12 : List Ins := [qI 35 (.bin .add 15 (kI 1)), qI 15 (.mov 35)]
def r24_13 : List Ins := [qI 36 (.mov 3), qI 2 (.mov 36)]
def x24 : XC := (.seq (.ops false r24_0) (.seq (.seq (.ops false r24_1) (.cond (.t 11) (.seq (.ops false r24_2) .ret) .skip)) (.seq (.ops false r24_3) (.seq (.seq (.ops false r24_4) (.block 0 (.loop [] ⟨37, [(3, (.int .i64)), (13, (.list tS0)), (14, (.int .i64)), (15, (.int .i64))], [], []⟩ (.seq (.ops false r24_5) (.seq (.cond (.t 16) .skip (.exit 0)) (.seq (.block 1 (.seq (.ops false r24_6) (.seq (.ops false r24_7) (.seq (.ops false r24_8) (.seq (.seq (.ops false r24_9) (.cond (.t 31) (.seq (.ops false r24_10) .ret) .skip)) (.ops false r24_11)))))) (.ops false r24_12))))))) (.seq (.ops false r24_13) .ret)))))
theorem F24 : Fn Tryd.prog 24 37 x24.er [.t 2] := ⟨Tryd.f24, hcl, Tryd.func24, by kernel_rfl, by kernel_rfl, by kernel_rfl, by kernel_rfl⟩
noncomputable def m24 (a0 : DS1) : Option (Int × Unit) :=
 (m14 (a0.1, ())).bind fun y59 =>
 cond (iNe y59.1 0)
 (some (0, ()))
 (loopO (S := Int × (List DS0) × Int × Int × Unit) (R := Int × Unit) (fun s60 =>
 cond (iLt s60.2.2.2.1 s60.2.2.1)
 (cond (bnd s60.2.2.2.1 (lenI s60.2.1))
 ((m32 ((atI s60.2.1 s60.2.2.2.1 (ByteArray.empty, 0, [], 0, 0, ())).1, (atI s60.2.1 s60.2.2.2.1 (ByteArray.empty, 0, [], 0, 0, ())).2.1, (atI s60.2.1 s60.2.2.2.1 (ByteArray.empty, 0, [], 0, 0, ())).2.2.1, (atI s60.2.1 s60.2.2.2.1 (ByteArray.empty, 0, [], 0, 0, ())).2.2.2.1, (atI s60.2.1 s60.2.2.2.1 (ByteArray.empty, 0, [], 0, 0, ())).2.2.2.2.1, ())).bind fun y61 =>
 cond (iNe s60.1 0)
 (cond (iLt (iQuo .i64 17592186044416 s60.1) (iAdd .i64 (iSub .i64 y61.2.1 y61.1) 1))
 (some (.inr (17592186044416, ())))
 (some (.inl (iMul .i64 s60.1 (iAdd .i64 (iSub .i64 y61.2.1 y61.1) 1), s60.2.1, s60.2.2.1, iAdd .i64 s60.2.2.2.1 1, ())))) none) none)
 (some (.inr (s60.1, ()))))
 (1, a0.1, lenI a0.1, 0, ()))
noncomputable def cfg24 (G : GP) : Cfg := ⟨ttab, (gtab G), [i14, i32], []⟩
theorem eqn24 (G : GP) (x : DS1 × Unit) : xfun (cfg24 G) x24 37 [.t 2] [tS1] [(.int .i64)] x = m24 x.1 := by kernel_rfl
noncomputable def i24 : PI := ⟨24, [tS1], [(.int .i64)], fun (x : DS1 × Unit) => m24 x.1⟩
theorem oki24 {G : GP} : POk Tryd.prog (gx (gtab G)) i24 := pok mixed (cfg_p oki14 (cfg_p oki32 (cfg_nil _ _)) : CfgOk _ (cfg24 G)) F24 (eqn24 G)
/- 8 treaty/treatylaw06.awake -/
def r8_0 : List Ins := [qI 0 (.mov (.k (.bool false)))]
def r8_1 : List Ins := [qI 4 (.call (.fn 9) [(kI 0)]), qI 5 (.bslice 3 1 [(kI 1), (kI 3), (kI 0)]), qI 6 (.call (.fn 19) [4, 5]), qI 3 (.mov 6), qI 7 (.ext 0 3), qI 8 (.ext 1 3), qI 1 (.mov 7), qI 2 (.mov 8)]
def r8_2 : List Ins := [qI 9 (.mov 1), qI 10 (.bin .eql 9 (.k (.string (bs [112, 101, 114, 105, 108, 61, 102, 108, 111, 111, 100, 59, 32, 115, 116, 111, 114, 101, 121, 115, 61, 51, 59, 32, 97, 108, 97, 114, 109, 61, 110, 111])))), qI 11 (.mov 10), qT 12 11 (.mov 2), qT 13 11 (.bin .eql 12 (kI 0)), qI 14 (.pick 11 13 (.k (.bool false))), qI 15 (.mov 14), qT 16 15 (.call (.fn 9) [(kI 0)]), qT 17 15 (.call (.fn 24) [16]), qT 18 15 (.bin .eql 17 (kI 72)), qI 19 (.pick 15 18 (.k (.bool false))), qI 0 (.mov 19)]
def x8 : XC := (.seq (.ops false r8_0) (.seq (.ops false r8_1) (.seq (.ops false r8_2) .ret)))
theorem F8 : Fn Tryd.prog 8 20 x8.er [.t 0] := ⟨Tryd.f8, hcl, Tryd.func8, by kernel_rfl, by kernel_rfl, by kernel_rfl, by kernel_rfl⟩
noncomputable def m8 : Option (Bool × Unit) :=
 (m9 0).bind fun y4 =>
 (m19 y4.1 ([1, 3, 0] : List Int)).bind fun y54 =>
 cond (cond (sEq y54.1 (bs [112, 101, 114, 105, 108, 61, 102, 108, 111, 111, 100, 59, 32, 115, 116, 111, 114, 101, 121, 115, 61, 51, 59, 32, 97, 108, 97, 114, 109, 61, 110, 111])) (iEq y54.2.1 0) false)
 ((m9 0).bind fun y55 =>
 (m24 y55.1).bind fun y62 =>
 some (iEq y62.1 72, ()))
 (some (false, ()))
noncomputable def cfg8 (G : GP) : Cfg := ⟨ttab, (gtab G), [i19, i24, i9], []⟩
theorem eqn8 (G : GP) (x : Unit) : xfun (cfg8 G) x8 20 [.t 0] [] [.bool] x = m8 := by kernel_rfl
noncomputable def i8 : PI := ⟨8, [], [.bool], fun (x : Unit) => m8⟩
theorem oki8 {G : GP} : POk Tryd.prog (gx (gtab G)) i8 := pok mixed (cfg_p oki19 (cfg_p oki24 (cfg_p oki9 (cfg_nil _ _))) : CfgOk _ (cfg8 G)) F8 (eqn8 G)
/- 11 treaty/treatymade.New -/
def r11_0 : List Ins := [qI 2 (.mov (.k (.pointer none)))]
def r11_1 : List Ins := [qI 3 (.mov 0), qI 4 (.build [.slice none 0 0, .int .i64 0] [(0, 1, 3)]), qI 5 (.box 52 2 4), qI 2 (.mov 5)]
def x11 : XC := (.seq (.ops false r11_0) (.seq (.ops false r11_1) .ret))
theorem F11 : Fn Tryd.prog 11 6 x11.er [.t 2] := ⟨Tryd.f11, hcl, Tryd.func11, by kernel_rfl, by kernel_rfl, by kernel_rfl, by kernel_rfl⟩
noncomputable def m11 (a0 : List Int) : Option ((List Int) × Int × Unit) :=
 some (a0, 0, ())
noncomputable def cfg11 (G : GP) : Cfg := ⟨ttab, (gtab G), [], []⟩
def ish11 : Sh := ⟨1, [(0, (.list (.int .i64)))], [], []⟩
def osh11 : Sh := ⟨1, [], [(0, .ptr 0 0 0)], [.box 52 [.d (.list (.int .i64)), .d (.int .i64)]]⟩
theorem eqn11 (G : GP) (x : (List Int) × Unit) : xfunH (cfg11 G) x11 6 [.t 2] [] ish11 osh11 x = m11 x.1 := by kernel_rfl
noncomputable def h11 : HI := ⟨11, ish11, osh11, fun (x : (List Int) × Unit) => m11 x.1⟩
theorem okh11 {G : GP} : HOk Tryd.prog (gx (gtab G)) h11 := hok mixed (cfg_nil _ _ : CfgOk _ (cfg11 G)) F11 (eqn11 G)
/- 12 (*treaty/treatymade.Deck).Next -/
def r12_0 : List Ins := [qI 4 (.mov (kI 0))]
def r12_1 : List Ins := [qI 5 (.mov 0), qI 6 (.nck 5), qI 7 (.faddr 1 6), qI 8 (.load 1 false 7), qI 9 (.mov 0), qI 10 (.nck 9), qI 11 (.faddr 0 10), qI 12 (.load 1 false 11), qI 13 (.len 12), qI 14 (.bin .geq 8 13)]
def r12_2 : List Ins := [qI 4 (.mov (kI 0))]
def r12_3 : List Ins := [qI 15 (.mov 0), qI 16 (.nck 15), qI 17 (.faddr 1 16), qI 18 (.load 1 false 17), qI 19 (.bin .add 18 (kI 1)), qI 20 (.nck 15), qI 21 (.faddr 1 20), qN (.store 1 21 19)]
def r12_4 : List Ins := [qI 22 (.mov 0), qI 23 (.nck 22), qI 24 (.faddr 0 23), qI 25 (.load 1 false 24), qI 26 (.mov 0), qI 27 (.nck 26), qI 28 (.faddr 1 27), qI 29 (.load 1 false 28), qI 30 (.bin .sub 29 (kI 1)), qI 31 (.iaddr 1 25 30), qI 32 (.load 1 false 31), qI 33 (.mov 1), qI 34 (.bin .rem 32 33), qI 35 (.mov 1), qI 36 (.bin .add 34 35), qI 37 (.mov 1), qI 38 (.bin .rem 36 37), qI 4 (.mov 38)]
def x12 : XC := (.seq (.ops false r12_0) (.seq (.seq (.ops true r12_1) (.cond (.t 14) (.seq (.ops false r12_2) .ret) .skip)) (.seq (.ops false r12_3) (.seq (.ops true r12_4) .ret))))
theorem F12 : Fn Tryd.prog 12 39 x12.er [.t 4] := ⟨Tryd.f12, hcl, Tryd.func12, by kernel_rfl, by kernel_rfl, by kernel_rfl, by kernel_rfl⟩
noncomputable def m12 (a0 : Int) (a1 : List Int) (a2 : Int) : Option (Int × (List Int) × Int × Unit) :=
 cond (iLe (lenI a1) a2)
 (some (0, a1, a2, ()))
 (cond (bnd (iSub .i64 (iAdd .i64 a2 1) 1) (lenI a1))
 (cond (iNe a0 0)
 (cond (iNe a0 0)
 (some (iRem (iAdd .i64 (iRem (atI a1 (iSub .i64 (iAdd .i64 a2 1) 1) 0) a0) a0) a0, a1, iAdd .i64 a2 1, ())) none) none) none)
noncomputable def cfg12 (G : GP) : Cfg := ⟨ttab, (gtab G), [], []⟩
def ish12 : Sh := ⟨2, [(1, (.int .i64))], [(0, .ptr 0 0 0)], [.box 52 [.d (.list (.int .i64)), .d (.int .i64)]]⟩
def osh12 : Sh := ⟨1, [(0, (.int .i64))], [], [.box 52 [.d (.list (.int .i64)), .d (.int .i64)]]⟩
theorem eqn12 (G : GP) (x : Int × (List Int) × Int × Unit) : xfunH (cfg12 G) x12 39 [.t 4] [] ish12 osh12 x = m12 x.1 x.2.1 x.2.2.1 := by kernel_rfl
noncomputable def h12 : HI := ⟨12, ish12, osh12, fun (x : Int × (List Int) × Int × Unit) => m12 x.1 x.2.1 x.2.2.1⟩
theorem okh12 {G : GP} : HOk Tryd.prog (gx (gtab G)) h12 := hok mixed (cfg_nil _ _ : CfgOk _ (cfg12 G)) F12 (eqn12 G)
/- 62 treaty/treatyref05.letter -/
def r62_0 : List Ins := [qI 2 (.mov (.k (.bool false)))]
def r62_1 : List Ins := [qI 3 (.mov 0), qI 4 (.bin .geq 3 (.k (.int .u8 97))), qI 5 (.mov 4), qT 6 5 (.mov 0), qT 7 5 (.bin .leq 6 (.k (.int .u8 122))), qI 8 (.pick 5 7 (.k (.bool false))), qI 2 (.mov 8)]
def x62 : XC := (.seq (.ops false r62_0) (.seq (.ops false r62_1) .ret))
theorem F62 : Fn Tryd.prog 62 9 x62.er [.t 2] := ⟨Tryd.f62, hcl, Tryd.func62, by kernel_rfl, by kernel_rfl, by kernel_rfl, by kernel_rfl⟩
noncomputable def m62 (a0 : Int) : Option (Bool × Unit) :=
 some (cond (iLe 97 a0) (iLe a0 122) false, ())
noncomputable def cfg62 (G : GP) : Cfg := ⟨ttab, (gtab G), [], []⟩
theorem eqn62 (G : GP) (x : Int × Unit) : xfun (cfg62 G) x62 9 [.t 2] [(.int .u8)] [.bool] x = m62 x.1 := by kernel_rfl
noncomputable def i62 : PI := ⟨62, [(.int .u8)], [.bool], fun (x : Int × Unit) => m62 x.1⟩
theorem oki62 {G : GP} : POk Tryd.prog (gx (gtab G)) i62 := pok mixed (cfg_nil _ _ : CfgOk _ (cfg62 G)) F62 (eqn62 G)
/- 57 treaty/treatyref05.digit -/
def r57_0 : List Ins := [qI 2 (.mov (.k (.bool false)))]
def r57_1 : List Ins := [qI 3 (.mov 0), qI 4 (.bin .geq 3 (.k (.int .u8 48))), qI 5 (.mov 4), qT 6 5 (.mov 0), qT 7 5 (.bin .leq 6 (.k (.int .u8 57))), qI 8 (.pick 5 7 (.k (.bool false))), qI 2 (.mov 8)]
def x57 : XC := (.seq (.ops false r57_0) (.seq (.ops false r57_1) .ret))
theorem F57 : Fn Tryd.prog 57 9 x57.er [.t 2] := ⟨Tryd.f57, hcl, Tryd.func57, by kernel_rfl, by kernel_rfl, by kernel_rfl, by kernel_rfl⟩
noncomputable def m57 (a0 : Int) : Option (Bool × Unit) :=
 some (cond (iLe 48 a0) (iLe a0 57) false, ())
noncomputable def cfg57 (G : GP) : Cfg := ⟨ttab, (gtab G), [], []⟩
theorem eqn57 (G : GP) (x : Int × Unit) : xfun (cfg57 G) x57 9 [.t 2] [(.int .u8)] [.bool] x = m57 x.1 := by kernel_rfl
noncomputable def i57 : PI := ⟨57, [(.int .u8)], [.bool], fun (x : Int × Unit) => m57 x.1⟩
theorem oki57 {G : GP} : POk Tryd.prog (gx (gtab G)) i57 := pok mixed (cfg_nil _ _ : CfgOk _ (cfg57 G)) F57 (eqn57 G)
/- 43 treaty/treatyref05.Word -/
def r43_0 : List Ins := [qI 2 (.mov (.k (.bool false)))]
def r43_1 : List Ins := [qI 4 (.mov 0), qI 5 (.slen 4), qI 6 (.bin .lss 5 (kI 1)), qI 7 (.mov 6), qF 8 7 (.mov 0), qF 9 7 (.slen 8), qF 10 7 (.bin .gtr 9 (kI 16)), qI 11 (.pick 7 (.k (.bool true)) 10), qI 12 (.mov 11), qF 13 12 (.mov 0), qF 14 12 (.idx 13 (kI 0)), qF 15 12 (.call (.fn 62) [14]), qF 16 12 (.un .not 15), qI 17 (.pick 12 (.k (.bool true)) 16), qI 18 (.mov 17), qF 19 18 (.mov 0), qF 20 18 (.mov 0), qF 21 18 (.slen 20), qF 22 18 (.bin .sub 21 (kI 1)), qF 23 18 (.idx 19 22), qF 24 18 (.bin .eql 23 (.k (.int .u8 45))), qI 25 (.pick 18 (.k (.bool true)) 24)]
def r43_2 : List Ins := [qI 2 (.mov (.k (.bool false)))]
def r43_3 : List Ins := [qI 3 (.mov (kI 0))]
def r43_4 : List Ins := [qI 26 (.mov 3), qI 27 (.mov 0), qI 28 (.slen 27), qI 29 (.bin .lss 26 28)]
def r43_5 : List Ins := [qI 32 (.mov 0), qI 33 (.mov 3), qI 34 (.idx 32 33), qI 35 (.call (.fn 62) [34]), qI 36 (.un .not 35), qI 37 (.mov 36), qT 38 37 (.mov 0), qT 39 37 (.mov 3), qT 40 37 (.idx 38 39), qT 41 37 (.call (.fn 57) [40]), qT 42 37 (.un .not 41), qI 43 (.pick 37 42 (.k (.bool false))), qI 44 (.mov 43), qT 45 44 (.mov 0), qT 46 44 (.mov 3), qT 47 44 (.idx 45 46), qT 48 44 (.bin .neq 47 (.k (.int .u8 45))), qI 49 (.pick 44 48 (.k (.bool false)))]
def r43_6 : List Ins := [qI 2 (.mov (.k (.bool false)))]
def r43_7 : List Ins := [qI 30 (.mov 3), qI 31 (.bin .add 30 (kI 1)), qI 3 (.mov 31)]
def r43_8 : List Ins := [qI 2 (.mov (.k (.bool true)))]
def x43 : XC := (.seq (.ops false r43_0) (.seq (.seq (.ops false r43_1) (.cond (.t 25) (.seq (.ops false r43_2) .ret) .skip)) (.seq (.seq (.ops false r43_3) (.block 0 (.loop [] ⟨50, [(0, .str), (3, (.int .i64))], [], []⟩ (.seq (.seq (.ops false r43_4) (.cond (.t 29) .skip (.exit 0))) (.seq (.block 1 (.seq (.ops false r43_5) (.cond (.t 49) (.seq (.ops false r43_6) .ret) .skip))) (.ops false r43_7)))))) (.seq (.ops false r43_8) .ret))))
theorem F43 : Fn Tryd.prog 43 50 x43.er [.t 2] := ⟨Tryd.f43, hcl, Tryd.func43, by kernel_rfl, by kernel_rfl, by kernel_rfl, by kernel_rfl⟩
noncomputable def m43 (a0 : ByteArray) : Option (Bool × Unit) :=
 cond (or (bnd 0 (sLen a0)) (not (bEq (cond (iLt (sLen a0) 1) true (iLt 16 (sLen a0))) false)))
 (cond (cond (iLt (sLen a0) 1) true (iLt 16 (sLen a0)))
 (cond (or (bnd (iSub .i64 (sLen a0) 1) (sLen a0)) (not (bEq true false)))
 (some (false, ())) none)
 ((m62 (sAt a0 0)).bind fun y75 =>
 cond (or (bnd (iSub .i64 (sLen a0) 1) (sLen a0)) (not (bEq (not y75.1) false)))
 (cond (cond (not y75.1) true (iEq (sAt a0 (iSub .i64 (sLen a0) 1)) 45))
 (some (false, ()))
 (loopO (S := ByteArray × Int × Unit) (R := Bool × Unit) (fun s76 =>
 cond (iLt s76.2.1 (sLen s76.1))
 (cond (bnd s76.2.1 (sLen s76.1))
 ((m62 (sAt s76.1 s76.2.1)).bind fun y77 =>
 cond (or (bnd s76.2.1 (sLen s76.1)) (not (bEq (not y77.1) true)))
 (cond (not y77.1)
 ((m57 (sAt s76.1 s76.2.1)).bind fun y78 =>
 cond (or (bnd s76.2.1 (sLen s76.1)) (not (bEq (not y78.1) true)))
 (cond (cond (not y78.1) (iNe (sAt s76.1 s76.2.1) 45) false)
 (some (.inr (false, ())))
 (some (.inl (s76.1, iAdd .i64 s76.2.1 1, ())))) none)
 (cond (or (bnd s76.2.1 (sLen s76.1)) (not (bEq false true)))
 (some (.inl (s76.1, iAdd .i64 s76.2.1 1, ()))) none)) none) none)
 (some (.inr (true, ()))))
 (a0, 0, ()))) none)) none
noncomputable def cfg43 (G : GP) : Cfg := ⟨ttab, (gtab G), [i57, i62], []⟩
theorem eqn43 (G : GP) (x : ByteArray × Unit) : xfun (cfg43 G) x43 50 [.t 2] [.str] [.bool] x = m43 x.1 := by kernel_rfl
noncomputable def i43 : PI := ⟨43, [.str], [.bool], fun (x : ByteArray × Unit) => m43 x.1⟩
theorem oki43 {G : GP} : POk Tryd.prog (gx (gtab G)) i43 := pok mixed (cfg_p oki57 (cfg_p oki62 (cfg_nil _ _)) : CfgOk _ (cfg43 G)) F43 (eqn43 G)
/- 44 treaty/treatyref05.Reserved -/
def r44_0 : List Ins := [qI 2 (.mov (.k (.bool false)))]
def r44_1 : List Ins := [qI 3 (.mov 0)]
def r44_2 : List Ins := [qI 5 (.bin .eql 3 (.k (.string (bs [97, 110, 100])))), qI 4 (.mov 5)]
def r44_3 : List Ins := [qI 6 (.bin .eql 3 (.k (.string (bs [97, 118, 101, 114, 97, 103, 101])))), qI 4 (.mov 6)]
def r44_4 : List Ins := [qI 7 (.bin .eql 3 (.k (.string (bs [99, 111, 105, 110, 115, 117, 114, 97, 110, 99, 101])))), qI 4 (.mov 7)]
def r44_5 : List Ins := [qI 8 (.bin .eql 3 (.k (.string (bs [99, 111, 110, 100, 105, 116, 105, 111, 110])))), qI 4 (.mov 8)]
def r44_6 : List Ins := [qI 9 (.bin .eql 3 (.k (.string (bs [99, 111, 118, 101, 114])))), qI 4 (.mov 9)]
def r44_7 : List Ins := [qI 10 (.bin .eql 3 (.k (.string (bs [100, 101, 100, 117, 99, 116, 105, 98, 108, 101])))), qI 4 (.mov 10)]
def r44_8 : List Ins := [qI 11 (.bin .eql 3 (.k (.string (bs [100, 101, 102, 105, 110, 101])))), qI 4 (.mov 11)]
def r44_9 : List Ins := [qI 12 (.bin .eql 3 (.k (.string (bs [101, 110, 100])))), qI 4 (.mov 12)]
def r44_10 : List Ins := [qI 13 (.bin .eql 3 (.k (.string (bs [101, 110, 100, 111, 114, 115, 101])))), qI 4 (.mov 13)]
def r44_11 : List Ins := [qI 14 (.bin .eql 3 (.k (.string (bs [101, 120, 99, 108, 117, 100, 101])))), qI 4 (.mov 14)]
def r44_12 : List Ins := [qI 15 (.bin .eql 3 (.k (.string (bs [102, 97, 108, 115, 101])))), qI 4 (.mov 15)]
def r44_13 : List Ins := [qI 16 (.bin .eql 3 (.k (.string (bs [102, 114, 97, 110, 99, 104, 105, 115, 101])))), qI 4 (.mov 16)]
def r44_14 : List Ins := [qI 17 (.bin .eql 3 (.k (.string (bs [102, 114, 111, 109])))), qI 4 (.mov 17)]
def r44_15 : List Ins := [qI 18 (.bin .eql 3 (.k (.string (bs [105, 110])))), qI 4 (.mov 18)]
def r44_16 : List Ins := [qI 19 (.bin .eql 3 (.k (.string (bs [108, 105, 109, 105, 116])))), qI 4 (.mov 19)]
def r44_17 : List Ins := [qI 20 (.bin .eql 3 (.k (.string (bs [110, 111, 116])))), qI 4 (.mov 20)]
def r44_18 : List Ins := [qI 21 (.bin .eql 3 (.k (.string (bs [111, 114])))), qI 4 (.mov 21)]
def r44_19 : List Ins := [qI 22 (.bin .eql 3 (.k (.string (bs [114, 101, 109, 111, 118, 101])))), qI 4 (.mov 22)]
def r44_20 : List Ins := [qI 23 (.bin .eql 3 (.k (.string (bs [115, 117, 98, 108, 105, 109, 105, 116])))), qI 4 (.mov 23)]
def r44_21 : List Ins := [qI 24 (.bin .eql 3 (.k (.string (bs [116, 111])))), qI 4 (.mov 24)]
def r44_22 : List Ins := [qI 25 (.bin .eql 3 (.k (.string (bs [116, 114, 117, 101])))), qI 4 (.mov 25)]
def r44_23 : List Ins := [qI 26 (.bin .eql 3 (.k (.string (bs [117, 110, 108, 101, 115, 115])))), qI 4 (.mov 26)]
def r44_24 : List Ins := [qI 27 (.bin .eql 3 (.k (.string (bs [119, 104, 101, 110])))), qI 4 (.mov 27)]
def r44_25 : List Ins := [qI 2 (.mov (.k (.bool true)))]
def r44_26 : List Ins := [qI 2 (.mov (.k (.bool false)))]
def x44 : XC := (.seq (.ops false r44_0) (.seq (.seq (.ops false r44_1) (.block 0 (.seq (.seq (.ops false r44_2) (.cond (.t 4) .skip (.seq (.ops false r44_3) (.cond (.t 4) .skip (.seq (.ops false r44_4) (.cond (.t 4) .skip (.seq (.ops false r44_5) (.cond (.t 4) .skip (.seq (.ops false r44_6) (.cond (.t 4) .skip (.seq (.ops false r44_7) (.cond (.t 4) .skip (.seq (.ops false r44_8) (.cond (.t 4) .skip (.seq (.ops false r44_9) (.cond (.t 4) .skip (.seq (.ops false r44_10) (.cond (.t 4) .skip (.seq (.ops false r44_11) (.cond (.t 4) .skip (.seq (.ops false r44_12) (.cond (.t 4) .skip (.seq (.ops false r44_13) (.cond (.t 4) .skip (.seq (.ops false r44_14) (.cond (.t 4) .skip (.seq (.ops false r44_15) (.cond (.t 4) .skip (.seq (.ops false r44_16) (.cond (.t 4) .skip (.seq (.ops false r44_17) (.cond (.t 4) .skip (.seq (.ops false r44_18) (.cond (.t 4) .skip (.seq (.ops false r44_19) (.cond (.t 4) .skip (.seq (.ops false r44_20) (.cond (.t 4) .skip (.seq (.ops false r44_21) (.cond (.t 4) .skip (.seq (.ops false r44_22) (.cond (.t 4) .skip (.seq (.ops false r44_23) (.cond (.t 4) .skip (.ops false r44_24))))))))))))))))))))))))))))))))))))))))))))) (.cond (.t 4) (.seq (.ops false r44_25) .ret) .skip)))) (.seq (.ops false r44_26) .ret)))
theorem F44 : Fn Tryd.prog 44 28 x44.er [.t 2] := ⟨Tryd.f44, hcl, Tryd.func44, by kernel_rfl, by kernel_rfl, by kernel_rfl, by kernel_rfl⟩
noncomputable def m44 (a0 : ByteArray) : Option (Bool × Unit) :=
 cond (sEq a0 (bs [97, 110, 100]))
 (some (true, ()))
 (cond (sEq a0 (bs [97, 118, 101, 114, 97, 103, 101]))
 (some (true, ()))
 (cond (sEq a0 (bs [99, 111, 105, 110, 115, 117, 114, 97, 110, 99, 101]))
 (some (true, ()))
 (cond (sEq a0 (bs [99, 111, 110, 100, 105, 116, 105, 111, 110]))
 (some (true, ()))
 (cond (sEq a0 (bs [99, 111, 118, 101, 114]))
 (some (true, ()))
 (cond (sEq a0 (bs [100, 101, 100, 117, 99, 116, 105, 98, 108, 101]))
 (some (true, ()))
 (cond (sEq a0 (bs [100, 101, 102, 105, 110, 101]))
 (some (true, ()))
 (cond (sEq a0 (bs [101, 110, 100]))
 (some (true, ()))
 (cond (sEq a0 (bs [101, 110, 100, 111, 114, 115, 101]))
 (some (true, ()))
 (cond (sEq a0 (bs [101, 120, 99, 108, 117, 100, 101]))
 (some (true, ()))
 (cond (sEq a0 (bs [102, 97, 108, 115, 101]))
 (some (true, ()))
 (cond (sEq a0 (bs [102, 114, 97, 110, 99, 104, 105, 115, 101]))
 (some (true, ()))
 (cond (sEq a0 (bs [102, 114, 111, 109]))
 (some (true, ()))
 (cond (sEq a0 (bs [105, 110]))
 (some (true, ()))
 (cond (sEq a0 (bs [108, 105, 109, 105, 116]))
 (some (true, ()))
 (cond (sEq a0 (bs [110, 111, 116]))
 (some (true, ()))
 (cond (sEq a0 (bs [111, 114]))
 (some (true, ()))
 (cond (sEq a0 (bs [114, 101, 109, 111, 118, 101]))
 (some (true, ()))
 (cond (sEq a0 (bs [115, 117, 98, 108, 105, 109, 105, 116]))
 (some (true, ()))
 (cond (sEq a0 (bs [116, 111]))
 (some (true, ()))
 (cond (sEq a0 (bs [116, 114, 117, 101]))
 (some (true, ()))
 (cond (sEq a0 (bs [117, 110, 108, 101, 115, 115]))
 (some (true, ()))
 (cond (sEq a0 (bs [119, 104, 101, 110]))
 (some (true, ()))
 (some (false, ()))))))))))))))))))))))))
noncomputable def cfg44 (G : GP) : Cfg := ⟨ttab, (gtab G), [], []⟩
theorem eqn44 (G : GP) (x : ByteArray × Unit) : xfun (cfg44 G) x44 28 [.t 2] [.str] [.bool] x = m44 x.1 := by kernel_rfl
noncomputable def i44 : PI := ⟨44, [.str], [.bool], fun (x : ByteArray × Unit) => m44 x.1⟩
theorem oki44 {G : GP} : POk Tryd.prog (gx (gtab G)) i44 := pok mixed (cfg_nil _ _ : CfgOk _ (cfg44 G)) F44 (eqn44 G)
/- 29 treaty/treatyref05.Name -/
def r29_0 : List Ins := [qI 2 (.mov (.k (.bool false)))]
def r29_1 : List Ins := [qI 3 (.mov 0), qI 4 (.call (.fn 43) [3]), qI 5 (.mov 4), qT 6 5 (.mov 0), qT 7 5 (.call (.fn 44) [6]), qT 8 5 (.un .not 7), qI 9 (.pick 5 8 (.k (.bool false))), qI 2 (.mov 9)]
def x29 : XC := (.seq (.ops false r29_0) (.seq (.ops false r29_1) .ret))
theorem F29 : Fn Tryd.prog 29 10 x29.er [.t 2] := ⟨Tryd.f29, hcl, Tryd.func29, by kernel_rfl, by kernel_rfl, by kernel_rfl, by kernel_rfl⟩
noncomputable def m29 (a0 : ByteArray) : Option (Bool × Unit) :=
 (m43 a0).bind fun y79 =>
 cond y79.1
 ((m44 a0).bind fun y80 =>
 some (not y80.1, ()))
 (some (false, ()))
noncomputable def cfg29 (G : GP) : Cfg := ⟨ttab, (gtab G), [i43, i44], []⟩
theorem eqn29 (G : GP) (x : ByteArray × Unit) : xfun (cfg29 G) x29 10 [.t 2] [.str] [.bool] x = m29 x.1 := by kernel_rfl
noncomputable def i29 : PI := ⟨29, [.str], [.bool], fun (x : ByteArray × Unit) => m29 x.1⟩
theorem oki29 {G : GP} : POk Tryd.prog (gx (gtab G)) i29 := pok mixed (cfg_p oki43 (cfg_p oki44 (cfg_nil _ _)) : CfgOk _ (cfg29 G)) F29 (eqn29 G)
/- 45 treaty/treatyref05.names -/
def r45_0 : List Ins := [qI 2 (.mov (.k (.bool false)))]
def r45_1 : List Ins := [qI 3 (.mov (kI 0))]
def r45_2 : List Ins := [qI 4 (.mov 3), qI 5 (.mov 0), qI 6 (.len 5), qI 7 (.bin .lss 4 6)]
def r45_3 : List Ins := [qI 10 (.mov 0), qI 11 (.mov 3), qI 12 (.iaddr 1 10 11), qI 13 (.load 1 false 12), qI 14 (.call (.fn 29) [13]), qI 15 (.un .not 14)]
def r45_4 : List Ins := [qI 2 (.mov (.k (.bool false)))]
def r45_5 : List Ins := [qI 8 (.mov 3), qI 9 (.bin .add 8 (kI 1)), qI 3 (.mov 9)]
def r45_6 : List Ins := [qI 2 (.mov (.k (.bool true)))]
def x45 : XC := (.seq (.ops false r45_0) (.seq (.seq (.ops false r45_1) (.block 0 (.loop [] ⟨16, [(0, (.list .str)), (3, (.int .i64))], [], []⟩ (.seq (.seq (.ops false r45_2) (.cond (.t 7) .skip (.exit 0))) (.seq (.block 1 (.seq (.ops false r45_3) (.cond (.t 15) (.seq (.ops false r45_4) .ret) .skip))) (.ops false r45_5)))))) (.seq (.ops false r45_6) .ret)))
theorem F45 : Fn Tryd.prog 45 16 x45.er [.t 2] := ⟨Tryd.f45, hcl, Tryd.func45, by kernel_rfl, by kernel_rfl, by kernel_rfl, by kernel_rfl⟩
noncomputable def m45 (a0 : List ByteArray) : Option (Bool × Unit) :=
 loopO (S := (List ByteArray) × Int × Unit) (R := Bool × Unit) (fun s85 =>
 cond (iLt s85.2.1 (lenI s85.1))
 (cond (bnd s85.2.1 (lenI s85.1))
 ((m29 (atI s85.1 s85.2.1 ByteArray.empty)).bind fun y86 =>
 cond (not y86.1)
 (some (.inr (false, ())))
 (some (.inl (s85.1, iAdd .i64 s85.2.1 1, ())))) none)
 (some (.inr (true, ()))))
 (a0, 0, ())
noncomputable def cfg45 (G : GP) : Cfg := ⟨ttab, (gtab G), [i29], []⟩
theorem eqn45 (G : GP) (x : (List ByteArray) × Unit) : xfun (cfg45 G) x45 16 [.t 2] [(.list .str)] [.bool] x = m45 x.1 := by kernel_rfl
noncomputable def i45 : PI := ⟨45, [(.list .str)], [.bool], fun (x : (List ByteArray) × Unit) => m45 x.1⟩
theorem oki45 {G : GP} : POk Tryd.prog (gx (gtab G)) i45 := pok mixed (cfg_p oki29 (cfg_nil _ _) : CfgOk _ (cfg45 G)) F45 (eqn45 G)
/- 46 treaty/treatyref05.distinct -/
def r46_0 : List Ins := [qI 2 (.mov (.k (.bool false)))]
def r46_1 : List Ins := [qI 3 (.mov (kI 0))]
def r46_2 : List Ins := [qI 5 (.mov 3), qI 6 (.mov 0), qI 7 (.len 6), qI 8 (.bin .lss 5 7)]
def r46_3 : List Ins := [qI 4 (.mov (kI 0))]
def r46_4 : List Ins := [qI 11 (.mov 4), qI 12 (.mov 3), qI 13 (.bin .lss 11 12)]
def r46_5 : List Ins := [qI 16 (.mov 0), qI 17 (.mov 3), qI 18 (.iaddr 1 16 17), qI 19 (.load 1 false 18), qI 20 (.mov 0), qI 21 (.mov 4), qI 22 (.iaddr 1 20 21), qI 23 (.load 1 false 22), qI 24 (.bin .eql 19 23)]
def r46_6 : List Ins := [qI 2 (.mov (.k (.bool false)))]
def r46_7 : List Ins := [qI 14 (.mov 4), qI 15 (.bin .add 14 (kI 1)), qI 4 (.mov 15)]
def r46_8 : List Ins := [qI 9 (.mov 3), qI 10 (.bin .add 9 (kI 1)), qI 3 (.mov 10)]
def r46_9 : List Ins := [qI 2 (.mov (.k (.bool true)))]
def x46 : XC := (.seq (.ops false r46_0) (.seq (.seq (.ops false r46_1) (.block 0 (.loop [] ⟨25, [(0, (.list .str)), (3, (.int .i64))], [], []⟩ (.seq (.seq (.ops false r46_2) (.cond (.t 8) .skip (.exit 0))) (.seq (.block 1 (.seq (.ops false r46_3) (.block 2 (.loop [] ⟨25, [(0, (.list .str)), (3, (.int .i64)), (4, (.int .i64))], [], []⟩ (.seq (.seq (.ops false r46_4) (.cond (.t 13) .skip (.exit 2))) (.seq (.block 3 (.seq (.ops true r46_5) (.cond (.t 24) (.seq (.ops false r46_6) .ret) .skip))) (.ops false r46_7))))))) (.ops false r46_8)))))) (.seq (.ops false r46_9) .ret)))
theorem F46 : Fn Tryd.prog 46 25 x46.er [.t 2] := ⟨Tryd.f46, hcl, Tryd.func46, by kernel_rfl, by kernel_rfl, by kernel_rfl, by kernel_rfl⟩
noncomputable def m46 (a0 : List ByteArray) : Option (Bool × Unit) :=
 loopO (S := (List ByteArray) × Int × Unit) (R := Bool × Unit) (fun s90 =>
 cond (iLt s90.2.1 (lenI s90.1))
 (loopO (S := (List ByteArray) × Int × Int × Unit) (R := ((List ByteArray) × Int × Unit) ⊕ (Bool × Unit)) (fun s91 =>
 cond (iLt s91.2.2.1 s91.2.1)
 (cond (bnd s91.2.1 (lenI s91.1))
 (cond (bnd s91.2.2.1 (lenI s91.1))
 (cond (sEq (atI s91.1 s91.2.1 ByteArray.empty) (atI s91.1 s91.2.2.1 ByteArray.empty))
 (some (.inr (.inr (false, ()))))
 (some (.inl (s91.1, s91.2.1, iAdd .i64 s91.2.2.1 1, ())))) none) none)
 (some (.inr (.inl (s91.1, iAdd .i64 s91.2.1 1, ())))))
 (s90.1, s90.2.1, 0, ()))
 (some (.inr (true, ()))))
 (a0, 0, ())
noncomputable def cfg46 (G : GP) : Cfg := ⟨ttab, (gtab G), [], []⟩
theorem eqn46 (G : GP) (x : (List ByteArray) × Unit) : xfun (cfg46 G) x46 25 [.t 2] [(.list .str)] [.bool] x = m46 x.1 := by kernel_rfl
noncomputable def i46 : PI := ⟨46, [(.list .str)], [.bool], fun (x : (List ByteArray) × Unit) => m46 x.1⟩
theorem oki46 {G : GP} : POk Tryd.prog (gx (gtab G)) i46 := pok mixed (cfg_nil _ _ : CfgOk _ (cfg46 G)) F46 (eqn46 G)
/- 47 treaty/treatyref05.far -/
def r47_0 : List Ins := [qI 2 (.mov (.k (.bool false)))]
def r47_1 : List Ins := [qI 3 (.mov 0), qI 4 (.bin .gtr 3 (kI 1000000000)), qI 5 (.mov 4), qF 6 5 (.mov 0), qF 7 5 (.bin .lss 6 (.k (.int .i64 (-1000000000)))), qI 8 (.pick 5 (.k (.bool true)) 7), qI 2 (.mov 8)]
def x47 : XC := (.seq (.ops false r47_0) (.seq (.ops false r47_1) .ret))
theorem F47 : Fn Tryd.prog 47 9 x47.er [.t 2] := ⟨Tryd.f47, hcl, Tryd.func47, by kernel_rfl, by kernel_rfl, by kernel_rfl, by kernel_rfl⟩
noncomputable def m47 (a0 : Int) : Option (Bool × Unit) :=
 some (cond (iLt 1000000000 a0) true (iLt a0 (-1000000000)), ())
noncomputable def cfg47 (G : GP) : Cfg := ⟨ttab, (gtab G), [], []⟩
theorem eqn47 (G : GP) (x : Int × Unit) : xfun (cfg47 G) x47 9 [.t 2] [(.int .i64)] [.bool] x = m47 x.1 := by kernel_rfl
noncomputable def i47 : PI := ⟨47, [(.int .i64)], [.bool], fun (x : Int × Unit) => m47 x.1⟩
theorem oki47 {G : GP} : POk Tryd.prog (gx (gtab G)) i47 := pok mixed (cfg_nil _ _ : CfgOk _ (cfg47 G)) F47 (eqn47 G)
/- 30 treaty/treatyref05.attribute -/
def r30_0 : List Ins := [qI 1 (.box 27 5 0), qI 2 (.mov (kI 0))]
def r30_1 : List Ins := [qI 3 (.faddr 1 1), qI 4 (.load 1 false 3)]
def r30_2 : List Ins := [qI 6 (.bin .eql 4 (kI 1)), qI 5 (.mov 6)]
def r30_3 : List Ins := [qI 8 (.faddr 3 1), qI 9 (.load 1 false 8), qI 10 (.bin .neq 9 (kI 0)), qI 11 (.mov 10), qF 12 11 (.faddr 4 1), qF 13 11 (.load 1 false 12), qF 14 11 (.bin .neq 13 (kI 0)), qI 15 (.pick 11 (.k (.bool true)) 14), qI 7 (.mov 15)]
def r30_4 : List Ins := [qI 2 (.mov (kI 20))]
def r30_5 : List Ins := [qI 17 (.faddr 2 1), qI 18 (.load 1 false 17), qI 19 (.len 18), qI 20 (.bin .eql 19 (kI 0)), qI 16 (.mov 20)]
def r30_6 : List Ins := [qI 2 (.mov (kI 19))]
def r30_7 : List Ins := [qI 22 (.faddr 2 1), qI 23 (.load 1 false 22), qI 24 (.len 23), qI 25 (.bin .gtr 24 (kI 12)), qI 21 (.mov 25)]
def r30_8 : List Ins := [qI 2 (.mov (kI 4))]
def r30_9 : List Ins := [qI 27 (.faddr 2 1), qI 28 (.load 1 false 27), qI 29 (.call (.fn 45) [28]), qI 30 (.un .not 29), qI 26 (.mov 30)]
def r30_10 : List Ins := [qI 2 (.mov (kI 6))]
def r30_11 : List Ins := [qI 32 (.faddr 2 1), qI 33 (.load 1 false 32), qI 34 (.call (.fn 46) [33]), qI 35 (.un .not 34), qI 31 (.mov 35)]
def r30_12 : List Ins := [qI 2 (.mov (kI 8))]
def r30_13 : List Ins := [qI 2 (.mov (kI 0))]
def r30_14 : List Ins := [qI 37 (.bin .eql 4 (kI 2)), qI 36 (.mov 37)]
def r30_15 : List Ins := [qI 38 (.faddr 2 1), qI 39 (.load 1 false 38), qI 40 (.len 39), qI 41 (.bin .gtr 40 (kI 0))]
def r30_16 : List Ins := [qI 2 (.mov (kI 20))]
def r30_17 : List Ins := [qI 42 (.faddr 3 1), qI 43 (.load 1 false 42), qI 44 (.faddr 4 1), qI 45 (.load 1 false 44), qI 46 (.bin .gtr 43 45), qI 47 (.mov 46), qF 48 47 (.faddr 3 1), qF 49 47 (.load 1 false 48), qF 50 47 (.call (.fn 47) [49]), qI 51 (.pick 47 (.k (.bool true)) 50), qI 52 (.mov 51), qF 53 52 (.faddr 4 1), qF 54 52 (.load 1 false 53), qF 55 52 (.call (.fn 47) [54]), qI 56 (.pick 52 (.k (.bool true)) 55)]
def r30_18 : List Ins := [qI 2 (.mov (kI 1))]
def r30_19 : List Ins := [qI 2 (.mov (kI 0))]
def r30_20 : List Ins := [qI 58 (.bin .eql 4 (kI 3)), qI 57 (.mov 58)]
def r30_21 : List Ins := [qI 59 (.faddr 2 1), qI 60 (.load 1 false 59), qI 61 (.len 60), qI 62 (.bin .gtr 61 (kI 0)), qI 63 (.mov 62), qF 64 63 (.faddr 3 1), qF 65 63 (.load 1 false 64), qF 66 63 (.bin .neq 65 (kI 0)), qI 67 (.pick 63 (.k (.bool true)) 66), qI 68 (.mov 67), qF 69 68 (.faddr 4 1), qF 70 68 (.load 1 false 69), qF 71 68 (.bin .neq 70 (kI 0)), qI 72 (.pick 68 (.k (.bool true)) 71)]
def r30_22 : List Ins := [qI 2 (.mov (kI 20))]
def r30_23 : List Ins := [qI 2 (.mov (kI 0))]
def r30_24 : List Ins := [qI 2 (.mov (kI 11))]
def x30 : XC := (.seq (.ops false r30_0) (.seq (.seq (.ops false r30_1) (.block 0 (.seq (.ops false r30_2) (.cond (.t 5) (.seq (.block 1 (.seq (.ops false r30_3) (.cond (.t 7) (.seq (.ops false r30_4) .ret) (.seq (.ops false r30_5) (.cond (.t 16) (.seq (.ops false r30_6) .ret) (.seq (.ops false r30_7) (.cond (.t 21) (.seq (.ops false r30_8) .ret) (.seq (.ops false r30_9) (.cond (.t 26) (.seq (.ops false r30_10) .ret) (.seq (.ops false r30_11) (.cond (.t 31) (.seq (.ops false r30_12) .ret) .skip))))))))))) (.seq (.ops false r30_13) .ret)) (.seq (.ops false r30_14) (.cond (.t 36) (.seq (.seq (.ops false r30_15) (.cond (.t 41) (.seq (.ops false r30_16) .ret) .skip)) (.seq (.seq (.ops false r30_17) (.cond (.t 56) (.seq (.ops false r30_18) .ret) .skip)) (.seq (.ops false r30_19) .ret))) (.seq (.ops false r30_20) (.cond (.t 57) (.seq (.seq (.ops false r30_21) (.cond (.t 72) (.seq (.ops false r30_22) .ret) .skip)) (.seq (.ops false r30_23) .ret)) .skip)))))))) (.seq (.ops false r30_24) .ret)))
theorem F30 : Fn Tryd.prog 30 73 x30.er [.t 2] := ⟨Tryd.f30, hcl, Tryd.func30, by kernel_rfl, by kernel_rfl, by kernel_rfl, by kernel_rfl⟩
noncomputable def m30 (a0 : DS0) : Option (Int × Unit) :=
 cond (iEq a0.2.1 1)
 (cond (cond (iNe a0.2.2.2.1 0) true (iNe a0.2.2.2.2.1 0))
 (some (20, ()))
 (cond (iEq (lenI a0.2.2.1) 0)
 (some (19, ()))
 (cond (iLt 12 (lenI a0.2.2.1))
 (some (4, ()))
 ((m45 a0.2.2.1).bind fun y87 =>
 cond (not y87.1)
 (some (6, ()))
 ((m46 a0.2.2.1).bind fun y92 =>
 cond (not y92.1)
 (some (8, ()))
 (some (0, ())))))))
 (cond (iEq a0.2.1 2)
 (cond (iLt 0 (lenI a0.2.2.1))
 (some (20, ()))
 (cond (iLt a0.2.2.2.2.1 a0.2.2.2.1)
 (some (1, ()))
 ((m47 a0.2.2.2.1).bind fun y93 =>
 cond y93.1
 (some (1, ()))
 ((m47 a0.2.2.2.2.1).bind fun y94 =>
 cond y94.1
 (some (1, ()))
 (some (0, ()))))))
 (cond (iEq a0.2.1 3)
 (cond (cond (cond (iLt 0 (lenI a0.2.2.1)) true (iNe a0.2.2.2.1 0)) true (iNe a0.2.2.2.2.1 0))
 (some (20, ()))
 (some (0, ())))
 (some (11, ()))))
noncomputable def cfg30 (G : GP) : Cfg := ⟨ttab, (gtab G), [i45, i46, i47], []⟩
theorem eqn30 (G : GP) (x : DS0 × Unit) : xfun (cfg30 G) x30 73 [.t 2] [tS0] [(.int .i64)] x = m30 x.1 := by kernel_rfl
noncomputable def i30 : PI := ⟨30, [tS0], [(.int .i64)], fun (x : DS0 × Unit) => m30 x.1⟩
theorem oki30 {G : GP} : POk Tryd.prog (gx (gtab G)) i30 := pok mixed (cfg_p oki45 (cfg_p oki46 (cfg_p oki47 (cfg_nil _ _))) : CfgOk _ (cfg30 G)) F30 (eqn30 G)
/- 15 treaty/treatyref05.Schema -/
def r15_0 : List Ins := [qI 1 (.box 24 1 0), qI 2 (.mov (kI 0))]
def r15_1 : List Ins := [qI 7 (.faddr 0 1), qI 8 (.load 1 false 7), qI 9 (.len 8), qI 10 (.bin .eql 9 (kI 0))]
def r15_2 : List Ins := [qI 2 (.mov (kI 19))]
def r15_3 : List Ins := [qI 11 (.faddr 0 1), qI 12 (.load 1 false 11), qI 13 (.len 12), qI 14 (.bin .gtr 13 (kI 6))]
def r15_4 : List Ins := [qI 2 (.mov (kI 4))]
def r15_5 : List Ins := [qI 3 (.mov (kI 0))]
def r15_6 : List Ins := [qI 15 (.mov 3), qI 16 (.faddr 0 1), qI 17 (.load 1 false 16), qI 18 (.len 17), qI 19 (.bin .lss 15 18)]
def r15_7 : List Ins := [qI 22 (.faddr 0 1), qI 23 (.load 1 false 22), qI 24 (.mov 3), qI 25 (.iaddr 5 23 24), qI 26 (.load 5 true 25), qI 4 (.alloc 27 (.agg #[.string (bs []), .int .i64 0, .slice none 0 0, .int .i64 0, .int .i64 0])), qN (.store 5 4 26)]
def r15_8 : List Ins := [qI 27 (.faddr 0 4), qI 28 (.load 1 false 27), qI 29 (.call (.fn 29) [28]), qI 30 (.un .not 29)]
def r15_9 : List Ins := [qI 2 (.mov (kI 6))]
def r15_10 : List Ins := [qI 5 (.mov (kI 0))]
def r15_11 : List Ins := [qI 31 (.mov 5), qI 32 (.mov 3), qI 33 (.bin .lss 31 32)]
def r15_12 : List Ins := [qI 36 (.faddr 0 1), qI 37 (.load 1 false 36), qI 38 (.mov 5), qI 39 (.iaddr 5 37 38), qI 40 (.faddr 0 39), qI 41 (.load 1 false 40), qI 42 (.faddr 0 4), qI 43 (.load 1 false 42), qI 44 (.bin .eql 41 43)]
def r15_13 : List Ins := [qI 2 (.mov (kI 8))]
def r15_14 : List Ins := [qI 34 (.mov 5), qI 35 (.bin .add 34 (kI 1)), qI 5 (.mov 35)]
def r15_15 : List Ins := [qI 45 (.load 5 true 4), qI 46 (.call (.fn 30) [45]), qI 6 (.mov 46)]
def r15_16 : List Ins := [qI 47 (.mov 6), qI 48 (.bin .neq 47 (kI 0))]
def r15_17 : List Ins := [qI 49 (.mov 6), qI 2 (.mov 49)]
def r15_18 : List Ins := [qI 20 (.mov 3), qI 21 (.bin .add 20 (kI 1)), qI 3 (.mov 21)]
def r15_19 : List Ins := [qI 2 (.mov (kI 0))]
def x15 : XC := (.seq (.ops false r15_0) (.seq (.seq (.ops false r15_1) (.cond (.t 10) (.seq (.ops false r15_2) .ret) .skip)) (.seq (.seq (.ops false r15_3) (.cond (.t 14) (.seq (.ops false r15_4) .ret) .skip)) (.seq (.seq (.ops false r15_5) (.block 0 (.loop [] ⟨50, [(3, (.int .i64))], [(1, .ptr 0 0 0)], [.box 24 [.d (.list tS0)]]⟩ (.seq (.seq (.ops false r15_6) (.cond (.t 19) .skip (.exit 0))) (.seq (.block 1 (.seq (.ops false r15_7) (.seq (.seq (.ops false r15_8) (.cond (.t 30) (.seq (.ops false r15_9) .ret) .skip)) (.seq (.seq (.ops false r15_10) (.block 2 (.loop [] ⟨50, [(3, (.int .i64)), (5, (.int .i64))], [(1, .ptr 0 0 0), (4, .ptr 1 0 0)], [.box 24 [.d (.list tS0)], .box 27 [.d .str, .d (.int .i64), .d (.list .str), .d (.int .i64), .d (.int .i64)]]⟩ (.seq (.seq (.ops false r15_11) (.cond (.t 33) .skip (.exit 2))) (.seq (.block 3 (.seq (.ops true r15_12) (.cond (.t 44) (.seq (.ops false r15_13) .ret) .skip))) (.ops false r15_14)))))) (.seq (.ops false r15_15) (.seq (.ops false r15_16) (.cond (.t 48) (.seq (.ops false r15_17) .ret) .skip))))))) (.ops false r15_18)))))) (.seq (.ops false r15_19) .ret)))))
theorem F15 : Fn Tryd.prog 15 50 x15.er [.t 2] := ⟨Tryd.f15, hcl, Tryd.func15, by kernel_rfl, by kernel_rfl, by kernel_rfl, by kernel_rfl⟩
noncomputable def m15 (a0 : DS1) : Option (Int × Unit) :=
 cond (iEq (lenI a0.1) 0)
 (some (19, ()))
 (cond (iLt 6 (lenI a0.1))
 (some (4, ()))
 (loopO (S := Int × (List DS0) × Unit) (R := Int × Unit) (fun s96 =>
 cond (iLt s96.1 (lenI s96.2.1))
 (cond (bnd s96.1 (lenI s96.2.1))
 ((m29 ((atI s96.2.1 s96.1 (ByteArray.empty, 0, [], 0, 0, ())).1)).bind fun y97 =>
 cond (not y97.1)
 (some (.inr (6, ())))
 (loopO (S := Int × Int × (List DS0) × ByteArray × Int × (List ByteArray) × Int × Int × Unit) (R := (Int × (List DS0) × Unit) ⊕ (Int × Unit)) (fun s98 =>
 cond (iLt s98.2.1 s98.1)
 (cond (bnd s98.2.1 (lenI s98.2.2.1))
 (cond (sEq ((atI s98.2.2.1 s98.2.1 (ByteArray.empty, 0, [], 0, 0, ())).1) s98.2.2.2.1)
 (some (.inr (.inr (8, ()))))
 (some (.inl (s98.1, iAdd .i64 s98.2.1 1, s98.2.2.1, s98.2.2.2.1, s98.2.2.2.2.1, s98.2.2.2.2.2.1, s98.2.2.2.2.2.2.1, s98.2.2.2.2.2.2.2.1, ())))) none)
 (Option.map Sum.inr ((m30 (s98.2.2.2.1, s98.2.2.2.2.1, s98.2.2.2.2.2.1, s98.2.2.2.2.2.2.1, s98.2.2.2.2.2.2.2.1, ())).bind fun y99 =>
 cond (iNe y99.1 0)
 (some (.inr (y99.1, ())))
 (some (.inl (iAdd .i64 s98.1 1, s98.2.2.1, ()))))))
 (s96.1, 0, s96.2.1, (atI s96.2.1 s96.1 (ByteArray.empty, 0, [], 0, 0, ())).1, (atI s96.2.1 s96.1 (ByteArray.empty, 0, [], 0, 0, ())).2.1, (atI s96.2.1 s96.1 (ByteArray.empty, 0, [], 0, 0, ())).2.2.1, (atI s96.2.1 s96.1 (ByteArray.empty, 0, [], 0, 0, ())).2.2.2.1, (atI s96.2.1 s96.1 (ByteArray.empty, 0, [], 0, 0, ())).2.2.2.2.1, ()))) none)
 (some (.inr (0, ()))))
 (0, a0.1, ())))
noncomputable def cfg15 (G : GP) : Cfg := ⟨ttab, (gtab G), [i29, i30], []⟩
theorem eqn15 (G : GP) (x : DS1 × Unit) : xfun (cfg15 G) x15 50 [.t 2] [tS1] [(.int .i64)] x = m15 x.1 := by kernel_rfl
noncomputable def i15 : PI := ⟨15, [tS1], [(.int .i64)], fun (x : DS1 × Unit) => m15 x.1⟩
theorem oki15 {G : GP} : POk Tryd.prog (gx (gtab G)) i15 := pok mixed (cfg_p oki29 (cfg_p oki30 (cfg_nil _ _)) : CfgOk _ (cfg15 G)) F15 (eqn15 G)
/- 13 (*treaty/treatymade.Deck).Range -/
def r13_0 : List Ins := [qI 6 (.mov (kI 0))]
def r13_1 : List Ins := [qI 7 (.mov 1), qI 8 (.mov 0), qI 9 (.mov 2), qI 10 (.mov 1), qI 11 (.bin .sub 9 10), qI 12 (.bin .add 11 (kI 1)), qI 13 (.call (.fn 12) [8, 12]), qI 14 (.bin .add 7 13), qI 6 (.mov 14)]
def x13 : XC := (.seq (.ops false r13_0) (.seq (.ops false r13_1) .ret))
theorem F13 : Fn Tryd.prog 13 15 x13.er [.t 6] := ⟨Tryd.f13, hcl, Tryd.func13, by kernel_rfl, by kernel_rfl, by kernel_rfl, by kernel_rfl⟩
noncomputable def m13 (a0 : Int) (a1 : Int) (a2 : List Int) (a3 : Int) : Option (Int × (List Int) × Int × Unit) :=
 (m12 (iAdd .i64 (iSub .i64 a1 a0) 1) a2 a3).bind fun y107 =>
 some (iAdd .i64 a0 y107.1, y107.2.1, y107.2.2.1, ())
noncomputable def cfg13 (G : GP) : Cfg := ⟨ttab, (gtab G), [], [h12]⟩
def ish13 : Sh := ⟨3, [(1, (.int .i64)), (2, (.int .i64))], [(0, .ptr 0 0 0)], [.box 52 [.d (.list (.int .i64)), .d (.int .i64)]]⟩
def osh13 : Sh := ⟨1, [(0, (.int .i64))], [], [.box 52 [.d (.list (.int .i64)), .d (.int .i64)]]⟩
theorem eqn13 (G : GP) (x : Int × Int × (List Int) × Int × Unit) : xfunH (cfg13 G) x13 15 [.t 6] [] ish13 osh13 x = m13 x.1 x.2.1 x.2.2.1 x.2.2.2.1 := by kernel_rfl
noncomputable def h13 : HI := ⟨13, ish13, osh13, fun (x : Int × Int × (List Int) × Int × Unit) => m13 x.1 x.2.1 x.2.2.1 x.2.2.2.1⟩
theorem okh13 {G : GP} : HOk Tryd.prog (gx (gtab G)) h13 := hok mixed (cfg_h okh12 (cfg_nil _ _) : CfgOk _ (cfg13 G)) F13 (eqn13 G)
/- 3 treaty/treatylaw06.SchemaValid -/
def r3_0 : List Ins := [qI 5 (.box 24 1 0), qI 8 (.box 27 5 3), qI 10 (.mov (.k (.bool false)))]
def r3_1 : List Ins := [qI 16 (.faddr 0 5), qI 17 (.load 1 false 16), qI 18 (.len 17), qI 19 (.bin .gtr 18 (kI 20))]
def r3_2 : List Ins := [qI 20 (.call (.fn 8) []), qI 10 (.mov 20)]
def r3_3 : List Ins := [qI 21 (.mov 1), qI 22 (.call (.fn 9) [21]), qI 11 (.alloc 24 (.agg #[.slice none 0 0])), qN (.store 1 11 22)]
def r3_4 : List Ins := [qI 23 (.bslice 27 5 []), qI 24 (.faddr 0 11), qI 25 (.load 1 false 24), qI 26 (.app 27 5 64 23 25), qI 27 (.faddr 0 11), qN (.store 1 27 26)]
def r3_5 : List Ins := [qI 28 (.mov 2), qI 29 (.faddr 0 11), qI 30 (.load 1 false 29), qI 31 (.len 30), qI 32 (.call (.fn 10) [28, 31]), qI 12 (.mov 32)]
def r3_6 : List Ins := [qI 33 (.load 1 true 11), qI 13 (.alloc 24 (.agg #[.slice none 0 0])), qN (.store 1 13 33)]
def r3_7 : List Ins := [qI 34 (.bslice 27 5 []), qI 35 (.faddr 0 11), qI 36 (.load 1 false 35), qI 37 (.app 27 5 64 34 36), qI 38 (.faddr 0 13), qN (.store 1 38 37)]
def r3_8 : List Ins := [qI 39 (.faddr 0 13), qI 40 (.load 1 false 39), qI 41 (.mov 12), qI 42 (.load 5 true 8), qI 43 (.iaddr 5 40 41), qN (.store 5 43 42)]
def r3_9 : List Ins := [qI 44 (.mov 4), qI 45 (.call (.fn 11) [44]), qI 14 (.mov 45)]
def r3_10 : List Ins := [qI 46 (.faddr 0 11), qI 47 (.load 1 false 46), qI 48 (.mov 12), qI 49 (.iaddr 5 47 48), qI 50 (.load 5 true 49), qI 15 (.alloc 27 (.agg #[.string (bs []), .int .i64 0, .slice none 0 0, .int .i64 0, .int .i64 0])), qN (.store 5 15 50)]
def r3_11 : List Ins := [qI 51 (.mov 14), qI 52 (.call (.fn 12) [51, (kI 7)])]
def r3_12 : List Ins := [qI 54 (.bin .eql 52 (kI 0)), qI 53 (.mov 54)]
def r3_13 : List Ins := [qI 55 (.mov 14), qI 56 (.call (.fn 12) [55, (kI 5)]), qI 57 (.faddr 1 15), qN (.store 1 57 56)]
def r3_14 : List Ins := [qI 59 (.bin .eql 52 (kI 1)), qI 58 (.mov 59)]
def r3_15 : List Ins := [qI 60 (.mov 14), qI 61 (.call (.fn 13) [60, (.k (.int .i64 (-2))), (kI 2)]), qI 62 (.mov 14), qI 63 (.call (.fn 13) [62, (.k (.int .i64 (-2))), (kI 2)]), qI 64 (.faddr 3 15), qN (.store 1 64 61), qI 65 (.faddr 4 15), qN (.store 1 65 63)]
def r3_16 : List Ins := [qI 67 (.bin .eql 52 (kI 2)), qI 66 (.mov 67)]
def r3_17 : List Ins := [qI 68 (.bslice 9 1 []), qI 69 (.faddr 2 15), qI 70 (.load 1 false 69), qI 71 (.app 9 1 16 68 70), qI 72 (.bslice 9 1 [(.k (.string (bs [102, 105, 114, 101]))), (.k (.string (bs [122, 111, 110, 101]))), (.k (.string (bs [105, 110]))), (.k (.string (bs [65])))]), qI 73 (.mov 14), qI 74 (.call (.fn 12) [73, (kI 4)]), qI 75 (.iaddr 1 72 74), qI 76 (.load 1 false 75), qI 77 (.bslice 9 1 [76]), qI 78 (.app 9 1 16 71 77), qI 79 (.faddr 2 15), qN (.store 1 79 78)]
def r3_18 : List Ins := [qI 81 (.bin .eql 52 (kI 3)), qI 80 (.mov 81)]
def r3_19 : List Ins := [qI 82 (.bslice 9 1 [(.k (.string (bs [112, 101, 114, 105, 108]))), (.k (.string (bs [110]))), (.k (.string (bs [116]))), (.k (.string (bs [108, 105, 109, 105, 116]))), (.k (.string (bs [])))]), qI 83 (.mov 14), qI 84 (.call (.fn 12) [83, (kI 5)]), qI 85 (.iaddr 1 82 84), qI 86 (.load 1 false 85), qI 87 (.faddr 0 15), qN (.store 1 87 86)]
def r3_20 : List Ins := [qI 89 (.bin .eql 52 (kI 4)), qI 88 (.mov 89)]
def r3_21 : List Ins := [qI 90 (.faddr 4 15), qI 91 (.load 1 false 90), qI 92 (.bin .add 91 (kI 1000000000)), qI 93 (.faddr 4 15), qN (.store 1 93 92)]
def r3_22 : List Ins := [qI 95 (.bin .eql 52 (kI 5)), qI 94 (.mov 95)]
def r3_23 : List Ins := [qI 96 (.faddr 2 15), qI 97 (.load 1 false 96), qI 98 (.faddr 2 15), qI 99 (.load 1 false 98), qI 100 (.len 99), qI 101 (.min2 100 (kI 1)), qI 102 (.slice 1 97 none (some 101)), qI 103 (.faddr 2 15), qN (.store 1 103 102)]
def r3_24 : List Ins := [qI 105 (.bin .eql 52 (kI 6)), qI 104 (.mov 105)]
def r3_25 : List Ins := [qI 106 (.faddr 4 15), qI 107 (.load 1 false 106), qI 108 (.faddr 3 15), qI 109 (.load 1 false 108), qI 110 (.faddr 3 15), qN (.store 1 110 107), qI 111 (.faddr 4 15), qN (.store 1 111 109)]
def r3_26 : List Ins := [qI 112 (.faddr 0 11), qI 113 (.load 1 false 112), qI 114 (.mov 12), qI 115 (.load 5 true 15), qI 116 (.iaddr 5 113 114), qN (.store 5 116 115)]
def r3_27 : List Ins := [qI 117 (.load 1 true 5), qI 118 (.call (.fn 14) [117]), qI 119 (.load 1 true 5), qI 120 (.call (.fn 15) [119]), qI 121 (.bin .eql 118 120), qI 122 (.mov 121), qT 123 122 (.load 1 true 11), qT 124 122 (.call (.fn 14) [123]), qT 125 122 (.load 1 true 11), qT 126 122 (.call (.fn 15) [125]), qT 127 122 (.bin .eql 124 126), qI 128 (.pick 122 127 (.k (.bool false))), qI 129 (.mov 128), qT 130 129 (.load 1 true 13), qT 131 129 (.call (.fn 14) [130]), qT 132 129 (.load 1 true 13), qT 133 129 (.call (.fn 15) [132]), qT 134 129 (.bin .eql 131 133), qI 135 (.pick 129 134 (.k (.bool false))), qI 136 (.mov 135), qT 137 136 (.call (.fn 8) []), qI 138 (.pick 136 137 (.k (.bool false))), qI 10 (.mov 138)]
def x3 : XC := (.seq (.ops false r3_0) (.seq (.seq (.ops false r3_1) (.cond (.t 19) (.seq (.ops false r3_2) .ret) .skip)) (.seq (.ops false r3_3) (.seq (.ops false r3_4) (.seq (.ops false r3_5) (.seq (.ops false r3_6) (.seq (.ops false r3_7) (.seq (.ops false r3_8) (.seq (.ops false r3_9) (.seq (.ops false r3_10) (.seq (.seq (.ops false r3_11) (.block 0 (.seq (.ops false r3_12) (.cond (.t 53) (.ops false r3_13) (.seq (.ops false r3_14) (.cond (.t 58) (.ops false r3_15) (.seq (.ops false r3_16) (.cond (.t 66) (.ops false r3_17) (.seq (.ops false r3_18) (.cond (.t 80) (.ops false r3_19) (.seq (.ops false r3_20) (.cond (.t 88) (.ops false r3_21) (.seq (.ops false r3_22) (.cond (.t 94) (.ops false r3_23) (.seq (.ops false r3_24) (.cond (.t 104) (.ops false r3_25) .skip)))))))))))))))) (.seq (.ops false r3_26) (.seq (.ops true r3_27) .ret)))))))))))))
theorem F3 : Fn Tryd.prog 3 139 x3.er [.t 10] := ⟨Tryd.f3, hcl, Tryd.func3, by kernel_rfl, by kernel_rfl, by kernel_rfl, by kernel_rfl⟩
noncomputable def m3 (a0 : DS1) (a1 : Int) (a2 : Int) (a3 : DS0) (a4 : List Int) : Option (Bool × Unit) :=
 cond (iLt 20 (lenI a0.1))
 ((m8).bind fun y63 =>
 some (y63.1, ()))
 ((m9 a1).bind fun y64 =>
 cond (fits (List.length ([] : List DS0) + List.length y64.1.1) 64)
 ((m10 a2 (lenI (([] : List DS0) ++ y64.1.1))).bind fun y65 =>
 cond (fits (List.length ([] : List DS0) + List.length (([] : List DS0) ++ y64.1.1)) 64)
 (cond (bnd y65.1 (lenI (([] : List DS0) ++ (([] : List DS0) ++ y64.1.1))))
 (cond (inB (Int.toNat y65.1) (([] : List DS0) ++ (([] : List DS0) ++ y64.1.1)))
 ((m11 a4).bind fun y66 =>
 cond (bnd y65.1 (lenI (([] : List DS0) ++ y64.1.1)))
 (cond (inB (Int.toNat y65.1) (([] : List DS0) ++ y64.1.1))
 ((m12 7 y66.1 y66.2.1).bind fun y67 =>
 cond (iEq y67.1 0)
 ((m12 5 y67.2.1 y67.2.2.1).bind fun y68 =>
 cond (bnd y65.1 (lenI (([] : List DS0) ++ y64.1.1)))
 (cond (inB (Int.toNat y65.1) (([] : List DS0) ++ y64.1.1))
 ((m14 (a0.1, ())).bind fun y69 =>
 (m15 (a0.1, ())).bind fun y100 =>
 cond (iEq y69.1 y100.1)
 ((m14 (List.set (([] : List DS0) ++ y64.1.1) (Int.toNat y65.1) ((List.getD (([] : List DS0) ++ y64.1.1) (Int.toNat y65.1) (ByteArray.empty, 0, [], 0, 0, ())).1, y68.1, (List.getD (([] : List DS0) ++ y64.1.1) (Int.toNat y65.1) (ByteArray.empty, 0, [], 0, 0, ())).2.2.1, (List.getD (([] : List DS0) ++ y64.1.1) (Int.toNat y65.1) (ByteArray.empty, 0, [], 0, 0, ())).2.2.2.1, (List.getD (([] : List DS0) ++ y64.1.1) (Int.toNat y65.1) (ByteArray.empty, 0, [], 0, 0, ())).2.2.2.2.1, ()), ())).bind fun y101 =>
 (m15 (List.set (([] : List DS0) ++ y64.1.1) (Int.toNat y65.1) ((List.getD (([] : List DS0) ++ y64.1.1) (Int.toNat y65.1) (ByteArray.empty, 0, [], 0, 0, ())).1, y68.1, (List.getD (([] : List DS0) ++ y64.1.1) (Int.toNat y65.1) (ByteArray.empty, 0, [], 0, 0, ())).2.2.1, (List.getD (([] : List DS0) ++ y64.1.1) (Int.toNat y65.1) (ByteArray.empty, 0, [], 0, 0, ())).2.2.2.1, (List.getD (([] : List DS0) ++ y64.1.1) (Int.toNat y65.1) (ByteArray.empty, 0, [], 0, 0, ())).2.2.2.2.1, ()), ())).bind fun y102 =>
 cond (iEq y101.1 y102.1)
 ((m14 (List.set (([] : List DS0) ++ (([] : List DS0) ++ y64.1.1)) (Int.toNat y65.1) (a3.1, a3.2.1, a3.2.2.1, a3.2.2.2.1, a3.2.2.2.2.1, ()), ())).bind fun y103 =>
 (m15 (List.set (([] : List DS0) ++ (([] : List DS0) ++ y64.1.1)) (Int.toNat y65.1) (a3.1, a3.2.1, a3.2.2.1, a3.2.2.2.1, a3.2.2.2.2.1, ()), ())).bind fun y104 =>
 cond (iEq y103.1 y104.1)
 ((m8).bind fun y105 =>
 some (y105.1, ()))
 (some (false, ())))
 (some (false, ())))
 (some (false, ()))) none) none)
 (cond (iEq y67.1 1)
 ((m13 (-2) 2 y67.2.1 y67.2.2.1).bind fun y108 =>
 (m13 (-2) 2 y108.2.1 y108.2.2.1).bind fun y109 =>
 cond (bnd y65.1 (lenI (([] : List DS0) ++ y64.1.1)))
 (cond (inB (Int.toNat y65.1) (([] : List DS0) ++ y64.1.1))
 ((m14 (a0.1, ())).bind fun y110 =>
 (m15 (a0.1, ())).bind fun y111 =>
 cond (iEq y110.1 y111.1)
 ((m14 (List.set (([] : List DS0) ++ y64.1.1) (Int.toNat y65.1) ((List.getD (([] : List DS0) ++ y64.1.1) (Int.toNat y65.1) (ByteArray.empty, 0, [], 0, 0, ())).1, (List.getD (([] : List DS0) ++ y64.1.1) (Int.toNat y65.1) (ByteArray.empty, 0, [], 0, 0, ())).2.1, (List.getD (([] : List DS0) ++ y64.1.1) (Int.toNat y65.1) (ByteArray.empty, 0, [], 0, 0, ())).2.2.1, y108.1, y109.1, ()), ())).bind fun y112 =>
 (m15 (List.set (([] : List DS0) ++ y64.1.1) (Int.toNat y65.1) ((List.getD (([] : List DS0) ++ y64.1.1) (Int.toNat y65.1) (ByteArray.empty, 0, [], 0, 0, ())).1, (List.getD (([] : List DS0) ++ y64.1.1) (Int.toNat y65.1) (ByteArray.empty, 0, [], 0, 0, ())).2.1, (List.getD (([] : List DS0) ++ y64.1.1) (Int.toNat y65.1) (ByteArray.empty, 0, [], 0, 0, ())).2.2.1, y108.1, y109.1, ()), ())).bind fun y113 =>
 cond (iEq y112.1 y113.1)
 ((m14 (List.set (([] : List DS0) ++ (([] : List DS0) ++ y64.1.1)) (Int.toNat y65.1) (a3.1, a3.2.1, a3.2.2.1, a3.2.2.2.1, a3.2.2.2.2.1, ()), ())).bind fun y114 =>
 (m15 (List.set (([] : List DS0) ++ (([] : List DS0) ++ y64.1.1)) (Int.toNat y65.1) (a3.1, a3.2.1, a3.2.2.1, a3.2.2.2.1, a3.2.2.2.2.1, ()), ())).bind fun y115 =>
 cond (iEq y114.1 y115.1)
 ((m8).bind fun y116 =>
 some (y116.1, ()))
 (some (false, ())))
 (some (false, ())))
 (some (false, ()))) none) none)
 (cond (iEq y67.1 2)
 (cond (fits (List.length ([] : List ByteArray) + List.length ((List.getD (([] : List DS0) ++ y64.1.1) (Int.toNat y65.1) (ByteArray.empty, 0, [], 0, 0, ())).2.2.1)) 16)
 ((m12 4 y67.2.1 y67.2.2.1).bind fun y117 =>
 cond (bnd y117.1 (lenI ([(bs [102, 105, 114, 101]), (bs [122, 111, 110, 101]), (bs [105, 110]), (bs [65])] : List ByteArray)))
 (cond (inB (Int.toNat y117.1) ([(bs [102, 105, 114, 101]), (bs [122, 111, 110, 101]), (bs [105, 110]), (bs [65])] : List ByteArray))
 (cond (fits (List.length (([] : List ByteArray) ++ ((List.getD (([] : List DS0) ++ y64.1.1) (Int.toNat y65.1) (ByteArray.empty, 0, [], 0, 0, ())).2.2.1)) + List.length ([List.getD ([(bs [102, 105, 114, 101]), (bs [122, 111, 110, 101]), (bs [105, 110]), (bs [65])] : List ByteArray) (Int.toNat y117.1) ByteArray.empty] : List ByteArray)) 16)
 (cond (bnd y65.1 (lenI (([] : List DS0) ++ y64.1.1)))
 (cond (inB (Int.toNat y65.1) (([] : List DS0) ++ y64.1.1))
 ((m14 (a0.1, ())).bind fun y118 =>
 (m15 (a0.1, ())).bind fun y119 =>
 cond (iEq y118.1 y119.1)
 ((m14 (List.set (([] : List DS0) ++ y64.1.1) (Int.toNat y65.1) ((List.getD (([] : List DS0) ++ y64.1.1) (Int.toNat y65.1) (ByteArray.empty, 0, [], 0, 0, ())).1, (List.getD (([] : List DS0) ++ y64.1.1) (Int.toNat y65.1) (ByteArray.empty, 0, [], 0, 0, ())).2.1, (([] : List ByteArray) ++ ((List.getD (([] : List DS0) ++ y64.1.1) (Int.toNat y65.1) (ByteArray.empty, 0, [], 0, 0, ())).2.2.1)) ++ ([List.getD ([(bs [102, 105, 114, 101]), (bs [122, 111, 110, 101]), (bs [105, 110]), (bs [65])] : List ByteArray) (Int.toNat y117.1) ByteArray.empty] : List ByteArray), (List.getD (([] : List DS0) ++ y64.1.1) (Int.toNat y65.1) (ByteArray.empty, 0, [], 0, 0, ())).2.2.2.1, (List.getD (([] : List DS0) ++ y64.1.1) (Int.toNat y65.1) (ByteArray.empty, 0, [], 0, 0, ())).2.2.2.2.1, ()), ())).bind fun y120 =>
 (m15 (List.set (([] : List DS0) ++ y64.1.1) (Int.toNat y65.1) ((List.getD (([] : List DS0) ++ y64.1.1) (Int.toNat y65.1) (ByteArray.empty, 0, [], 0, 0, ())).1, (List.getD (([] : List DS0) ++ y64.1.1) (Int.toNat y65.1) (ByteArray.empty, 0, [], 0, 0, ())).2.1, (([] : List ByteArray) ++ ((List.getD (([] : List DS0) ++ y64.1.1) (Int.toNat y65.1) (ByteArray.empty, 0, [], 0, 0, ())).2.2.1)) ++ ([List.getD ([(bs [102, 105, 114, 101]), (bs [122, 111, 110, 101]), (bs [105, 110]), (bs [65])] : List ByteArray) (Int.toNat y117.1) ByteArray.empty] : List ByteArray), (List.getD (([] : List DS0) ++ y64.1.1) (Int.toNat y65.1) (ByteArray.empty, 0, [], 0, 0, ())).2.2.2.1, (List.getD (([] : List DS0) ++ y64.1.1) (Int.toNat y65.1) (ByteArray.empty, 0, [], 0, 0, ())).2.2.2.2.1, ()), ())).bind fun y121 =>
 cond (iEq y120.1 y121.1)
 ((m14 (List.set (([] : List DS0) ++ (([] : List DS0) ++ y64.1.1)) (Int.toNat y65.1) (a3.1, a3.2.1, a3.2.2.1, a3.2.2.2.1, a3.2.2.2.2.1, ()), ())).bind fun y122 =>
 (m15 (List.set (([] : List DS0) ++ (([] : List DS0) ++ y64.1.1)) (Int.toNat y65.1) (a3.1, a3.2.1, a3.2.2.1, a3.2.2.2.1, a3.2.2.2.2.1, ()), ())).bind fun y123 =>
 cond (iEq y122.1 y123.1)
 ((m8).bind fun y124 =>
 some (y124.1, ()))
 (some (false, ())))
 (some (false, ())))
 (some (false, ()))) none) none) none) none) none) none)
 (cond (iEq y67.1 3)
 ((m12 5 y67.2.1 y67.2.2.1).bind fun y125 =>
 cond (bnd y125.1 (lenI ([(bs [112, 101, 114, 105, 108]), (bs [110]), (bs [116]), (bs [108, 105, 109, 105, 116]), (bs [])] : List ByteArray)))
 (cond (inB (Int.toNat y125.1) ([(bs [112, 101, 114, 105, 108]), (bs [110]), (bs [116]), (bs [108, 105, 109, 105, 116]), (bs [])] : List ByteArray))
 (cond (bnd y65.1 (lenI (([] : List DS0) ++ y64.1.1)))
 (cond (inB (Int.toNat y65.1) (([] : List DS0) ++ y64.1.1))
 ((m14 (a0.1, ())).bind fun y126 =>
 (m15 (a0.1, ())).bind fun y127 =>
 cond (iEq y126.1 y127.1)
 ((m14 (List.set (([] : List DS0) ++ y64.1.1) (Int.toNat y65.1) (List.getD ([(bs [112, 101, 114, 105, 108]), (bs [110]), (bs [116]), (bs [108, 105, 109, 105, 116]), (bs [])] : List ByteArray) (Int.toNat y125.1) ByteArray.empty, (List.getD (([] : List DS0) ++ y64.1.1) (Int.toNat y65.1) (ByteArray.empty, 0, [], 0, 0, ())).2.1, (List.getD (([] : List DS0) ++ y64.1.1) (Int.toNat y65.1) (ByteArray.empty, 0, [], 0, 0, ())).2.2.1, (List.getD (([] : List DS0) ++ y64.1.1) (Int.toNat y65.1) (ByteArray.empty, 0, [], 0, 0, ())).2.2.2.1, (List.getD (([] : List DS0) ++ y64.1.1) (Int.toNat y65.1) (ByteArray.empty, 0, [], 0, 0, ())).2.2.2.2.1, ()), ())).bind fun y128 =>
 (m15 (List.set (([] : List DS0) ++ y64.1.1) (Int.toNat y65.1) (List.getD ([(bs [112, 101, 114, 105, 108]), (bs [110]), (bs [116]), (bs [108, 105, 109, 105, 116]), (bs [])] : List ByteArray) (Int.toNat y125.1) ByteArray.empty, (List.getD (([] : List DS0) ++ y64.1.1) (Int.toNat y65.1) (ByteArray.empty, 0, [], 0, 0, ())).2.1, (List.getD (([] : List DS0) ++ y64.1.1) (Int.toNat y65.1) (ByteArray.empty, 0, [], 0, 0, ())).2.2.1, (List.getD (([] : List DS0) ++ y64.1.1) (Int.toNat y65.1) (ByteArray.empty, 0, [], 0, 0, ())).2.2.2.1, (List.getD (([] : List DS0) ++ y64.1.1) (Int.toNat y65.1) (ByteArray.empty, 0, [], 0, 0, ())).2.2.2.2.1, ()), ())).bind fun y129 =>
 cond (iEq y128.1 y129.1)
 ((m14 (List.set (([] : List DS0) ++ (([] : List DS0) ++ y64.1.1)) (Int.toNat y65.1) (a3.1, a3.2.1, a3.2.2.1, a3.2.2.2.1, a3.2.2.2.2.1, ()), ())).bind fun y130 =>
 (m15 (List.set (([] : List DS0) ++ (([] : List DS0) ++ y64.1.1)) (Int.toNat y65.1) (a3.1, a3.2.1, a3.2.2.1, a3.2.2.2.1, a3.2.2.2.2.1, ()), ())).bind fun y131 =>
 cond (iEq y130.1 y131.1)
 ((m8).bind fun y132 =>
 some (y132.1, ()))
 (some (false, ())))
 (some (false, ())))
 (some (false, ()))) none) none) none) none)
 (cond (iEq y67.1 4)
 (cond (bnd y65.1 (lenI (([] : List DS0) ++ y64.1.1)))
 (cond (inB (Int.toNat y65.1) (([] : List DS0) ++ y64.1.1))
 ((m14 (a0.1, ())).bind fun y133 =>
 (m15 (a0.1, ())).bind fun y134 =>
 cond (iEq y133.1 y134.1)
 ((m14 (List.set (([] : List DS0) ++ y64.1.1) (Int.toNat y65.1) ((List.getD (([] : List DS0) ++ y64.1.1) (Int.toNat y65.1) (ByteArray.empty, 0, [], 0, 0, ())).1, (List.getD (([] : List DS0) ++ y64.1.1) (Int.toNat y65.1) (ByteArray.empty, 0, [], 0, 0, ())).2.1, (List.getD (([] : List DS0) ++ y64.1.1) (Int.toNat y65.1) (ByteArray.empty, 0, [], 0, 0, ())).2.2.1, (List.getD (([] : List DS0) ++ y64.1.1) (Int.toNat y65.1) (ByteArray.empty, 0, [], 0, 0, ())).2.2.2.1, iAdd .i64 ((List.getD (([] : List DS0) ++ y64.1.1) (Int.toNat y65.1) (ByteArray.empty, 0, [], 0, 0, ())).2.2.2.2.1) 1000000000, ()), ())).bind fun y135 =>
 (m15 (List.set (([] : List DS0) ++ y64.1.1) (Int.toNat y65.1) ((List.getD (([] : List DS0) ++ y64.1.1) (Int.toNat y65.1) (ByteArray.empty, 0, [], 0, 0, ())).1, (List.getD (([] : List DS0) ++ y64.1.1) (Int.toNat y65.1) (ByteArray.empty, 0, [], 0, 0, ())).2.1, (List.getD (([] : List DS0) ++ y64.1.1) (Int.toNat y65.1) (ByteArray.empty, 0, [], 0, 0, ())).2.2.1, (List.getD (([] : List DS0) ++ y64.1.1) (Int.toNat y65.1) (ByteArray.empty, 0, [], 0, 0, ())).2.2.2.1, iAdd .i64 ((List.getD (([] : List DS0) ++ y64.1.1) (Int.toNat y65.1) (ByteArray.empty, 0, [], 0, 0, ())).2.2.2.2.1) 1000000000, ()), ())).bind fun y136 =>
 cond (iEq y135.1 y136.1)
 ((m14 (List.set (([] : List DS0) ++ (([] : List DS0) ++ y64.1.1)) (Int.toNat y65.1) (a3.1, a3.2.1, a3.2.2.1, a3.2.2.2.1, a3.2.2.2.2.1, ()), ())).bind fun y137 =>
 (m15 (List.set (([] : List DS0) ++ (([] : List DS0) ++ y64.1.1)) (Int.toNat y65.1) (a3.1, a3.2.1, a3.2.2.1, a3.2.2.2.1, a3.2.2.2.2.1, ()), ())).bind fun y138 =>
 cond (iEq y137.1 y138.1)
 ((m8).bind fun y139 =>
 some (y139.1, ()))
 (some (false, ())))
 (some (false, ())))
 (some (false, ()))) none) none)
 (cond (iEq y67.1 5)
 (cond (cutOk 0 (iMin (lenI ((List.getD (([] : List DS0) ++ y64.1.1) (Int.toNat y65.1) (ByteArray.empty, 0, [], 0, 0, ())).2.2.1)) 1) (List.length ((List.getD (([] : List DS0) ++ y64.1.1) (Int.toNat y65.1) (ByteArray.empty, 0, [], 0, 0, ())).2.2.1)))
 (cond (bnd y65.1 (lenI (([] : List DS0) ++ y64.1.1)))
 (cond (inB (Int.toNat y65.1) (([] : List DS0) ++ y64.1.1))
 ((m14 (a0.1, ())).bind fun y140 =>
 (m15 (a0.1, ())).bind fun y141 =>
 cond (iEq y140.1 y141.1)
 ((m14 (List.set (([] : List DS0) ++ y64.1.1) (Int.toNat y65.1) ((List.getD (([] : List DS0) ++ y64.1.1) (Int.toNat y65.1) (ByteArray.empty, 0, [], 0, 0, ())).1, (List.getD (([] : List DS0) ++ y64.1.1) (Int.toNat y65.1) (ByteArray.empty, 0, [], 0, 0, ())).2.1, cutL 0 (iMin (lenI ((List.getD (([] : List DS0) ++ y64.1.1) (Int.toNat y65.1) (ByteArray.empty, 0, [], 0, 0, ())).2.2.1)) 1) ((List.getD (([] : List DS0) ++ y64.1.1) (Int.toNat y65.1) (ByteArray.empty, 0, [], 0, 0, ())).2.2.1), (List.getD (([] : List DS0) ++ y64.1.1) (Int.toNat y65.1) (ByteArray.empty, 0, [], 0, 0, ())).2.2.2.1, (List.getD (([] : List DS0) ++ y64.1.1) (Int.toNat y65.1) (ByteArray.empty, 0, [], 0, 0, ())).2.2.2.2.1, ()), ())).bind fun y142 =>
 (m15 (List.set (([] : List DS0) ++ y64.1.1) (Int.toNat y65.1) ((List.getD (([] : List DS0) ++ y64.1.1) (Int.toNat y65.1) (ByteArray.empty, 0, [], 0, 0, ())).1, (List.getD (([] : List DS0) ++ y64.1.1) (Int.toNat y65.1) (ByteArray.empty, 0, [], 0, 0, ())).2.1, cutL 0 (iMin (lenI ((List.getD (([] : List DS0) ++ y64.1.1) (Int.toNat y65.1) (ByteArray.empty, 0, [], 0, 0, ())).2.2.1)) 1) ((List.getD (([] : List DS0) ++ y64.1.1) (Int.toNat y65.1) (ByteArray.empty, 0, [], 0, 0, ())).2.2.1), (List.getD (([] : List DS0) ++ y64.1.1) (Int.toNat y65.1) (ByteArray.empty, 0, [], 0, 0, ())).2.2.2.1, (List.getD (([] : List DS0) ++ y64.1.1) (Int.toNat y65.1) (ByteArray.empty, 0, [], 0, 0, ())).2.2.2.2.1, ()), ())).bind fun y143 =>
 cond (iEq y142.1 y143.1)
 ((m14 (List.set (([] : List DS0) ++ (([] : List DS0) ++ y64.1.1)) (Int.toNat y65.1) (a3.1, a3.2.1, a3.2.2.1, a3.2.2.2.1, a3.2.2.2.2.1, ()), ())).bind fun y144 =>
 (m15 (List.set (([] : List DS0) ++ (([] : List DS0) ++ y64.1.1)) (Int.toNat y65.1) (a3.1, a3.2.1, a3.2.2.1, a3.2.2.2.1, a3.2.2.2.2.1, ()), ())).bind fun y145 =>
 cond (iEq y144.1 y145.1)
 ((m8).bind fun y146 =>
 some (y146.1, ()))
 (some (false, ())))
 (some (false, ())))
 (some (false, ()))) none) none) none)
 (cond (iEq y67.1 6)
 (cond (bnd y65.1 (lenI (([] : List DS0) ++ y64.1.1)))
 (cond (inB (Int.toNat y65.1) (([] : List DS0) ++ y64.1.1))
 ((m14 (a0.1, ())).bind fun y147 =>
 (m15 (a0.1, ())).bind fun y148 =>
 cond (iEq y147.1 y148.1)
 ((m14 (List.set (([] : List DS0) ++ y64.1.1) (Int.toNat y65.1) ((List.getD (([] : List DS0) ++ y64.1.1) (Int.toNat y65.1) (ByteArray.empty, 0, [], 0, 0, ())).1, (List.getD (([] : List DS0) ++ y64.1.1) (Int.toNat y65.1) (ByteArray.empty, 0, [], 0, 0, ())).2.1, (List.getD (([] : List DS0) ++ y64.1.1) (Int.toNat y65.1) (ByteArray.empty, 0, [], 0, 0, ())).2.2.1, (List.getD (([] : List DS0) ++ y64.1.1) (Int.toNat y65.1) (ByteArray.empty, 0, [], 0, 0, ())).2.2.2.2.1, (List.getD (([] : List DS0) ++ y64.1.1) (Int.toNat y65.1) (ByteArray.empty, 0, [], 0, 0, ())).2.2.2.1, ()), ())).bind fun y149 =>
 (m15 (List.set (([] : List DS0) ++ y64.1.1) (Int.toNat y65.1) ((List.getD (([] : List DS0) ++ y64.1.1) (Int.toNat y65.1) (ByteArray.empty, 0, [], 0, 0, ())).1, (List.getD (([] : List DS0) ++ y64.1.1) (Int.toNat y65.1) (ByteArray.empty, 0, [], 0, 0, ())).2.1, (List.getD (([] : List DS0) ++ y64.1.1) (Int.toNat y65.1) (ByteArray.empty, 0, [], 0, 0, ())).2.2.1, (List.getD (([] : List DS0) ++ y64.1.1) (Int.toNat y65.1) (ByteArray.empty, 0, [], 0, 0, ())).2.2.2.2.1, (List.getD (([] : List DS0) ++ y64.1.1) (Int.toNat y65.1) (ByteArray.empty, 0, [], 0, 0, ())).2.2.2.1, ()), ())).bind fun y150 =>
 cond (iEq y149.1 y150.1)
 ((m14 (List.set (([] : List DS0) ++ (([] : List DS0) ++ y64.1.1)) (Int.toNat y65.1) (a3.1, a3.2.1, a3.2.2.1, a3.2.2.2.1, a3.2.2.2.2.1, ()), ())).bind fun y151 =>
 (m15 (List.set (([] : List DS0) ++ (([] : List DS0) ++ y64.1.1)) (Int.toNat y65.1) (a3.1, a3.2.1, a3.2.2.1, a3.2.2.2.1, a3.2.2.2.2.1, ()), ())).bind fun y152 =>
 cond (iEq y151.1 y152.1)
 ((m8).bind fun y153 =>
 some (y153.1, ()))
 (some (false, ())))
 (some (false, ())))
 (some (false, ()))) none) none)
 (cond (bnd y65.1 (lenI (([] : List DS0) ++ y64.1.1)))
 (cond (inB (Int.toNat y65.1) (([] : List DS0) ++ y64.1.1))
 ((m14 (a0.1, ())).bind fun y154 =>
 (m15 (a0.1, ())).bind fun y155 =>
 cond (iEq y154.1 y155.1)
 ((m14 (List.set (([] : List DS0) ++ y64.1.1) (Int.toNat y65.1) ((List.getD (([] : List DS0) ++ y64.1.1) (Int.toNat y65.1) (ByteArray.empty, 0, [], 0, 0, ())).1, (List.getD (([] : List DS0) ++ y64.1.1) (Int.toNat y65.1) (ByteArray.empty, 0, [], 0, 0, ())).2.1, (List.getD (([] : List DS0) ++ y64.1.1) (Int.toNat y65.1) (ByteArray.empty, 0, [], 0, 0, ())).2.2.1, (List.getD (([] : List DS0) ++ y64.1.1) (Int.toNat y65.1) (ByteArray.empty, 0, [], 0, 0, ())).2.2.2.1, (List.getD (([] : List DS0) ++ y64.1.1) (Int.toNat y65.1) (ByteArray.empty, 0, [], 0, 0, ())).2.2.2.2.1, ()), ())).bind fun y156 =>
 (m15 (List.set (([] : List DS0) ++ y64.1.1) (Int.toNat y65.1) ((List.getD (([] : List DS0) ++ y64.1.1) (Int.toNat y65.1) (ByteArray.empty, 0, [], 0, 0, ())).1, (List.getD (([] : List DS0) ++ y64.1.1) (Int.toNat y65.1) (ByteArray.empty, 0, [], 0, 0, ())).2.1, (List.getD (([] : List DS0) ++ y64.1.1) (Int.toNat y65.1) (ByteArray.empty, 0, [], 0, 0, ())).2.2.1, (List.getD (([] : List DS0) ++ y64.1.1) (Int.toNat y65.1) (ByteArray.empty, 0, [], 0, 0, ())).2.2.2.1, (List.getD (([] : List DS0) ++ y64.1.1) (Int.toNat y65.1) (ByteArray.empty, 0, [], 0, 0, ())).2.2.2.2.1, ()), ())).bind fun y157 =>
 cond (iEq y156.1 y157.1)
 ((m14 (List.set (([] : List DS0) ++ (([] : List DS0) ++ y64.1.1)) (Int.toNat y65.1) (a3.1, a3.2.1, a3.2.2.1, a3.2.2.2.1, a3.2.2.2.2.1, ()), ())).bind fun y158 =>
 (m15 (List.set (([] : List DS0) ++ (([] : List DS0) ++ y64.1.1)) (Int.toNat y65.1) (a3.1, a3.2.1, a3.2.2.1, a3.2.2.2.1, a3.2.2.2.2.1, ()), ())).bind fun y159 =>
 cond (iEq y158.1 y159.1)
 ((m8).bind fun y160 =>
 some (y160.1, ()))
 (some (false, ())))
 (some (false, ())))
 (some (false, ()))) none) none)))))))) none) none) none) none) none) none)
noncomputable def cfg3 (G : GP) : Cfg := ⟨ttab, (gtab G), [i10, i14, i15, i8, i9], [h11, h12, h13]⟩
theorem eqn3 (G : GP) (x : DS1 × Int × Int × DS0 × (List Int) × Unit) : xfun (cfg3 G) x3 139 [.t 10] [tS1, (.int .i64), (.int .i64), tS0, (.list (.int .i64))] [.bool] x = m3 x.1 x.2.1 x.2.2.1 x.2.2.2.1 x.2.2.2.2.1 := by kernel_rfl
noncomputable def i3 : PI := ⟨3, [tS1, (.int .i64), (.int .i64), tS0, (.list (.int .i64))], [.bool], fun (x : DS1 × Int × Int × DS0 × (List Int) × Unit) => m3 x.1 x.2.1 x.2.2.1 x.2.2.2.1 x.2.2.2.2.1⟩
theorem oki3 {G : GP} : POk Tryd.prog (gx (gtab G)) i3 := pok mixed (cfg_p oki10 (cfg_p oki14 (cfg_p oki15 (cfg_p oki8 (cfg_p oki9 (cfg_h okh11 (cfg_h okh12 (cfg_h okh13 (cfg_nil _ _)))))))) : CfgOk _ (cfg3 G)) F3 (eqn3 G)
/- 31 treaty/treatyref05.Domain -/
def r31_0 : List Ins := [qI 2 (.box 24 1 0), qI 4 (.mov (kI 0)), qI 5 (.mov (kI 0))]
def r31_1 : List Ins := [qI 7 (.load 1 true 2), qI 8 (.call (.fn 15) [7]), qI 9 (.bin .neq 8 (kI 0)), qI 10 (.mov 9), qF 11 10 (.mov 1), qF 12 10 (.bin .lss 11 (kI 0)), qI 13 (.pick 10 (.k (.bool true)) 12), qI 14 (.mov 13), qF 15 14 (.mov 1), qF 16 14 (.faddr 0 2), qF 17 14 (.load 1 false 16), qF 18 14 (.len 17), qF 19 14 (.bin .geq 15 18), qI 20 (.pick 14 (.k (.bool true)) 19)]
def r31_2 : List Ins := [qI 4 (.mov (kI 0)), qI 5 (.mov (.k (.int .i64 (-1))))]
def r31_3 : List Ins := [qI 21 (.faddr 0 2), qI 22 (.load 1 false 21), qI 23 (.mov 1), qI 24 (.iaddr 5 22 23), qI 25 (.load 5 true 24), qI 6 (.alloc 27 (.agg #[.string (bs []), .int .i64 0, .slice none 0 0, .int .i64 0, .int .i64 0])), qN (.store 5 6 25)]
def r31_4 : List Ins := [qI 26 (.faddr 1 6), qI 27 (.load 1 false 26)]
def r31_5 : List Ins := [qI 29 (.bin .eql 27 (kI 1)), qI 28 (.mov 29)]
def r31_6 : List Ins := [qI 30 (.faddr 2 6), qI 31 (.load 1 false 30), qI 32 (.len 31), qI 33 (.bin .sub 32 (kI 1)), qI 4 (.mov (kI 0)), qI 5 (.mov 33)]
def r31_7 : List Ins := [qI 35 (.bin .eql 27 (kI 2)), qI 34 (.mov 35)]
def r31_8 : List Ins := [qI 36 (.faddr 3 6), qI 37 (.load 1 false 36), qI 38 (.faddr 4 6), qI 39 (.load 1 false 38), qI 4 (.mov 37), qI 5 (.mov 39)]
def r31_9 : List Ins := [qI 4 (.mov (kI 0)), qI 5 (.mov (kI 1))]
def x31 : XC := (.seq (.ops false r31_0) (.seq (.seq (.ops false r31_1) (.cond (.t 20) (.seq (.ops false r31_2) .ret) .skip)) (.seq (.ops false r31_3) (.seq (.seq (.ops false r31_4) (.block 0 (.seq (.ops false r31_5) (.cond (.t 28) (.seq (.ops true r31_6) .ret) (.seq (.ops false r31_7) (.cond (.t 34) (.seq (.ops true r31_8) .ret) .skip)))))) (.seq (.ops false r31_9) .ret)))))
theorem F31 : Fn Tryd.prog 31 40 x31.er [.t 4, .t 5] := ⟨Tryd.f31, hcl, Tryd.func31, by kernel_rfl, by kernel_rfl, by kernel_rfl, by kernel_rfl⟩
noncomputable def m31 (a0 : DS1) (a1 : Int) : Option (Int × Int × Unit) :=
 (m15 (a0.1, ())).bind fun y165 =>
 cond (cond (cond (iNe y165.1 0) true (iLt a1 0)) true (iLe (lenI a0.1) a1))
 (some (0, (-1), ()))
 (cond (bnd a1 (lenI a0.1))
 (cond (iEq ((atI a0.1 a1 (ByteArray.empty, 0, [], 0, 0, ())).2.1) 1)
 (some (0, iSub .i64 (lenI ((atI a0.1 a1 (ByteArray.empty, 0, [], 0, 0, ())).2.2.1)) 1, ()))
 (cond (iEq ((atI a0.1 a1 (ByteArray.empty, 0, [], 0, 0, ())).2.1) 2)
 (some ((atI a0.1 a1 (ByteArray.empty, 0, [], 0, 0, ())).2.2.2.1, (atI a0.1 a1 (ByteArray.empty, 0, [], 0, 0, ())).2.2.2.2.1, ()))
 (some (0, 1, ())))) none)
noncomputable def cfg31 (G : GP) : Cfg := ⟨ttab, (gtab G), [i15], []⟩
theorem eqn31 (G : GP) (x : DS1 × Int × Unit) : xfun (cfg31 G) x31 40 [.t 4, .t 5] [tS1, (.int .i64)] [(.int .i64), (.int .i64)] x = m31 x.1 x.2.1 := by kernel_rfl
noncomputable def i31 : PI := ⟨31, [tS1, (.int .i64)], [(.int .i64), (.int .i64)], fun (x : DS1 × Int × Unit) => m31 x.1 x.2.1⟩
theorem oki31 {G : GP} : POk Tryd.prog (gx (gtab G)) i31 := pok mixed (cfg_p oki15 (cfg_nil _ _) : CfgOk _ (cfg31 G)) F31 (eqn31 G)
/- 16 (*treaty/treatymade.Deck).Facts -/
def r16_0 : List Ins := [qI 3 (.box 24 1 1), qI 4 (.mov kN)]
def r16_1 : List Ins := [qI 5 (.mov kN)]
def r16_2 : List Ins := [qI 6 (.mov (kI 0))]
def r16_3 : List Ins := [qI 10 (.mov 6), qI 11 (.faddr 0 3), qI 12 (.load 1 false 11), qI 13 (.len 12), qI 14 (.bin .lss 10 13)]
def r16_4 : List Ins := [qI 18 (.load 1 true 3), qI 19 (.mov 6), qI 20 (.call (.fn 31) [18, 19]), qI 17 (.mov 20), qI 21 (.ext 0 17), qI 22 (.ext 1 17), qI 7 (.mov 21), qI 8 (.mov 22)]
def r16_5 : List Ins := [qI 23 (.mov 7), qI 24 (.mov 0), qI 25 (.mov 8), qI 26 (.mov 7), qI 27 (.bin .sub 25 26), qI 28 (.bin .add 27 (kI 1)), qI 29 (.call (.fn 12) [24, 28]), qI 30 (.bin .add 23 29), qI 9 (.mov 30)]
def r16_6 : List Ins := [qI 31 (.mov 0), qI 32 (.call (.fn 12) [31, (kI 5)])]
def r16_7 : List Ins := [qI 34 (.bin .eql 32 (kI 0)), qI 33 (.mov 34)]
def r16_8 : List Ins := [qI 35 (.mov 7), qI 9 (.mov 35)]
def r16_9 : List Ins := [qI 37 (.bin .eql 32 (kI 1)), qI 36 (.mov 37)]
def r16_10 : List Ins := [qI 38 (.mov 8), qI 9 (.mov 38)]
def r16_11 : List Ins := [qI 40 (.bin .eql 32 (kI 2)), qI 39 (.mov 40)]
def r16_12 : List Ins := [qI 41 (.mov 0), qI 42 (.call (.fn 12) [41, (kI 12)]), qI 43 (.bin .sub 42 (kI 4)), qI 44 (.mov 7), qI 45 (.max2 43 44), qI 46 (.mov 8), qI 47 (.min2 45 46), qI 9 (.mov 47)]
def r16_13 : List Ins := [qI 48 (.mov 5), qI 49 (.mov 9), qI 50 (.bslice 3 1 [49]), qI 51 (.app 3 1 8 48 50), qI 5 (.mov 51)]
def r16_14 : List Ins := [qI 15 (.mov 6), qI 16 (.bin .add 15 (kI 1)), qI 6 (.mov 16)]
def r16_15 : List Ins := [qI 52 (.mov 5), qI 4 (.mov 52)]
def x16 : XC := (.seq (.ops false r16_0) (.seq (.ops false r16_1) (.seq (.seq (.ops false r16_2) (.block 0 (.loop [.gh 5 3 (.int .i64)] ⟨53, [(6, (.int .i64))], [(0, .ptr 0 0 0), (3, .ptr 1 0 0), (5, .row 2)], [.box 52 [.d (.list (.int .i64)), .d (.int .i64)], .box 24 [.d (.list tS0)], .row 3 (.int .i64) false]⟩ (.seq (.seq (.ops false r16_3) (.cond (.t 14) .skip (.exit 0))) (.seq (.block 1 (.seq (.ops false r16_4) (.seq (.ops false r16_5) (.seq (.seq (.ops false r16_6) (.block 2 (.seq (.ops false r16_7) (.cond (.t 33) (.ops false r16_8) (.seq (.ops false r16_9) (.cond (.t 36) (.ops false r16_10) (.seq (.ops false r16_11) (.cond (.t 39) (.ops false r16_12) .skip)))))))) (.ops false r16_13))))) (.ops false r16_14)))))) (.seq (.ops false r16_15) .ret))))
theorem F16 : Fn Tryd.prog 16 53 x16.er [.t 4] := ⟨Tryd.f16, hcl, Tryd.func16, by kernel_rfl, by kernel_rfl, by kernel_rfl, by kernel_rfl⟩
noncomputable def m16 (a0 : DS1) (a1 : List Int) (a2 : Int) : Option ((List Int) × Int × (List Int) × Unit) :=
 loopO (S := Int × (List Int) × Int × (List DS0) × (List Int) × Unit) (R := (List Int) × Int × (List Int) × Unit) (fun s175 =>
 cond (iLt s175.1 (lenI s175.2.2.2.1))
 ((m31 (s175.2.2.2.1, ()) s175.1).bind fun y176 =>
 (m12 (iAdd .i64 (iSub .i64 y176.2.1 y176.1) 1) s175.2.1 s175.2.2.1).bind fun y177 =>
 (m12 5 y177.2.1 y177.2.2.1).bind fun y178 =>
 cond (iEq y178.1 0)
 (cond (fits (List.length s175.2.2.2.2.1 + List.length ([y176.1] : List Int)) 8)
 (some (.inl (iAdd .i64 s175.1 1, y178.2.1, y178.2.2.1, s175.2.2.2.1, s175.2.2.2.2.1 ++ ([y176.1] : List Int), ()))) none)
 (cond (iEq y178.1 1)
 (cond (fits (List.length s175.2.2.2.2.1 + List.length ([y176.2.1] : List Int)) 8)
 (some (.inl (iAdd .i64 s175.1 1, y178.2.1, y178.2.2.1, s175.2.2.2.1, s175.2.2.2.2.1 ++ ([y176.2.1] : List Int), ()))) none)
 (cond (iEq y178.1 2)
 ((m12 12 y178.2.1 y178.2.2.1).bind fun y179 =>
 cond (fits (List.length s175.2.2.2.2.1 + List.length ([iMin (iMax (iSub .i64 y179.1 4) y176.1) y176.2.1] : List Int)) 8)
 (some (.inl (iAdd .i64 s175.1 1, y179.2.1, y179.2.2.1, s175.2.2.2.1, s175.2.2.2.2.1 ++ ([iMin (iMax (iSub .i64 y179.1 4) y176.1) y176.2.1] : List Int), ()))) none)
 (cond (fits (List.length s175.2.2.2.2.1 + List.length ([iAdd .i64 y176.1 y177.1] : List Int)) 8)
 (some (.inl (iAdd .i64 s175.1 1, y178.2.1, y178.2.2.1, s175.2.2.2.1, s175.2.2.2.2.1 ++ ([iAdd .i64 y176.1 y177.1] : List Int), ()))) none))))
 (some (.inr (s175.2.1, s175.2.2.1, s175.2.2.2.2.1, ()))))
 (0, a1, a2, a0.1, ([] : List Int), ())
noncomputable def cfg16 (G : GP) : Cfg := ⟨ttab, (gtab G), [i31], [h12]⟩
def ish16 : Sh := ⟨2, [(1, tS1)], [(0, .ptr 0 0 0)], [.box 52 [.d (.list (.int .i64)), .d (.int .i64)]]⟩
def osh16 : Sh := ⟨1, [], [(0, .row 1)], [.box 52 [.d (.list (.int .i64)), .d (.int .i64)], .row 3 (.int .i64) false]⟩
theorem eqn16 (G : GP) (x : DS1 × (List Int) × Int × Unit) : xfunH (cfg16 G) x16 53 [.t 4] [.gh 4 3 (.int .i64)] ish16 osh16 x = m16 x.1 x.2.1 x.2.2.1 := by kernel_rfl
noncomputable def h16 : HI := ⟨16, ish16, osh16, fun (x : DS1 × (List Int) × Int × Unit) => m16 x.1 x.2.1 x.2.2.1⟩
theorem okh16 {G : GP} : HOk Tryd.prog (gx (gtab G)) h16 := hok mixed (cfg_p oki31 (cfg_h okh12 (cfg_nil _ _)) : CfgOk _ (cfg16 G)) F16 (eqn16 G)
/- 18 treaty/treatyref05.Facts -/
def r18_0 : List Ins := [qI 2 (.box 24 1 0), qI 4 (.mov (.k (.bool false)))]
def r18_1 : List Ins := [qI 8 (.load 1 true 2), qI 9 (.call (.fn 15) [8]), qI 10 (.bin .neq 9 (kI 0)), qI 11 (.mov 10), qF 12 11 (.mov 1), qF 13 11 (.len 12), qF 14 11 (.faddr 0 2), qF 15 11 (.load 1 false 14), qF 16 11 (.len 15), qF 17 11 (.bin .neq 13 16), qI 18 (.pick 11 (.k (.bool true)) 17)]
def r18_2 : List Ins := [qI 4 (.mov (.k (.bool false)))]
def r18_3 : List Ins := [qI 5 (.mov (kI 0))]
def r18_4 : List Ins := [qI 19 (.mov 5), qI 20 (.mov 1), qI 21 (.len 20), qI 22 (.bin .lss 19 21)]
def r18_5 : List Ins := [qI 26 (.load 1 true 2), qI 27 (.mov 5), qI 28 (.call (.fn 31) [26, 27]), qI 25 (.mov 28), qI 29 (.ext 0 25), qI 30 (.ext 1 25), qI 6 (.mov 29), qI 7 (.mov 30)]
def r18_6 : List Ins := [qI 31 (.mov 1), qI 32 (.mov 5), qI 33 (.iaddr 1 31 32), qI 34 (.load 1 false 33), qI 35 (.mov 6), qI 36 (.bin .lss 34 35), qI 37 (.mov 36), qF 38 37 (.mov 1), qF 39 37 (.mov 5), qF 40 37 (.iaddr 1 38 39), qF 41 37 (.load 1 false 40), qF 42 37 (.mov 7), qF 43 37 (.bin .gtr 41 42), qI 44 (.pick 37 (.k (.bool true)) 43)]
def r18_7 : List Ins := [qI 4 (.mov (.k (.bool false)))]
def r18_8 : List Ins := [qI 23 (.mov 5), qI 24 (.bin .add 23 (kI 1)), qI 5 (.mov 24)]
def r18_9 : List Ins := [qI 4 (.mov (.k (.bool true)))]
def x18 : XC := (.seq (.ops false r18_0) (.seq (.seq (.ops false r18_1) (.cond (.t 18) (.seq (.ops false r18_2) .ret) .skip)) (.seq (.seq (.ops false r18_3) (.block 0 (.loop [] ⟨45, [(1, (.list (.int .i64))), (5, (.int .i64))], [(2, .ptr 0 0 0)], [.box 24 [.d (.list tS0)]]⟩ (.seq (.seq (.ops false r18_4) (.cond (.t 22) .skip (.exit 0))) (.seq (.block 1 (.seq (.ops false r18_5) (.seq (.ops false r18_6) (.cond (.t 44) (.seq (.ops false r18_7) .ret) .skip)))) (.ops false r18_8)))))) (.seq (.ops false r18_9) .ret))))
theorem F18 : Fn Tryd.prog 18 45 x18.er [.t 4] := ⟨Tryd.f18, hcl, Tryd.func18, by kernel_rfl, by kernel_rfl, by kernel_rfl, by kernel_rfl⟩
noncomputable def m18 (a0 : DS1) (a1 : List Int) : Option (Bool × Unit) :=
 (m15 (a0.1, ())).bind fun y186 =>
 cond (cond (iNe y186.1 0) true (iNe (lenI a1) (lenI a0.1)))
 (some (false, ()))
 (loopO (S := (List Int) × Int × (List DS0) × Unit) (R := Bool × Unit) (fun s187 =>
 cond (iLt s187.2.1 (lenI s187.1))
 ((m31 (s187.2.2.1, ()) s187.2.1).bind fun y188 =>
 cond (bnd s187.2.1 (lenI s187.1))
 (cond (or (bnd s187.2.1 (lenI s187.1)) (not (bEq (iLt (atI s187.1 s187.2.1 0) y188.1) false)))
 (cond (cond (iLt (atI s187.1 s187.2.1 0) y188.1) true (iLt y188.2.1 (atI s187.1 s187.2.1 0)))
 (some (.inr (false, ())))
 (some (.inl (s187.1, iAdd .i64 s187.2.1 1, s187.2.2.1, ())))) none) none)
 (some (.inr (true, ()))))
 (a1, 0, a0.1, ()))
noncomputable def cfg18 (G : GP) : Cfg := ⟨ttab, (gtab G), [i15, i31], []⟩
theorem eqn18 (G : GP) (x : DS1 × (List Int) × Unit) : xfun (cfg18 G) x18 45 [.t 4] [tS1, (.list (.int .i64))] [.bool] x = m18 x.1 x.2.1 := by kernel_rfl
noncomputable def i18 : PI := ⟨18, [tS1, (.list (.int .i64))], [.bool], fun (x : DS1 × (List Int) × Unit) => m18 x.1 x.2.1⟩
theorem oki18 {G : GP} : POk Tryd.prog (gx (gtab G)) i18 := pok mixed (cfg_p oki15 (cfg_p oki31 (cfg_nil _ _)) : CfgOk _ (cfg18 G)) F18 (eqn18 G)
/- 4 treaty/treatylaw06.SchemaFacts -/
def r4_0 : List Ins := [qI 6 (.box 24 1 0), qI 12 (.mov (.k (.bool false)))]
def r4_1 : List Ins := [qI 17 (.faddr 0 6), qI 18 (.load 1 false 17), qI 19 (.len 18), qI 20 (.bin .gtr 19 (kI 20)), qI 21 (.mov 20), qF 22 21 (.mov 1), qF 23 21 (.len 22), qF 24 21 (.bin .gtr 23 (kI 50)), qI 25 (.pick 21 (.k (.bool true)) 24)]
def r4_2 : List Ins := [qI 26 (.call (.fn 8) []), qI 12 (.mov 26)]
def r4_3 : List Ins := [qI 27 (.mov 2), qI 28 (.call (.fn 9) [27]), qI 13 (.alloc 24 (.agg #[.slice none 0 0])), qN (.store 1 13 28)]
def r4_4 : List (Nat × Ins) := [(0, qI 29 (.mov 3)),
(2, qI 30 (.call (.fn 11) [29])),
(1, qI 31 (.load 1 true 13)),
(2, qI 32 (.call (.fn 16) [30, 31])),
(0, qI 14 (.mov 32))]
def r4_5 : List Ins := [qI 33 (.load 1 true 13), qI 34 (.mov 14), qI 35 (.call (.fn 17) [33, 34]), qI 36 (.un .not 35), qI 37 (.mov 36), qF 38 37 (.load 1 true 6), qF 39 37 (.mov 1), qF 40 37 (.call (.fn 17) [38, 39]), qF 41 37 (.load 1 true 6), qF 42 37 (.mov 1), qF 43 37 (.call (.fn 18) [41, 42]), qF 44 37 (.beq true 40 43), qI 45 (.pick 37 (.k (.bool true)) 44)]
def r4_6 : List Ins := [qI 12 (.mov (.k (.bool false)))]
def r4_7 : List Ins := [qI 46 (.bslice 3 1 []), qI 47 (.mov 14), qI 48 (.app 3 1 8 46 47), qI 15 (.mov 48)]
def r4_8 : List Ins := [qI 49 (.mov 15), qI 50 (.mov 4), qI 51 (.mov 15), qI 52 (.len 51), qI 53 (.call (.fn 10) [50, 52]), qI 54 (.mov 5), qI 55 (.iaddr 1 49 53), qN (.store 1 55 54)]
def r4_9 : List Ins := [qI 56 (.bslice 3 1 []), qI 57 (.mov 14), qI 58 (.app 3 1 8 56 57), qI 59 (.bslice 3 1 [(kI 0)]), qI 60 (.app 3 1 8 58 59), qI 16 (.mov 60)]
def r4_10 : List Ins := [qI 61 (.load 1 true 13), qI 62 (.mov 15), qI 63 (.call (.fn 17) [61, 62]), qI 64 (.load 1 true 13), qI 65 (.mov 15), qI 66 (.call (.fn 18) [64, 65]), qI 67 (.beq false 63 66), qI 68 (.mov 67), qT 69 68 (.load 1 true 13), qT 70 68 (.mov 16), qT 71 68 (.call (.fn 17) [69, 70]), qT 72 68 (.un .not 71), qI 73 (.pick 68 72 (.k (.bool false))), qI 74 (.mov 73), qT 75 74 (.load 1 true 13), qT 76 74 (.mov 14), qT 77 74 (.mov 14), qT 78 74 (.len 77), qT 79 74 (.bin .sub 78 (kI 1)), qT 80 74 (.slice 1 76 none (some 79)), qT 81 74 (.call (.fn 17) [75, 80]), qT 82 74 (.un .not 81), qI 83 (.pick 74 82 (.k (.bool false))), qI 84 (.mov 83), qT 85 84 (.call (.fn 8) []), qI 86 (.pick 84 85 (.k (.bool false))), qI 12 (.mov 86)]
def x4 : XC := (.seq (.ops false r4_0) (.seq (.seq (.ops false r4_1) (.cond (.t 25) (.seq (.ops false r4_2) .ret) .skip)) (.seq (.ops false r4_3) (.seq (.rops [] r4_4) (.seq (.seq (.ops true r4_5) (.cond (.t 45) (.seq (.ops false r4_6) .ret) .skip)) (.seq (.ops false r4_7) (.seq (.ops false r4_8) (.seq (.ops false r4_9) (.seq (.ops true r4_10) .ret)))))))))
theorem F4 : Fn Tryd.prog 4 87 x4.er [.t 12] := ⟨Tryd.f4, hcl, Tryd.func4, by kernel_rfl, by kernel_rfl, by kernel_rfl, by kernel_rfl⟩
noncomputable def m4 (a0 : DS1) (a1 : List Int) (a2 : Int) (a3 : List Int) (a4 : Int) (a5 : Int) : Option (Bool × Unit) :=
 cond (cond (iLt 20 (lenI a0.1)) true (iLt 50 (lenI a1)))
 ((m8).bind fun y161 =>
 some (y161.1, ()))
 ((m9 a2).bind fun y162 =>
 (m11 a3).bind fun y163 =>
 (m16 (y162.1.1, ()) y163.1 y163.2.1).bind fun y180 =>
 (m17 (y162.1.1, ()) y180.2.2.1).bind fun y181 =>
 cond (not y181.1)
 (some (false, ()))
 ((m17 (a0.1, ()) a1).bind fun y182 =>
 (m18 (a0.1, ()) a1).bind fun y189 =>
 cond (not (bEq y182.1 y189.1))
 (some (false, ()))
 (cond (fits (List.length ([] : List Int) + List.length y180.2.2.1) 8)
 ((m10 a4 (lenI (([] : List Int) ++ y180.2.2.1))).bind fun y190 =>
 cond (bnd y190.1 (lenI (([] : List Int) ++ y180.2.2.1)))
 (cond (inB (Int.toNat y190.1) (([] : List Int) ++ y180.2.2.1))
 (cond (fits (List.length ([] : List Int) + List.length y180.2.2.1) 8)
 (cond (fits (List.length (([] : List Int) ++ y180.2.2.1) + List.length ([0] : List Int)) 8)
 ((m17 (y162.1.1, ()) (List.set (([] : List Int) ++ y180.2.2.1) (Int.toNat y190.1) a5)).bind fun y191 =>
 (m18 (y162.1.1, ()) (List.set (([] : List Int) ++ y180.2.2.1) (Int.toNat y190.1) a5)).bind fun y192 =>
 cond (bEq y191.1 y192.1)
 ((m17 (y162.1.1, ()) ((([] : List Int) ++ y180.2.2.1) ++ ([0] : List Int))).bind fun y193 =>
 cond (or (cutOk 0 (iSub .i64 (lenI y180.2.2.1) 1) (List.length y180.2.2.1)) (not (bEq (not y193.1) true)))
 (cond (not y193.1)
 ((m17 (y162.1.1, ()) (List.take (Int.toNat ((iSub .i64 (lenI y180.2.2.1) 1) - 0)) (List.drop 0 y180.2.2.1))).bind fun y194 =>
 cond (not y194.1)
 ((m8).bind fun y195 =>
 some (y195.1, ()))
 (some (false, ())))
 (some (false, ()))) none)
 (cond (or (cutOk 0 (iSub .i64 (lenI y180.2.2.1) 1) (List.length y180.2.2.1)) (not (bEq false true)))
 (some (false, ())) none)) none) none) none) none) none)))
noncomputable def cfg4 (G : GP) : Cfg := ⟨ttab, (gtab G), [i10, i17, i18, i8, i9], [h11, h16]⟩
theorem eqn4 (G : GP) (x : DS1 × (List Int) × Int × (List Int) × Int × Int × Unit) : xfun (cfg4 G) x4 87 [.t 12] [tS1, (.list (.int .i64)), (.int .i64), (.list (.int .i64)), (.int .i64), (.int .i64)] [.bool] x = m4 x.1 x.2.1 x.2.2.1 x.2.2.2.1 x.2.2.2.2.1 x.2.2.2.2.2.1 := by kernel_rfl
noncomputable def i4 : PI := ⟨4, [tS1, (.list (.int .i64)), (.int .i64), (.list (.int .i64)), (.int .i64), (.int .i64)], [.bool], fun (x : DS1 × (List Int) × Int × (List Int) × Int × Int × Unit) => m4 x.1 x.2.1 x.2.2.1 x.2.2.2.1 x.2.2.2.2.1 x.2.2.2.2.2.1⟩
theorem oki4 {G : GP} : POk Tryd.prog (gx (gtab G)) i4 := pok mixed (cfg_p oki10 (cfg_p oki17 (cfg_p oki18 (cfg_p oki8 (cfg_p oki9 (cfg_h okh11 (cfg_h okh16 (cfg_nil _ _))))))) : CfgOk _ (cfg4 G)) F4 (eqn4 G)
/- 52 treaty/treatyref01.digits -/
def r52_0 : List Ins := [qI 4 (.mov (.k (.string (bs []))))]
def r52_1 : List Ins := [qI 5 (.mov (.k (.string (bs []))))]
def r52_2 : List Ins := [qI 6 (.mov 0), qI 7 (.bin .gtr 6 (kI 0)), qI 8 (.mov 7), qF 9 8 (.mov 5), qF 10 8 (.slen 9), qF 11 8 (.mov 1), qF 12 8 (.bin .lss 10 11), qI 13 (.pick 8 (.k (.bool true)) 12)]
def r52_3 : List Ins := [qI 14 (.mov 0), qI 15 (.bin .rem 14 (kI 10)), qI 16 (.bin .add (kI 48) 15), qI 17 (.conv .u8 16), qI 18 (.bslice 5 1 [17]), qI 19 (.b2s 18), qI 20 (.mov 5), qI 21 (.bin .add 19 20), qI 5 (.mov 21)]
def r52_4 : List Ins := [qI 22 (.mov 0), qI 23 (.bin .quo 22 (kI 10)), qI 0 (.mov 23)]
def r52_5 : List Ins := [qI 24 (.mov 5), qI 4 (.mov 24)]
def x52 : XC := (.seq (.ops false r52_0) (.seq (.ops false r52_1) (.seq (.block 0 (.loop [] ⟨25, [(0, (.int .i64)), (1, (.int .i64)), (5, .str)], [], []⟩ (.seq (.seq (.ops false r52_2) (.cond (.t 13) .skip (.exit 0))) (.block 1 (.seq (.ops false r52_3) (.ops false r52_4)))))) (.seq (.ops false r52_5) .ret))))
theorem F52 : Fn Tryd.prog 52 25 x52.er [.t 4] := ⟨Tryd.f52, hcl, Tryd.func52, by kernel_rfl, by kernel_rfl, by kernel_rfl, by kernel_rfl⟩
noncomputable def m52 (a0 : Int) (a1 : Int) : Option (ByteArray × Unit) :=
 loopO (S := Int × Int × ByteArray × Unit) (R := ByteArray × Unit) (fun s202 =>
 cond (cond (iLt 0 s202.1) true (iLt (sLen s202.2.2.1) s202.2.1))
 (cond (iNe 10 0)
 (cond (sFits (bsI ([IntKind.wrap .u8 (iAdd .i64 48 (iRem s202.1 10))] : List Int)) s202.2.2.1)
 (cond (iNe 10 0)
 (some (.inl (iQuo .i64 s202.1 10, s202.2.1, sCat (bsI ([IntKind.wrap .u8 (iAdd .i64 48 (iRem s202.1 10))] : List Int)) s202.2.2.1, ()))) none) none) none)
 (some (.inr (s202.2.2.1, ()))))
 (a0, a1, (bs []), ())
noncomputable def cfg52 (G : GP) : Cfg := ⟨ttab, (gtab G), [], []⟩
theorem eqn52 (G : GP) (x : Int × Int × Unit) : xfun (cfg52 G) x52 25 [.t 4] [(.int .i64), (.int .i64)] [.str] x = m52 x.1 x.2.1 := by kernel_rfl
noncomputable def i52 : PI := ⟨52, [(.int .i64), (.int .i64)], [.str], fun (x : Int × Int × Unit) => m52 x.1 x.2.1⟩
theorem oki52 {G : GP} : POk Tryd.prog (gx (gtab G)) i52 := pok mixed (cfg_nil _ _ : CfgOk _ (cfg52 G)) F52 (eqn52 G)
/- 35 treaty/treatyref01.Decimal -/
def r35_0 : List Ins := [qI 2 (.mov (.k (.string (bs []))))]
def r35_1 : List Ins := [qI 3 (.mov 0), qI 4 (.bin .lss 3 (kI 0))]
def r35_2 : List Ins := [qI 5 (.mov 0), qI 6 (.un .neg 5), qI 7 (.call (.fn 52) [6, (kI 1)]), qI 8 (.bin .add (.k (.string (bs [45]))) 7), qI 2 (.mov 8)]
def r35_3 : List Ins := [qI 9 (.mov 0), qI 10 (.call (.fn 52) [9, (kI 1)]), qI 2 (.mov 10)]
def x35 : XC := (.seq (.ops false r35_0) (.seq (.seq (.ops false r35_1) (.cond (.t 4) (.seq (.ops false r35_2) .ret) .skip)) (.seq (.ops false r35_3) .ret)))
theorem F35 : Fn Tryd.prog 35 11 x35.er [.t 2] := ⟨Tryd.f35, hcl, Tryd.func35, by kernel_rfl, by kernel_rfl, by kernel_rfl, by kernel_rfl⟩
noncomputable def m35 (a0 : Int) : Option (ByteArray × Unit) :=
 cond (iLt a0 0)
 ((m52 (iNeg .i64 a0) 1).bind fun y203 =>
 cond (sFits (bs [45]) y203.1)
 (some (sCat (bs [45]) y203.1, ())) none)
 ((m52 a0 1).bind fun y204 =>
 some (y204.1, ()))
noncomputable def cfg35 (G : GP) : Cfg := ⟨ttab, (gtab G), [i52], []⟩
theorem eqn35 (G : GP) (x : Int × Unit) : xfun (cfg35 G) x35 11 [.t 2] [(.int .i64)] [.str] x = m35 x.1 := by kernel_rfl
noncomputable def i35 : PI := ⟨35, [(.int .i64)], [.str], fun (x : Int × Unit) => m35 x.1⟩
theorem oki35 {G : GP} : POk Tryd.prog (gx (gtab G)) i35 := pok mixed (cfg_p oki52 (cfg_nil _ _) : CfgOk _ (cfg35 G)) F35 (eqn35 G)
/- 20 treaty/treatyref05.FormatFacts -/
def r20_0 : List Ins := [qI 2 (.box 24 1 0), qI 4 (.mov (.k (.string (bs [])))), qI 5 (.mov (kI 0))]
def r20_1 : List Ins := [qI 10 (.load 1 true 2), qI 11 (.call (.fn 15) [10]), qI 6 (.mov 11)]
def r20_2 : List Ins := [qI 12 (.mov 6), qI 13 (.bin .neq 12 (kI 0))]
def r20_3 : List Ins := [qI 14 (.mov 6), qI 4 (.mov (.k (.string (bs [])))), qI 5 (.mov 14)]
def r20_4 : List Ins := [qI 15 (.load 1 true 2), qI 16 (.mov 1), qI 17 (.call (.fn 18) [15, 16]), qI 18 (.un .not 17)]
def r20_5 : List Ins := [qI 4 (.mov (.k (.string (bs [])))), qI 5 (.mov (kI 16))]
def r20_6 : List Ins := [qI 7 (.mov (.k (.string (bs []))))]
def r20_7 : List Ins := [qI 8 (.mov (kI 0))]
def r20_8 : List Ins := [qI 19 (.mov 8), qI 20 (.mov 1), qI 21 (.len 20), qI 22 (.bin .lss 19 21)]
def r20_9 : List Ins := [qI 25 (.faddr 0 2), qI 26 (.load 1 false 25), qI 27 (.mov 8), qI 28 (.iaddr 5 26 27), qI 29 (.load 5 true 28), qI 9 (.alloc 27 (.agg #[.string (bs []), .int .i64 0, .slice none 0 0, .int .i64 0, .int .i64 0])), qN (.store 5 9 29)]
def r20_10 : List Ins := [qI 30 (.mov 8), qI 31 (.bin .gtr 30 (kI 0))]
def r20_11 : List Ins := [qI 32 (.mov 7), qI 33 (.bin .add 32 (.k (.string (bs [59, 32])))), qI 7 (.mov 33)]
def r20_12 : List Ins := [qI 34 (.mov 7), qI 35 (.faddr 0 9), qI 36 (.load 1 false 35), qI 37 (.bin .add 34 36), qI 38 (.bin .add 37 (.k (.string (bs [61])))), qI 7 (.mov 38)]
def r20_13 : List Ins := [qI 42 (.faddr 1 9), qI 43 (.load 1 false 42), qI 44 (.bin .eql 43 (kI 1)), qI 41 (.mov 44)]
def r20_14 : List Ins := [qI 45 (.mov 7), qI 46 (.faddr 2 9), qI 47 (.load 1 false 46), qI 48 (.mov 1), qI 49 (.mov 8), qI 50 (.iaddr 1 48 49), qI 51 (.load 1 false 50), qI 52 (.iaddr 1 47 51), qI 53 (.load 1 false 52), qI 54 (.bin .add 45 53), qI 7 (.mov 54)]
def r20_15 : List Ins := [qI 56 (.faddr 1 9), qI 57 (.load 1 false 56), qI 58 (.bin .eql 57 (kI 2)), qI 55 (.mov 58)]
def r20_16 : List Ins := [qI 59 (.mov 7), qI 60 (.mov 1), qI 61 (.mov 8), qI 62 (.iaddr 1 60 61), qI 63 (.load 1 false 62), qI 64 (.call (.fn 35) [63]), qI 65 (.bin .add 59 64), qI 7 (.mov 65)]
def r20_17 : List Ins := [qI 67 (.mov 1), qI 68 (.mov 8), qI 69 (.iaddr 1 67 68), qI 70 (.load 1 false 69), qI 71 (.bin .eql 70 (kI 1)), qI 66 (.mov 71)]
def r20_18 : List Ins := [qI 72 (.mov 7), qI 73 (.bin .add 72 (.k (.string (bs [121, 101, 115])))), qI 7 (.mov 73)]
def r20_19 : List Ins := [qI 39 (.mov 7), qI 40 (.bin .add 39 (.k (.string (bs [110, 111])))), qI 7 (.mov 40)]
def r20_20 : List Ins := [qI 23 (.mov 8), qI 24 (.bin .add 23 (kI 1)), qI 8 (.mov 24)]
def r20_21 : List Ins := [qI 74 (.mov 7), qI 4 (.mov 74), qI 5 (.mov (kI 0))]
def x20 : XC := (.seq (.ops false r20_0) (.seq (.seq (.ops false r20_1) (.seq (.ops false r20_2) (.cond (.t 13) (.seq (.ops false r20_3) .ret) .skip))) (.seq (.seq (.ops false r20_4) (.cond (.t 18) (.seq (.ops false r20_5) .ret) .skip)) (.seq (.ops false r20_6) (.seq (.seq (.ops false r20_7) (.block 0 (.loop [] ⟨75, [(1, (.list (.int .i64))), (7, .str), (8, (.int .i64))], [(2, .ptr 0 0 0)], [.box 24 [.d (.list tS0)]]⟩ (.seq (.seq (.ops false r20_8) (.cond (.t 22) .skip (.exit 0))) (.seq (.block 1 (.seq (.ops false r20_9) (.seq (.seq (.ops false r20_10) (.cond (.t 31) (.ops false r20_11) .skip)) (.seq (.ops false r20_12) (.block 2 (.seq (.ops false r20_13) (.cond (.t 41) (.ops true r20_14) (.seq (.ops false r20_15) (.cond (.t 55) (.ops false r20_16) (.seq (.ops false r20_17) (.cond (.t 66) (.ops false r20_18) (.ops false r20_19)))))))))))) (.ops false r20_20)))))) (.seq (.ops false r20_21) .ret))))))
theorem F20 : Fn Tryd.prog 20 75 x20.er [.t 4, .t 5] := ⟨Tryd.f20, hcl, Tryd.func20, by kernel_rfl, by kernel_rfl, by kernel_rfl, by kernel_rfl⟩
noncomputable def m20 (a0 : DS1) (a1 : List Int) : Option (ByteArray × Int × Unit) :=
 (m15 (a0.1, ())).bind fun y207 =>
 cond (iNe y207.1 0)
 (some ((bs []), y207.1, ()))
 ((m18 (a0.1, ()) a1).bind fun y208 =>
 cond (not y208.1)
 (some ((bs []), 16, ()))
 (loopO (S := (List Int) × ByteArray × Int × (List DS0) × Unit) (R := ByteArray × Int × Unit) (fun s209 =>
 cond (iLt s209.2.2.1 (lenI s209.1))
 (cond (bnd s209.2.2.1 (lenI s209.2.2.2.1))
 (cond (iLt 0 s209.2.2.1)
 (cond (sFits s209.2.1 (bs [59, 32]))
 (cond (sFits (sCat s209.2.1 (bs [59, 32])) ((atI s209.2.2.2.1 s209.2.2.1 (ByteArray.empty, 0, [], 0, 0, ())).1))
 (cond (sFits (sCat (sCat s209.2.1 (bs [59, 32])) ((atI s209.2.2.2.1 s209.2.2.1 (ByteArray.empty, 0, [], 0, 0, ())).1)) (bs [61]))
 (cond (iEq ((atI s209.2.2.2.1 s209.2.2.1 (ByteArray.empty, 0, [], 0, 0, ())).2.1) 1)
 (cond (bnd s209.2.2.1 (lenI s209.1))
 (cond (bnd (atI s209.1 s209.2.2.1 0) (lenI ((atI s209.2.2.2.1 s209.2.2.1 (ByteArray.empty, 0, [], 0, 0, ())).2.2.1)))
 (cond (sFits (sCat (sCat (sCat s209.2.1 (bs [59, 32])) ((atI s209.2.2.2.1 s209.2.2.1 (ByteArray.empty, 0, [], 0, 0, ())).1)) (bs [61])) (atI ((atI s209.2.2.2.1 s209.2.2.1 (ByteArray.empty, 0, [], 0, 0, ())).2.2.1) (atI s209.1 s209.2.2.1 0) ByteArray.empty))
 (some (.inl (s209.1, sCat (sCat (sCat (sCat s209.2.1 (bs [59, 32])) ((atI s209.2.2.2.1 s209.2.2.1 (ByteArray.empty, 0, [], 0, 0, ())).1)) (bs [61])) (atI ((atI s209.2.2.2.1 s209.2.2.1 (ByteArray.empty, 0, [], 0, 0, ())).2.2.1) (atI s209.1 s209.2.2.1 0) ByteArray.empty), iAdd .i64 s209.2.2.1 1, s209.2.2.2.1, ()))) none) none) none)
 (cond (iEq ((atI s209.2.2.2.1 s209.2.2.1 (ByteArray.empty, 0, [], 0, 0, ())).2.1) 2)
 (cond (bnd s209.2.2.1 (lenI s209.1))
 ((m35 (atI s209.1 s209.2.2.1 0)).bind fun y210 =>
 cond (sFits (sCat (sCat (sCat s209.2.1 (bs [59, 32])) ((atI s209.2.2.2.1 s209.2.2.1 (ByteArray.empty, 0, [], 0, 0, ())).1)) (bs [61])) y210.1)
 (some (.inl (s209.1, sCat (sCat (sCat (sCat s209.2.1 (bs [59, 32])) ((atI s209.2.2.2.1 s209.2.2.1 (ByteArray.empty, 0, [], 0, 0, ())).1)) (bs [61])) y210.1, iAdd .i64 s209.2.2.1 1, s209.2.2.2.1, ()))) none) none)
 (cond (bnd s209.2.2.1 (lenI s209.1))
 (cond (iEq (atI s209.1 s209.2.2.1 0) 1)
 (cond (sFits (sCat (sCat (sCat s209.2.1 (bs [59, 32])) ((atI s209.2.2.2.1 s209.2.2.1 (ByteArray.empty, 0, [], 0, 0, ())).1)) (bs [61])) (bs [121, 101, 115]))
 (some (.inl (s209.1, sCat (sCat (sCat (sCat s209.2.1 (bs [59, 32])) ((atI s209.2.2.2.1 s209.2.2.1 (ByteArray.empty, 0, [], 0, 0, ())).1)) (bs [61])) (bs [121, 101, 115]), iAdd .i64 s209.2.2.1 1, s209.2.2.2.1, ()))) none)
 (cond (sFits (sCat (sCat (sCat s209.2.1 (bs [59, 32])) ((atI s209.2.2.2.1 s209.2.2.1 (ByteArray.empty, 0, [], 0, 0, ())).1)) (bs [61])) (bs [110, 111]))
 (some (.inl (s209.1, sCat (sCat (sCat (sCat s209.2.1 (bs [59, 32])) ((atI s209.2.2.2.1 s209.2.2.1 (ByteArray.empty, 0, [], 0, 0, ())).1)) (bs [61])) (bs [110, 111]), iAdd .i64 s209.2.2.1 1, s209.2.2.2.1, ()))) none)) none))) none) none) none)
 (cond (sFits s209.2.1 ((atI s209.2.2.2.1 s209.2.2.1 (ByteArray.empty, 0, [], 0, 0, ())).1))
 (cond (sFits (sCat s209.2.1 ((atI s209.2.2.2.1 s209.2.2.1 (ByteArray.empty, 0, [], 0, 0, ())).1)) (bs [61]))
 (cond (iEq ((atI s209.2.2.2.1 s209.2.2.1 (ByteArray.empty, 0, [], 0, 0, ())).2.1) 1)
 (cond (bnd s209.2.2.1 (lenI s209.1))
 (cond (bnd (atI s209.1 s209.2.2.1 0) (lenI ((atI s209.2.2.2.1 s209.2.2.1 (ByteArray.empty, 0, [], 0, 0, ())).2.2.1)))
 (cond (sFits (sCat (sCat s209.2.1 ((atI s209.2.2.2.1 s209.2.2.1 (ByteArray.empty, 0, [], 0, 0, ())).1)) (bs [61])) (atI ((atI s209.2.2.2.1 s209.2.2.1 (ByteArray.empty, 0, [], 0, 0, ())).2.2.1) (atI s209.1 s209.2.2.1 0) ByteArray.empty))
 (some (.inl (s209.1, sCat (sCat (sCat s209.2.1 ((atI s209.2.2.2.1 s209.2.2.1 (ByteArray.empty, 0, [], 0, 0, ())).1)) (bs [61])) (atI ((atI s209.2.2.2.1 s209.2.2.1 (ByteArray.empty, 0, [], 0, 0, ())).2.2.1) (atI s209.1 s209.2.2.1 0) ByteArray.empty), iAdd .i64 s209.2.2.1 1, s209.2.2.2.1, ()))) none) none) none)
 (cond (iEq ((atI s209.2.2.2.1 s209.2.2.1 (ByteArray.empty, 0, [], 0, 0, ())).2.1) 2)
 (cond (bnd s209.2.2.1 (lenI s209.1))
 ((m35 (atI s209.1 s209.2.2.1 0)).bind fun y211 =>
 cond (sFits (sCat (sCat s209.2.1 ((atI s209.2.2.2.1 s209.2.2.1 (ByteArray.empty, 0, [], 0, 0, ())).1)) (bs [61])) y211.1)
 (some (.inl (s209.1, sCat (sCat (sCat s209.2.1 ((atI s209.2.2.2.1 s209.2.2.1 (ByteArray.empty, 0, [], 0, 0, ())).1)) (bs [61])) y211.1, iAdd .i64 s209.2.2.1 1, s209.2.2.2.1, ()))) none) none)
 (cond (bnd s209.2.2.1 (lenI s209.1))
 (cond (iEq (atI s209.1 s209.2.2.1 0) 1)
 (cond (sFits (sCat (sCat s209.2.1 ((atI s209.2.2.2.1 s209.2.2.1 (ByteArray.empty, 0, [], 0, 0, ())).1)) (bs [61])) (bs [121, 101, 115]))
 (some (.inl (s209.1, sCat (sCat (sCat s209.2.1 ((atI s209.2.2.2.1 s209.2.2.1 (ByteArray.empty, 0, [], 0, 0, ())).1)) (bs [61])) (bs [121, 101, 115]), iAdd .i64 s209.2.2.1 1, s209.2.2.2.1, ()))) none)
 (cond (sFits (sCat (sCat s209.2.1 ((atI s209.2.2.2.1 s209.2.2.1 (ByteArray.empty, 0, [], 0, 0, ())).1)) (bs [61])) (bs [110, 111]))
 (some (.inl (s209.1, sCat (sCat (sCat s209.2.1 ((atI s209.2.2.2.1 s209.2.2.1 (ByteArray.empty, 0, [], 0, 0, ())).1)) (bs [61])) (bs [110, 111]), iAdd .i64 s209.2.2.1 1, s209.2.2.2.1, ()))) none)) none))) none) none)) none)
 (some (.inr (s209.2.1, 0, ()))))
 (a1, (bs []), 0, a0.1, ())))
noncomputable def cfg20 (G : GP) : Cfg := ⟨ttab, (gtab G), [i15, i18, i35], []⟩
theorem eqn20 (G : GP) (x : DS1 × (List Int) × Unit) : xfun (cfg20 G) x20 75 [.t 4, .t 5] [tS1, (.list (.int .i64))] [.str, (.int .i64)] x = m20 x.1 x.2.1 := by kernel_rfl
noncomputable def i20 : PI := ⟨20, [tS1, (.list (.int .i64))], [.str, (.int .i64)], fun (x : DS1 × (List Int) × Unit) => m20 x.1 x.2.1⟩
theorem oki20 {G : GP} : POk Tryd.prog (gx (gtab G)) i20 := pok mixed (cfg_p oki15 (cfg_p oki18 (cfg_p oki35 (cfg_nil _ _))) : CfgOk _ (cfg20 G)) F20 (eqn20 G)
/- 5 treaty/treatylaw06.SchemaFormat -/
def r5_0 : List Ins := [qI 6 (.box 24 1 0), qI 12 (.mov (.k (.bool false)))]
def r5_1 : List Ins := [qI 23 (.faddr 0 6), qI 24 (.load 1 false 23), qI 25 (.len 24), qI 26 (.bin .gtr 25 (kI 20)), qI 27 (.mov 26), qF 28 27 (.mov 1), qF 29 27 (.len 28), qF 30 27 (.bin .gtr 29 (kI 50)), qI 31 (.pick 27 (.k (.bool true)) 30)]
def r5_2 : List Ins := [qI 32 (.call (.fn 8) []), qI 12 (.mov 32)]
def r5_3 : List Ins := [qI 34 (.load 1 true 6), qI 35 (.mov 1), qI 36 (.call (.fn 19) [34, 35]), qI 33 (.mov 36), qI 37 (.ext 0 33), qI 38 (.ext 1 33), qI 13 (.mov 37), qI 14 (.mov 38)]
def r5_4 : List Ins := [qI 40 (.load 1 true 6), qI 41 (.mov 1), qI 42 (.call (.fn 20) [40, 41]), qI 39 (.mov 42), qI 43 (.ext 0 39), qI 44 (.ext 1 39), qI 15 (.mov 43), qI 16 (.mov 44)]
def r5_5 : List Ins := [qI 45 (.mov 2), qI 46 (.call (.fn 9) [45]), qI 17 (.alloc 24 (.agg #[.slice none 0 0])), qN (.store 1 17 46)]
def r5_6 : List (Nat × Ins) := [(0, qI 47 (.mov 3)),
(2, qI 48 (.call (.fn 11) [47])),
(1, qI 49 (.load 1 true 17)),
(2, qI 50 (.call (.fn 16) [48, 49])),
(0, qI 18 (.mov 50))]
def r5_7 : List Ins := [qI 51 (.mov 5), qI 52 (.bin .rem 51 (kI 3)), qI 53 (.bin .eql 52 (kI 0))]
def r5_8 : List Ins := [qI 54 (.mov 18), qI 55 (.mov 4), qI 56 (.mov 18), qI 57 (.len 56), qI 58 (.call (.fn 10) [55, 57]), qI 59 (.mov 5), qI 60 (.iaddr 1 54 58), qN (.store 1 60 59)]
def r5_9 : List Ins := [qI 62 (.load 1 true 17), qI 63 (.mov 18), qI 64 (.call (.fn 19) [62, 63]), qI 61 (.mov 64), qI 65 (.ext 0 61), qI 66 (.ext 1 61), qI 19 (.mov 65), qI 20 (.mov 66)]
def r5_10 : List Ins := [qI 68 (.load 1 true 17), qI 69 (.mov 18), qI 70 (.call (.fn 20) [68, 69]), qI 67 (.mov 70), qI 71 (.ext 0 67), qI 72 (.ext 1 67), qI 21 (.mov 71), qI 22 (.mov 72)]
def r5_11 : List Ins := [qI 73 (.mov 13), qI 74 (.mov 15), qI 75 (.bin .eql 73 74), qI 76 (.mov 75), qT 77 76 (.mov 14), qT 78 76 (.mov 16), qT 79 76 (.bin .eql 77 78), qI 80 (.pick 76 79 (.k (.bool false))), qI 81 (.mov 80), qT 82 81 (.mov 19), qT 83 81 (.mov 21), qT 84 81 (.bin .eql 82 83), qI 85 (.pick 81 84 (.k (.bool false))), qI 86 (.mov 85), qT 87 86 (.mov 20), qT 88 86 (.mov 22), qT 89 86 (.bin .eql 87 88), qI 90 (.pick 86 89 (.k (.bool false))), qI 91 (.mov 90), qT 92 91 (.call (.fn 8) []), qI 93 (.pick 91 92 (.k (.bool false))), qI 12 (.mov 93)]
def x5 : XC := (.seq (.ops false r5_0) (.seq (.seq (.ops false r5_1) (.cond (.t 31) (.seq (.ops false r5_2) .ret) .skip)) (.seq (.ops false r5_3) (.seq (.ops false r5_4) (.seq (.ops false r5_5) (.seq (.rops [] r5_6) (.seq (.seq (.ops false r5_7) (.cond (.t 53) (.ops false r5_8) .skip)) (.seq (.ops false r5_9) (.seq (.ops false r5_10) (.seq (.ops false r5_11) .ret))))))))))
theorem F5 : Fn Tryd.prog 5 94 x5.er [.t 12] := ⟨Tryd.f5, hcl, Tryd.func5, by kernel_rfl, by kernel_rfl, by kernel_rfl, by kernel_rfl⟩
noncomputable def m5 (a0 : DS1) (a1 : List Int) (a2 : Int) (a3 : List Int) (a4 : Int) (a5 : Int) : Option (Bool × Unit) :=
 cond (cond (iLt 20 (lenI a0.1)) true (iLt 50 (lenI a1)))
 ((m8).bind fun y196 =>
 some (y196.1, ()))
 ((m19 (a0.1, ()) a1).bind fun y197 =>
 (m20 (a0.1, ()) a1).bind fun y212 =>
 (m9 a2).bind fun y213 =>
 (m11 a3).bind fun y214 =>
 (m16 (y213.1.1, ()) y214.1 y214.2.1).bind fun y215 =>
 cond (iNe 3 0)
 (cond (iEq (iRem a5 3) 0)
 ((m10 a4 (lenI y215.2.2.1)).bind fun y216 =>
 cond (bnd y216.1 (lenI y215.2.2.1))
 (cond (inB (Int.toNat y216.1) y215.2.2.1)
 ((m19 (y213.1.1, ()) (List.set y215.2.2.1 (Int.toNat y216.1) a5)).bind fun y217 =>
 (m20 (y213.1.1, ()) (List.set y215.2.2.1 (Int.toNat y216.1) a5)).bind fun y218 =>
 cond (cond (cond (cond (sEq y197.1 y212.1) (iEq y197.2.1 y212.2.1) false) (sEq y217.1 y218.1) false) (iEq y217.2.1 y218.2.1) false)
 ((m8).bind fun y219 =>
 some (y219.1, ()))
 (some (false, ()))) none) none)
 ((m19 (y213.1.1, ()) y215.2.2.1).bind fun y220 =>
 (m20 (y213.1.1, ()) y215.2.2.1).bind fun y221 =>
 cond (cond (cond (cond (sEq y197.1 y212.1) (iEq y197.2.1 y212.2.1) false) (sEq y220.1 y221.1) false) (iEq y220.2.1 y221.2.1) false)
 ((m8).bind fun y222 =>
 some (y222.1, ()))
 (some (false, ())))) none)
noncomputable def cfg5 (G : GP) : Cfg := ⟨ttab, (gtab G), [i10, i19, i20, i8, i9], [h11, h16]⟩
theorem eqn5 (G : GP) (x : DS1 × (List Int) × Int × (List Int) × Int × Int × Unit) : xfun (cfg5 G) x5 94 [.t 12] [tS1, (.list (.int .i64)), (.int .i64), (.list (.int .i64)), (.int .i64), (.int .i64)] [.bool] x = m5 x.1 x.2.1 x.2.2.1 x.2.2.2.1 x.2.2.2.2.1 x.2.2.2.2.2.1 := by kernel_rfl
noncomputable def i5 : PI := ⟨5, [tS1, (.list (.int .i64)), (.int .i64), (.list (.int .i64)), (.int .i64), (.int .i64)], [.bool], fun (x : DS1 × (List Int) × Int × (List Int) × Int × Int × Unit) => m5 x.1 x.2.1 x.2.2.1 x.2.2.2.1 x.2.2.2.2.1 x.2.2.2.2.2.1⟩
theorem oki5 {G : GP} : POk Tryd.prog (gx (gtab G)) i5 := pok mixed (cfg_p oki10 (cfg_p oki19 (cfg_p oki20 (cfg_p oki8 (cfg_p oki9 (cfg_h okh11 (cfg_h okh16 (cfg_nil _ _))))))) : CfgOk _ (cfg5 G)) F5 (eqn5 G)
/- 21 treaty/schema.Parse -/
def r21_0 : List Ins := [qI 2 (.box 24 1 0), qI 4 (.mov kN), qI 5 (.mov (kI 0))]
def r21_1 : List Ins := [qI 18 (.load 1 true 2), qI 19 (.call (.fn 14) [18]), qI 6 (.mov 19)]
def r21_2 : List Ins := [qI 20 (.mov 6), qI 21 (.bin .neq 20 (kI 0))]
def r21_3 : List Ins := [qI 22 (.mov 6), qI 4 (.mov kN), qI 5 (.mov 22)]
def r21_4 : List Ins := [qI 23 (.faddr 0 2), qI 24 (.load 1 false 23), qI 25 (.len 24), qI 26 (.mk 3 1 8 (.int .i64 0) 25), qI 7 (.mov 26)]
def r21_5 : List Ins := [qI 27 (.mov 1), qI 8 (.mov 27)]
def r21_6 : List Ins := [qI 28 (.faddr 0 2), qI 29 (.load 1 false 28), qI 30 (.len 29), qI 31 (.mov (kI 0))]
def r21_7 : List Ins := [qI 32 (.bin .lss 31 30)]
def r21_8 : List Ins := [qI 33 (.mov 31), qI 34 (.iaddr 5 29 31), qI 35 (.load 5 true 34), qI 10 (.alloc 27 (.agg #[.string (bs []), .int .i64 0, .slice none 0 0, .int .i64 0, .int .i64 0])), qI 9 (.mov 33), qN (.store 5 10 35)]
def r21_9 : List Ins := [qI 37 (.mov 8), qI 38 (.call (.fn 36) [37, (.k (.string (bs [59, 32])))]), qI 36 (.mov 38), qI 39 (.ext 0 36), qI 40 (.ext 1 36), qI 41 (.ext 2 36), qI 11 (.mov 39), qI 12 (.mov 40), qI 13 (.mov 41)]
def r21_10 : List Ins := [qI 43 (.load 5 true 10), qI 44 (.mov 11), qI 45 (.faddr 0 10), qI 46 (.load 1 false 45), qI 47 (.bin .add 46 (.k (.string (bs [61])))), qI 48 (.call (.fn 38) [44, 47]), qI 49 (.call (.fn 37) [43, 48]), qI 42 (.mov 49), qI 50 (.ext 0 42), qI 51 (.ext 1 42), qI 14 (.mov 50), qI 15 (.mov 51)]
def r21_11 : List Ins := [qI 52 (.mov 15), qI 53 (.un .not 52)]
def r21_12 : List Ins := [qI 4 (.mov kN), qI 5 (.mov (kI 5))]
def r21_13 : List Ins := [qI 54 (.mov 7), qI 55 (.mov 9), qI 56 (.mov 14), qI 57 (.mov 12), qI 58 (.iaddr 1 54 55), qN (.store 1 58 56), qI 8 (.mov 57)]
def r21_14 : List Ins := [qI 59 (.bin .add 31 (kI 1)), qI 31 (.mov 59)]
def r21_15 : List Ins := [qI 61 (.load 1 true 2), qI 62 (.mov 7), qI 63 (.call (.fn 19) [61, 62]), qI 60 (.mov 63), qI 64 (.ext 0 60), qI 65 (.ext 1 60), qI 16 (.mov 64), qI 17 (.mov 65)]
def r21_16 : List Ins := [qI 66 (.mov 17), qI 67 (.bin .neq 66 (kI 0)), qI 68 (.mov 67), qF 69 68 (.mov 16), qF 70 68 (.mov 1), qF 71 68 (.bin .neq 69 70), qI 72 (.pick 68 (.k (.bool true)) 71)]
def r21_17 : List Ins := [qI 4 (.mov kN), qI 5 (.mov (kI 5))]
def r21_18 : List Ins := [qI 73 (.mov 7), qI 4 (.mov 73), qI 5 (.mov (kI 0))]
def x21 : XC := (.seq (.ops false r21_0) (.seq (.seq (.ops false r21_1) (.seq (.ops false r21_2) (.cond (.t 21) (.seq (.ops false r21_3) .ret) .skip))) (.seq (.ops false r21_4) (.seq (.ops false r21_5) (.seq (.seq (.ops false r21_6) (.block 0 (.loop [] ⟨74, [(1, .str), (8, .str), (29, (.list tS0)), (30, (.int .i64)), (31, (.int .i64))], [(2, .ptr 0 0 0), (7, .row 1)], [.box 24 [.d (.list tS0)], .row 3 (.int .i64) false]⟩ (.seq (.ops false r21_7) (.seq (.cond (.t 32) .skip (.exit 0)) (.seq (.block 1 (.seq (.ops false r21_8) (.seq (.ops false r21_9) (.seq (.ops true r21_10) (.seq (.seq (.ops false r21_11) (.cond (.t 53) (.seq (.ops false r21_12) .ret) .skip)) (.ops false r21_13)))))) (.ops false r21_14))))))) (.seq (.seq (.ops false r21_15) (.seq (.ops false r21_16) (.cond (.t 72) (.seq (.ops false r21_17) .ret) .skip))) (.seq (.ops false r21_18) .ret)))))))
theorem F21 : Fn Tryd.prog 21 74 x21.er [.t 4, .t 5] := ⟨Tryd.f21, hcl, Tryd.func21, by kernel_rfl, by kernel_rfl, by kernel_rfl, by kernel_rfl⟩
noncomputable def m21 (a0 : DS1) (a1 : ByteArray) : Option ((List Int) × Int × Unit) :=
 (m14 (a0.1, ())).bind fun y233 =>
 cond (iNe y233.1 0)
 (some (([] : List Int), y233.1, ()))
 (cond (fitsI (lenI a0.1) 8)
 (loopO (S := ByteArray × ByteArray × (List DS0) × Int × Int × (List DS0) × (List Int) × Unit) (R := (List Int) × Int × Unit) (fun s234 =>
 cond (iLt s234.2.2.2.2.1 s234.2.2.2.1)
 (cond (bnd s234.2.2.2.2.1 (lenI s234.2.2.1))
 ((mCut s234.2.1 (bs [59, 32])).bind fun y235 =>
 cond (sFits ((atI s234.2.2.1 s234.2.2.2.2.1 (ByteArray.empty, 0, [], 0, 0, ())).1) (bs [61]))
 ((mTrim y235.1 (sCat ((atI s234.2.2.1 s234.2.2.2.2.1 (ByteArray.empty, 0, [], 0, 0, ())).1) (bs [61]))).bind fun y236 =>
 (mRead ((atI s234.2.2.1 s234.2.2.2.2.1 (ByteArray.empty, 0, [], 0, 0, ())).1, (atI s234.2.2.1 s234.2.2.2.2.1 (ByteArray.empty, 0, [], 0, 0, ())).2.1, (atI s234.2.2.1 s234.2.2.2.2.1 (ByteArray.empty, 0, [], 0, 0, ())).2.2.1, (atI s234.2.2.1 s234.2.2.2.2.1 (ByteArray.empty, 0, [], 0, 0, ())).2.2.2.1, (atI s234.2.2.1 s234.2.2.2.2.1 (ByteArray.empty, 0, [], 0, 0, ())).2.2.2.2.1, ()) y236.1).bind fun y237 =>
 cond (not y237.2.1)
 (some (.inr (([] : List Int), 5, ())))
 (cond (bnd s234.2.2.2.2.1 (lenI s234.2.2.2.2.2.2.1))
 (cond (inB (Int.toNat s234.2.2.2.2.1) s234.2.2.2.2.2.2.1)
 (some (.inl (s234.1, y235.2.1, s234.2.2.1, s234.2.2.2.1, iAdd .i64 s234.2.2.2.2.1 1, s234.2.2.2.2.2.1, List.set s234.2.2.2.2.2.2.1 (Int.toNat s234.2.2.2.2.1) y237.1, ()))) none) none)) none) none)
 (Option.map Sum.inr ((m19 (s234.2.2.2.2.2.1, ()) s234.2.2.2.2.2.2.1).bind fun y238 =>
 cond (cond (iNe y238.2.1 0) true (not (sEq y238.1 s234.1)))
 (some (([] : List Int), 5, ()))
 (some (s234.2.2.2.2.2.2.1, 0, ())))))
 (a1, a1, a0.1, lenI a0.1, 0, a0.1, List.replicate (Int.toNat (lenI a0.1)) 0, ())) none)
noncomputable def cfg21 (G : GP) : Cfg := ⟨ttab, (gtab G), [i14, i19, iCut, iRead, iTrim], []⟩
theorem eqn21 (G : GP) (x : DS1 × ByteArray × Unit) : xfun (cfg21 G) x21 74 [.t 4, .t 5] [tS1, .str] [(.list (.int .i64)), (.int .i64)] x = m21 x.1 x.2.1 := by kernel_rfl
noncomputable def i21 : PI := ⟨21, [tS1, .str], [(.list (.int .i64)), (.int .i64)], fun (x : DS1 × ByteArray × Unit) => m21 x.1 x.2.1⟩
theorem oki21 {G : GP} : POk Tryd.prog (gx (gtab G)) i21 := pok mixed (cfg_p oki14 (cfg_p oki19 (cfg_p okiCut (cfg_p okiRead (cfg_p okiTrim (cfg_nil _ _))))) : CfgOk _ (cfg21 G)) F21 (eqn21 G)
/- 22 treaty/treatyref01.SameInts -/
def r22_0 : List Ins := [qI 4 (.mov (.k (.bool false)))]
def r22_1 : List Ins := [qI 6 (.mov 0), qI 7 (.len 6), qI 8 (.mov 1), qI 9 (.len 8), qI 10 (.bin .neq 7 9)]
def r22_2 : List Ins := [qI 4 (.mov (.k (.bool false)))]
def r22_3 : List Ins := [qI 5 (.mov (kI 0))]
def r22_4 : List Ins := [qI 11 (.mov 5), qI 12 (.mov 0), qI 13 (.len 12), qI 14 (.bin .lss 11 13)]
def r22_5 : List Ins := [qI 17 (.mov 0), qI 18 (.mov 5), qI 19 (.iaddr 1 17 18), qI 20 (.load 1 false 19), qI 21 (.mov 1), qI 22 (.mov 5), qI 23 (.iaddr 1 21 22), qI 24 (.load 1 false 23), qI 25 (.bin .neq 20 24)]
def r22_6 : List Ins := [qI 4 (.mov (.k (.bool false)))]
def r22_7 : List Ins := [qI 15 (.mov 5), qI 16 (.bin .add 15 (kI 1)), qI 5 (.mov 16)]
def r22_8 : List Ins := [qI 4 (.mov (.k (.bool true)))]
def x22 : XC := (.seq (.ops false r22_0) (.seq (.seq (.ops false r22_1) (.cond (.t 10) (.seq (.ops false r22_2) .ret) .skip)) (.seq (.seq (.ops false r22_3) (.block 0 (.loop [] ⟨26, [(0, (.list (.int .i64))), (1, (.list (.int .i64))), (5, (.int .i64))], [], []⟩ (.seq (.seq (.ops false r22_4) (.cond (.t 14) .skip (.exit 0))) (.seq (.block 1 (.seq (.ops true r22_5) (.cond (.t 25) (.seq (.ops false r22_6) .ret) .skip))) (.ops false r22_7)))))) (.seq (.ops false r22_8) .ret))))
theorem F22 : Fn Tryd.prog 22 26 x22.er [.t 4] := ⟨Tryd.f22, hcl, Tryd.func22, by kernel_rfl, by kernel_rfl, by kernel_rfl, by kernel_rfl⟩
noncomputable def m22 (a0 : List Int) (a1 : List Int) : Option (Bool × Unit) :=
 cond (iNe (lenI a0) (lenI a1))
 (some (false, ()))
 (loopO (S := (List Int) × (List Int) × Int × Unit) (R := Bool × Unit) (fun s241 =>
 cond (iLt s241.2.2.1 (lenI s241.1))
 (cond (bnd s241.2.2.1 (lenI s241.1))
 (cond (bnd s241.2.2.1 (lenI s241.2.1))
 (cond (iNe (atI s241.1 s241.2.2.1 0) (atI s241.2.1 s241.2.2.1 0))
 (some (.inr (false, ())))
 (some (.inl (s241.1, s241.2.1, iAdd .i64 s241.2.2.1 1, ())))) none) none)
 (some (.inr (true, ()))))
 (a0, a1, 0, ()))
noncomputable def cfg22 (G : GP) : Cfg := ⟨ttab, (gtab G), [], []⟩
theorem eqn22 (G : GP) (x : (List Int) × (List Int) × Unit) : xfun (cfg22 G) x22 26 [.t 4] [(.list (.int .i64)), (.list (.int .i64))] [.bool] x = m22 x.1 x.2.1 := by kernel_rfl
noncomputable def i22 : PI := ⟨22, [(.list (.int .i64)), (.list (.int .i64))], [.bool], fun (x : (List Int) × (List Int) × Unit) => m22 x.1 x.2.1⟩
theorem oki22 {G : GP} : POk Tryd.prog (gx (gtab G)) i22 := pok mixed (cfg_nil _ _ : CfgOk _ (cfg22 G)) F22 (eqn22 G)
/- 6 treaty/treatylaw06.SchemaBack -/
def r6_0 : List Ins := [qI 4 (.mov (.k (.bool false)))]
def r6_1 : List Ins := [qI 11 (.mov 0), qI 12 (.call (.fn 9) [11]), qI 5 (.alloc 24 (.agg #[.slice none 0 0])), qN (.store 1 5 12)]
def r6_2 : List (Nat × Ins) := [(0, qI 13 (.mov 1)),
(2, qI 14 (.call (.fn 11) [13])),
(1, qI 15 (.load 1 true 5)),
(2, qI 16 (.call (.fn 16) [14, 15])),
(0, qI 6 (.mov 16))]
def r6_3 : List Ins := [qI 18 (.load 1 true 5), qI 19 (.mov 6), qI 20 (.call (.fn 19) [18, 19]), qI 17 (.mov 20), qI 21 (.ext 0 17), qI 22 (.ext 1 17), qI 7 (.mov 21), qI 8 (.mov 22)]
def r6_4 : List Ins := [qI 24 (.load 1 true 5), qI 25 (.mov 7), qI 26 (.call (.fn 21) [24, 25]), qI 23 (.mov 26), qI 27 (.ext 0 23), qI 28 (.ext 1 23), qI 9 (.mov 27), qI 10 (.mov 28)]
def r6_5 : List Ins := [qI 29 (.mov 8), qI 30 (.bin .eql 29 (kI 0)), qI 31 (.mov 30), qT 32 31 (.mov 10), qT 33 31 (.bin .eql 32 (kI 0)), qI 34 (.pick 31 33 (.k (.bool false))), qI 35 (.mov 34), qT 36 35 (.mov 6), qT 37 35 (.mov 9), qT 38 35 (.call (.fn 22) [36, 37]), qI 39 (.pick 35 38 (.k (.bool false))), qI 40 (.mov 39), qT 41 40 (.call (.fn 8) []), qI 42 (.pick 40 41 (.k (.bool false))), qI 4 (.mov 42)]
def x6 : XC := (.seq (.ops false r6_0) (.seq (.ops false r6_1) (.seq (.rops [] r6_2) (.seq (.ops false r6_3) (.seq (.ops false r6_4) (.seq (.ops false r6_5) .ret))))))
theorem F6 : Fn Tryd.prog 6 43 x6.er [.t 4] := ⟨Tryd.f6, hcl, Tryd.func6, by kernel_rfl, by kernel_rfl, by kernel_rfl, by kernel_rfl⟩
noncomputable def m6 (a0 : Int) (a1 : List Int) : Option (Bool × Unit) :=
 (m9 a0).bind fun y223 =>
 (m11 a1).bind fun y224 =>
 (m16 (y223.1.1, ()) y224.1 y224.2.1).bind fun y225 =>
 (m19 (y223.1.1, ()) y225.2.2.1).bind fun y226 =>
 (m21 (y223.1.1, ()) y226.1).bind fun y239 =>
 cond (cond (iEq y226.2.1 0) (iEq y239.2.1 0) false)
 ((m22 y225.2.2.1 y239.1).bind fun y242 =>
 cond y242.1
 ((m8).bind fun y243 =>
 some (y243.1, ()))
 (some (false, ())))
 (some (false, ()))
noncomputable def cfg6 (G : GP) : Cfg := ⟨ttab, (gtab G), [i19, i21, i22, i8, i9], [h11, h16]⟩
theorem eqn6 (G : GP) (x : Int × (List Int) × Unit) : xfun (cfg6 G) x6 43 [.t 4] [(.int .i64), (.list (.int .i64))] [.bool] x = m6 x.1 x.2.1 := by kernel_rfl
noncomputable def i6 : PI := ⟨6, [(.int .i64), (.list (.int .i64))], [.bool], fun (x : Int × (List Int) × Unit) => m6 x.1 x.2.1⟩
theorem oki6 {G : GP} : POk Tryd.prog (gx (gtab G)) i6 := pok mixed (cfg_p oki19 (cfg_p oki21 (cfg_p oki22 (cfg_p oki8 (cfg_p oki9 (cfg_h okh11 (cfg_h okh16 (cfg_nil _ _))))))) : CfgOk _ (cfg6 G)) F6 (eqn6 G)
/- 39 treaty/treatyref05.value -/
def r39_0 : List Ins := [qI 2 (.box 27 5 0), qI 4 (.mov (kI 0)), qI 5 (.mov (.k (.bool false)))]
def r39_1 : List Ins := [qI 10 (.faddr 1 2), qI 11 (.load 1 false 10)]
def r39_2 : List Ins := [qI 13 (.bin .eql 11 (kI 1)), qI 12 (.mov 13)]
def r39_3 : List Ins := [qI 6 (.mov (kI 0))]
def r39_4 : List Ins := [qI 14 (.mov 6), qI 15 (.faddr 2 2), qI 16 (.load 1 false 15), qI 17 (.len 16), qI 18 (.bin .lss 14 17)]
def r39_5 : List Ins := [qI 21 (.faddr 2 2), qI 22 (.load 1 false 21), qI 23 (.mov 6), qI 24 (.iaddr 1 22 23), qI 25 (.load 1 false 24), qI 26 (.mov 1), qI 27 (.bin .eql 25 26)]
def r39_6 : List Ins := [qI 28 (.mov 6), qI 4 (.mov 28), qI 5 (.mov (.k (.bool true)))]
def r39_7 : List Ins := [qI 19 (.mov 6), qI 20 (.bin .add 19 (kI 1)), qI 6 (.mov 20)]
def r39_8 : List Ins := [qI 4 (.mov (kI 0)), qI 5 (.mov (.k (.bool false)))]
def r39_9 : List Ins := [qI 30 (.bin .eql 11 (kI 2)), qI 29 (.mov 30)]
def r39_10 : List Ins := [qI 31 (.mov 1), qI 7 (.mov 31)]
def r39_11 : List Ins := [qI 32 (.mov 1), qI 33 (.slen 32), qI 34 (.bin .gtr 33 (kI 0)), qI 35 (.mov 34), qT 36 35 (.mov 1), qT 37 35 (.idx 36 (kI 0)), qT 38 35 (.bin .eql 37 (.k (.int .u8 45))), qI 39 (.pick 35 38 (.k (.bool false)))]
def r39_12 : List Ins := [qI 40 (.mov 1), qI 41 (.sslice 40 (some (kI 1)) none), qI 7 (.mov 41)]
def r39_13 : List Ins := [qI 42 (.mov 7), qI 43 (.slen 42), qI 44 (.bin .lss 43 (kI 1)), qI 45 (.mov 44), qF 46 45 (.mov 7), qF 47 45 (.slen 46), qF 48 45 (.bin .gtr 47 (kI 10)), qI 49 (.pick 45 (.k (.bool true)) 48)]
def r39_14 : List Ins := [qI 4 (.mov (kI 0)), qI 5 (.mov (.k (.bool false)))]
def r39_15 : List Ins := [qI 8 (.mov (kI 0))]
def r39_16 : List Ins := [qI 9 (.mov (kI 0))]
def r39_17 : List Ins := [qI 50 (.mov 9), qI 51 (.mov 7), qI 52 (.slen 51), qI 53 (.bin .lss 50 52)]
def r39_18 : List Ins := [qI 56 (.mov 7), qI 57 (.mov 9), qI 58 (.idx 56 57), qI 59 (.call (.fn 57) [58]), qI 60 (.un .not 59)]
def r39_19 : List Ins := [qI 4 (.mov (kI 0)), qI 5 (.mov (.k (.bool false)))]
def r39_20 : List Ins := [qI 61 (.mov 8), qI 62 (.bin .mul (kI 10) 61), qI 63 (.mov 7), qI 64 (.mov 9), qI 65 (.idx 63 64), qI 66 (.bin .sub 65 (.k (.int .u8 48))), qI 67 (.conv .i64 66), qI 68 (.bin .add 62 67), qI 8 (.mov 68)]
def r39_21 : List Ins := [qI 54 (.mov 9), qI 55 (.bin .add 54 (kI 1)), qI 9 (.mov 55)]
def r39_22 : List Ins := [qI 69 (.mov 7), qI 70 (.mov 1), qI 71 (.bin .neq 69 70)]
def r39_23 : List Ins := [qI 72 (.mov 8), qI 73 (.un .neg 72), qI 8 (.mov 73)]
def r39_24 : List Ins := [qI 74 (.mov 8), qI 75 (.mov 8), qI 76 (.call (.fn 35) [75]), qI 77 (.mov 1), qI 78 (.bin .eql 76 77), qI 4 (.mov 74), qI 5 (.mov 78)]
def r39_25 : List Ins := [qI 79 (.mov 1), qI 80 (.slen 79), qI 81 (.bin .sub 80 (kI 2)), qI 82 (.mov 1), qI 83 (.bin .eql 82 (.k (.string (bs [121, 101, 115])))), qI 84 (.mov 83), qF 85 84 (.mov 1), qF 86 84 (.bin .eql 85 (.k (.string (bs [110, 111])))), qI 87 (.pick 84 (.k (.bool true)) 86), qI 4 (.mov 81), qI 5 (.mov 87)]
def x39 : XC := (.seq (.ops false r39_0) (.seq (.seq (.ops false r39_1) (.block 0 (.seq (.ops false r39_2) (.cond (.t 12) (.seq (.seq (.ops false r39_3) (.block 1 (.loop [] ⟨88, [(1, .str), (6, (.int .i64))], [(2, .ptr 0 0 0)], [.box 27 [.d .str, .d (.int .i64), .d (.list .str), .d (.int .i64), .d (.int .i64)]]⟩ (.seq (.seq (.ops false r39_4) (.cond (.t 18) .skip (.exit 1))) (.seq (.block 2 (.seq (.ops false r39_5) (.cond (.t 27) (.seq (.ops false r39_6) .ret) .skip))) (.ops false r39_7)))))) (.seq (.ops false r39_8) .ret)) (.seq (.ops false r39_9) (.cond (.t 29) (.seq (.ops false r39_10) (.seq (.seq (.ops false r39_11) (.cond (.t 39) (.ops false r39_12) .skip)) (.seq (.seq (.ops false r39_13) (.cond (.t 49) (.seq (.ops false r39_14) .ret) .skip)) (.seq (.ops false r39_15) (.seq (.seq (.ops false r39_16) (.block 3 (.loop [] ⟨88, [(1, .str), (7, .str), (8, (.int .i64)), (9, (.int .i64))], [], []⟩ (.seq (.seq (.ops false r39_17) (.cond (.t 53) .skip (.exit 3))) (.seq (.block 4 (.seq (.seq (.ops false r39_18) (.cond (.t 60) (.seq (.ops false r39_19) .ret) .skip)) (.ops false r39_20))) (.ops false r39_21)))))) (.seq (.seq (.ops false r39_22) (.cond (.t 71) (.ops false r39_23) .skip)) (.seq (.ops false r39_24) .ret))))))) .skip)))))) (.seq (.ops false r39_25) .ret)))
theorem F39 : Fn Tryd.prog 39 88 x39.er [.t 4, .t 5] := ⟨Tryd.f39, hcl, Tryd.func39, by kernel_rfl, by kernel_rfl, by kernel_rfl, by kernel_rfl⟩
noncomputable def m39 (a0 : DS0) (a1 : ByteArray) : Option (Int × Bool × Unit) :=
 cond (iEq a0.2.1 1)
 (loopO (S := ByteArray × Int × ByteArray × Int × (List ByteArray) × Int × Int × Unit) (R := Int × Bool × Unit) (fun s259 =>
 cond (iLt s259.2.1 (lenI s259.2.2.2.2.1))
 (cond (bnd s259.2.1 (lenI s259.2.2.2.2.1))
 (cond (sEq (atI s259.2.2.2.2.1 s259.2.1 ByteArray.empty) s259.1)
 (some (.inr (s259.2.1, true, ())))
 (some (.inl (s259.1, iAdd .i64 s259.2.1 1, s259.2.2.1, s259.2.2.2.1, s259.2.2.2.2.1, s259.2.2.2.2.2.1, s259.2.2.2.2.2.2.1, ())))) none)
 (some (.inr (0, false, ()))))
 (a1, 0, a0.1, a0.2.1, a0.2.2.1, a0.2.2.2.1, a0.2.2.2.2.1, ()))
 (cond (iEq a0.2.1 2)
 (cond (or (bnd 0 (sLen a1)) (not (bEq (iLt 0 (sLen a1)) true)))
 (cond (cond (iLt 0 (sLen a1)) (iEq (sAt a1 0) 45) false)
 (cond (cutOk 1 ((ByteArray.size a1 : Nat) : Int) (ByteArray.size a1))
 (cond (cond (iLt (sLen (cutS 1 ((ByteArray.size a1 : Nat) : Int) a1)) 1) true (iLt 10 (sLen (cutS 1 ((ByteArray.size a1 : Nat) : Int) a1))))
 (some (0, false, ()))
 (loopO (S := ByteArray × ByteArray × Int × Int × Unit) (R := Int × Bool × Unit) (fun s260 =>
 cond (iLt s260.2.2.2.1 (sLen s260.2.1))
 (cond (bnd s260.2.2.2.1 (sLen s260.2.1))
 ((m57 (sAt s260.2.1 s260.2.2.2.1)).bind fun y261 =>
 cond (not y261.1)
 (some (.inr (0, false, ())))
 (cond (bnd s260.2.2.2.1 (sLen s260.2.1))
 (some (.inl (s260.1, s260.2.1, iAdd .i64 (iMul .i64 10 s260.2.2.1) (IntKind.wrap .i64 (iSub .u8 (sAt s260.2.1 s260.2.2.2.1) 48)), iAdd .i64 s260.2.2.2.1 1, ()))) none)) none)
 (Option.map Sum.inr (cond (not (sEq s260.2.1 s260.1))
 ((m35 (iNeg .i64 s260.2.2.1)).bind fun y262 =>
 some (iNeg .i64 s260.2.2.1, sEq y262.1 s260.1, ()))
 ((m35 s260.2.2.1).bind fun y263 =>
 some (s260.2.2.1, sEq y263.1 s260.1, ())))))
 (a1, cutS 1 ((ByteArray.size a1 : Nat) : Int) a1, 0, 0, ()))) none)
 (cond (cond (iLt (sLen a1) 1) true (iLt 10 (sLen a1)))
 (some (0, false, ()))
 (loopO (S := ByteArray × ByteArray × Int × Int × Unit) (R := Int × Bool × Unit) (fun s264 =>
 cond (iLt s264.2.2.2.1 (sLen s264.2.1))
 (cond (bnd s264.2.2.2.1 (sLen s264.2.1))
 ((m57 (sAt s264.2.1 s264.2.2.2.1)).bind fun y265 =>
 cond (not y265.1)
 (some (.inr (0, false, ())))
 (cond (bnd s264.2.2.2.1 (sLen s264.2.1))
 (some (.inl (s264.1, s264.2.1, iAdd .i64 (iMul .i64 10 s264.2.2.1) (IntKind.wrap .i64 (iSub .u8 (sAt s264.2.1 s264.2.2.2.1) 48)), iAdd .i64 s264.2.2.2.1 1, ()))) none)) none)
 (Option.map Sum.inr (cond (not (sEq s264.2.1 s264.1))
 ((m35 (iNeg .i64 s264.2.2.1)).bind fun y266 =>
 some (iNeg .i64 s264.2.2.1, sEq y266.1 s264.1, ()))
 ((m35 s264.2.2.1).bind fun y267 =>
 some (s264.2.2.1, sEq y267.1 s264.1, ())))))
 (a1, a1, 0, 0, ())))) none)
 (some (iSub .i64 (sLen a1) 2, cond (sEq a1 (bs [121, 101, 115])) true (sEq a1 (bs [110, 111])), ())))
noncomputable def cfg39 (G : GP) : Cfg := ⟨ttab, (gtab G), [i35, i57], []⟩
theorem eqn39 (G : GP) (x : DS0 × ByteArray × Unit) : xfun (cfg39 G) x39 88 [.t 4, .t 5] [tS0, .str] [(.int .i64), .bool] x = m39 x.1 x.2.1 := by kernel_rfl
noncomputable def i39 : PI := ⟨39, [tS0, .str], [(.int .i64), .bool], fun (x : DS0 × ByteArray × Unit) => m39 x.1 x.2.1⟩
theorem oki39 {G : GP} : POk Tryd.prog (gx (gtab G)) i39 := pok mixed (cfg_p oki35 (cfg_p oki57 (cfg_nil _ _)) : CfgOk _ (cfg39 G)) F39 (eqn39 G)
/- 23 treaty/treatyref05.ParseFacts -/
def r23_0 : List Ins := [qI 2 (.box 24 1 0), qI 4 (.mov kN), qI 5 (.mov (kI 0))]
def r23_1 : List Ins := [qI 15 (.load 1 true 2), qI 16 (.call (.fn 15) [15]), qI 6 (.mov 16)]
def r23_2 : List Ins := [qI 17 (.mov 6), qI 18 (.bin .neq 17 (kI 0))]
def r23_3 : List Ins := [qI 19 (.mov 6), qI 4 (.mov kN), qI 5 (.mov 19)]
def r23_4 : List Ins := [qI 7 (.mov kN)]
def r23_5 : List Ins := [qI 8 (.mov (kI 0))]
def r23_6 : List Ins := [qI 9 (.mov (kI 0))]
def r23_7 : List Ins := [qI 20 (.mov 9), qI 21 (.faddr 0 2), qI 22 (.load 1 false 21), qI 23 (.len 22), qI 24 (.bin .lss 20 23)]
def r23_8 : List Ins := [qI 27 (.faddr 0 2), qI 28 (.load 1 false 27), qI 29 (.mov 9), qI 30 (.iaddr 5 28 29), qI 31 (.load 5 true 30), qI 10 (.alloc 27 (.agg #[.string (bs []), .int .i64 0, .slice none 0 0, .int .i64 0, .int .i64 0])), qN (.store 5 10 31)]
def r23_9 : List Ins := [qI 32 (.faddr 0 10), qI 33 (.load 1 false 32), qI 34 (.bin .add 33 (.k (.string (bs [61])))), qI 11 (.mov 34)]
def r23_10 : List Ins := [qI 35 (.mov 9), qI 36 (.bin .gtr 35 (kI 0))]
def r23_11 : List Ins := [qI 37 (.mov 11), qI 38 (.bin .add (.k (.string (bs [59, 32]))) 37), qI 11 (.mov 38)]
def r23_12 : List Ins := [qI 39 (.mov 1), qI 40 (.slen 39), qI 41 (.mov 8), qI 42 (.bin .sub 40 41), qI 43 (.mov 11), qI 44 (.slen 43), qI 45 (.bin .lss 42 44), qI 46 (.mov 45), qF 47 46 (.mov 1), qF 48 46 (.mov 8), qF 49 46 (.mov 8), qF 50 46 (.mov 11), qF 51 46 (.slen 50), qF 52 46 (.bin .add 49 51), qF 53 46 (.sslice 47 (some 48) (some 52)), qF 54 46 (.mov 11), qF 55 46 (.bin .neq 53 54), qI 56 (.pick 46 (.k (.bool true)) 55)]
def r23_13 : List Ins := [qI 4 (.mov kN), qI 5 (.mov (kI 5))]
def r23_14 : List Ins := [qI 57 (.mov 8), qI 58 (.mov 11), qI 59 (.slen 58), qI 60 (.bin .add 57 59), qI 8 (.mov 60)]
def r23_15 : List Ins := [qI 61 (.mov 8), qI 12 (.mov 61)]
def r23_16 : List Ins := [qI 62 (.mov 12), qI 63 (.mov 1), qI 64 (.slen 63), qI 65 (.bin .lss 62 64), qI 66 (.mov 65), qT 67 66 (.mov 1), qT 68 66 (.mov 12), qT 69 66 (.idx 67 68), qT 70 66 (.bin .neq 69 (.k (.int .u8 59))), qI 71 (.pick 66 70 (.k (.bool false)))]
def r23_17 : List Ins := [qI 72 (.mov 12), qI 73 (.bin .add 72 (kI 1)), qI 12 (.mov 73)]
def r23_18 : List Ins := [qI 75 (.load 5 true 10), qI 76 (.mov 1), qI 77 (.mov 8), qI 78 (.mov 12), qI 79 (.sslice 76 (some 77) (some 78)), qI 80 (.call (.fn 39) [75, 79]), qI 74 (.mov 80), qI 81 (.ext 0 74), qI 82 (.ext 1 74), qI 13 (.mov 81), qI 14 (.mov 82)]
def r23_19 : List Ins := [qI 83 (.mov 14), qI 84 (.un .not 83)]
def r23_20 : List Ins := [qI 4 (.mov kN), qI 5 (.mov (kI 5))]
def r23_21 : List Ins := [qI 85 (.mov 7), qI 86 (.mov 13), qI 87 (.bslice 3 1 [86]), qI 88 (.app 3 1 8 85 87), qI 89 (.mov 12), qI 7 (.mov 88), qI 8 (.mov 89)]
def r23_22 : List Ins := [qI 25 (.mov 9), qI 26 (.bin .add 25 (kI 1)), qI 9 (.mov 26)]
def r23_23 : List Ins := [qI 90 (.mov 8), qI 91 (.mov 1), qI 92 (.slen 91), qI 93 (.bin .neq 90 92), qI 94 (.mov 93), qF 95 94 (.load 1 true 2), qF 96 94 (.mov 7), qF 97 94 (.call (.fn 18) [95, 96]), qF 98 94 (.un .not 97), qI 99 (.pick 94 (.k (.bool true)) 98)]
def r23_24 : List Ins := [qI 4 (.mov kN), qI 5 (.mov (kI 5))]
def r23_25 : List Ins := [qI 100 (.mov 7), qI 4 (.mov 100), qI 5 (.mov (kI 0))]
def x23 : XC := (.seq (.ops false r23_0) (.seq (.seq (.ops false r23_1) (.seq (.ops false r23_2) (.cond (.t 18) (.seq (.ops false r23_3) .ret) .skip))) (.seq (.ops false r23_4) (.seq (.ops false r23_5) (.seq (.seq (.ops false r23_6) (.block 0 (.loop [.gh 7 3 (.int .i64)] ⟨101, [(1, .str), (8, (.int .i64)), (9, (.int .i64))], [(2, .ptr 0 0 0), (7, .row 1)], [.box 24 [.d (.list tS0)], .row 3 (.int .i64) false]⟩ (.seq (.seq (.ops false r23_7) (.cond (.t 24) .skip (.exit 0))) (.seq (.block 1 (.seq (.ops false r23_8) (.seq (.ops false r23_9) (.seq (.seq (.ops false r23_10) (.cond (.t 36) (.ops false r23_11) .skip)) (.seq (.seq (.ops false r23_12) (.cond (.t 56) (.seq (.ops false r23_13) .ret) .skip)) (.seq (.ops false r23_14) (.seq (.ops false r23_15) (.seq (.block 2 (.loop [.gh 7 3 (.int .i64)] ⟨101, [(1, .str), (8, (.int .i64)), (9, (.int .i64)), (12, (.int .i64))], [(2, .ptr 0 0 0), (7, .row 1), (10, .ptr 2 0 0)], [.box 24 [.d (.list tS0)], .row 3 (.int .i64) false, .box 27 [.d .str, .d (.int .i64), .d (.list .str), .d (.int .i64), .d (.int .i64)]]⟩ (.seq (.seq (.ops false r23_16) (.cond (.t 71) .skip (.exit 2))) (.block 3 (.ops false r23_17))))) (.seq (.ops true r23_18) (.seq (.seq (.ops false r23_19) (.cond (.t 84) (.seq (.ops false r23_20) .ret) .skip)) (.ops false r23_21))))))))))) (.ops false r23_22)))))) (.seq (.seq (.ops false r23_23) (.cond (.t 99) (.seq (.ops false r23_24) .ret) .skip)) (.seq (.ops false r23_25) .ret)))))))
theorem F23 : Fn Tryd.prog 23 101 x23.er [.t 4, .t 5] := ⟨Tryd.f23, hcl, Tryd.func23, by kernel_rfl, by kernel_rfl, by kernel_rfl, by kernel_rfl⟩
noncomputable def m23 (a0 : DS1) (a1 : ByteArray) : Option ((List Int) × Int × Unit) :=
 (m15 (a0.1, ())).bind fun y279 =>
 cond (iNe y279.1 0)
 (some (([] : List Int), y279.1, ()))
 (loopO (S := ByteArray × Int × Int × (List DS0) × (List Int) × Unit) (R := (List Int) × Int × Unit) (fun s280 =>
 cond (iLt s280.2.2.1 (lenI s280.2.2.2.1))
 (cond (bnd s280.2.2.1 (lenI s280.2.2.2.1))
 (cond (sFits ((atI s280.2.2.2.1 s280.2.2.1 (ByteArray.empty, 0, [], 0, 0, ())).1) (bs [61]))
 (cond (iLt 0 s280.2.2.1)
 (cond (sFits (bs [59, 32]) (sCat ((atI s280.2.2.2.1 s280.2.2.1 (ByteArray.empty, 0, [], 0, 0, ())).1) (bs [61])))
 (cond (or (cutOk s280.2.1 (iAdd .i64 s280.2.1 (sLen (sCat (bs [59, 32]) (sCat ((atI s280.2.2.2.1 s280.2.2.1 (ByteArray.empty, 0, [], 0, 0, ())).1) (bs [61]))))) (ByteArray.size s280.1)) (not (bEq (iLt (iSub .i64 (sLen s280.1) s280.2.1) (sLen (sCat (bs [59, 32]) (sCat ((atI s280.2.2.2.1 s280.2.2.1 (ByteArray.empty, 0, [], 0, 0, ())).1) (bs [61]))))) false)))
 (cond (cond (iLt (iSub .i64 (sLen s280.1) s280.2.1) (sLen (sCat (bs [59, 32]) (sCat ((atI s280.2.2.2.1 s280.2.2.1 (ByteArray.empty, 0, [], 0, 0, ())).1) (bs [61]))))) true (not (sEq (cutS s280.2.1 (iAdd .i64 s280.2.1 (sLen (sCat (bs [59, 32]) (sCat ((atI s280.2.2.2.1 s280.2.2.1 (ByteArray.empty, 0, [], 0, 0, ())).1) (bs [61]))))) s280.1) (sCat (bs [59, 32]) (sCat ((atI s280.2.2.2.1 s280.2.2.1 (ByteArray.empty, 0, [], 0, 0, ())).1) (bs [61]))))))
 (some (.inr (([] : List Int), 5, ())))
 (loopO (S := ByteArray × Int × Int × Int × (List DS0) × (List Int) × ByteArray × Int × (List ByteArray) × Int × Int × Unit) (R := (ByteArray × Int × Int × (List DS0) × (List Int) × Unit) ⊕ ((List Int) × Int × Unit)) (fun s281 =>
 cond (or (bnd s281.2.2.2.1 (sLen s281.1)) (not (bEq (iLt s281.2.2.2.1 (sLen s281.1)) true)))
 (cond (cond (iLt s281.2.2.2.1 (sLen s281.1)) (iNe (sAt s281.1 s281.2.2.2.1) 59) false)
 (some (.inl (s281.1, s281.2.1, s281.2.2.1, iAdd .i64 s281.2.2.2.1 1, s281.2.2.2.2.1, s281.2.2.2.2.2.1, s281.2.2.2.2.2.2.1, s281.2.2.2.2.2.2.2.1, s281.2.2.2.2.2.2.2.2.1, s281.2.2.2.2.2.2.2.2.2.1, s281.2.2.2.2.2.2.2.2.2.2.1, ())))
 (Option.map Sum.inr (cond (cutOk s281.2.1 s281.2.2.2.1 (ByteArray.size s281.1))
 ((m39 (s281.2.2.2.2.2.2.1, s281.2.2.2.2.2.2.2.1, s281.2.2.2.2.2.2.2.2.1, s281.2.2.2.2.2.2.2.2.2.1, s281.2.2.2.2.2.2.2.2.2.2.1, ()) (cutS s281.2.1 s281.2.2.2.1 s281.1)).bind fun y282 =>
 cond (not y282.2.1)
 (some (.inr (([] : List Int), 5, ())))
 (cond (fits (List.length s281.2.2.2.2.2.1 + List.length ([y282.1] : List Int)) 8)
 (some (.inl (s281.1, s281.2.2.2.1, iAdd .i64 s281.2.2.1 1, s281.2.2.2.2.1, s281.2.2.2.2.2.1 ++ ([y282.1] : List Int), ()))) none)) none))) none)
 (s280.1, iAdd .i64 s280.2.1 (sLen (sCat (bs [59, 32]) (sCat ((atI s280.2.2.2.1 s280.2.2.1 (ByteArray.empty, 0, [], 0, 0, ())).1) (bs [61])))), s280.2.2.1, iAdd .i64 s280.2.1 (sLen (sCat (bs [59, 32]) (sCat ((atI s280.2.2.2.1 s280.2.2.1 (ByteArray.empty, 0, [], 0, 0, ())).1) (bs [61])))), s280.2.2.2.1, s280.2.2.2.2.1, (atI s280.2.2.2.1 s280.2.2.1 (ByteArray.empty, 0, [], 0, 0, ())).1, (atI s280.2.2.2.1 s280.2.2.1 (ByteArray.empty, 0, [], 0, 0, ())).2.1, (atI s280.2.2.2.1 s280.2.2.1 (ByteArray.empty, 0, [], 0, 0, ())).2.2.1, (atI s280.2.2.2.1 s280.2.2.1 (ByteArray.empty, 0, [], 0, 0, ())).2.2.2.1, (atI s280.2.2.2.1 s280.2.2.1 (ByteArray.empty, 0, [], 0, 0, ())).2.2.2.2.1, ()))) none) none)
 (cond (or (cutOk s280.2.1 (iAdd .i64 s280.2.1 (sLen (sCat ((atI s280.2.2.2.1 s280.2.2.1 (ByteArray.empty, 0, [], 0, 0, ())).1) (bs [61])))) (ByteArray.size s280.1)) (not (bEq (iLt (iSub .i64 (sLen s280.1) s280.2.1) (sLen (sCat ((atI s280.2.2.2.1 s280.2.2.1 (ByteArray.empty, 0, [], 0, 0, ())).1) (bs [61])))) false)))
 (cond (cond (iLt (iSub .i64 (sLen s280.1) s280.2.1) (sLen (sCat ((atI s280.2.2.2.1 s280.2.2.1 (ByteArray.empty, 0, [], 0, 0, ())).1) (bs [61])))) true (not (sEq (cutS s280.2.1 (iAdd .i64 s280.2.1 (sLen (sCat ((atI s280.2.2.2.1 s280.2.2.1 (ByteArray.empty, 0, [], 0, 0, ())).1) (bs [61])))) s280.1) (sCat ((atI s280.2.2.2.1 s280.2.2.1 (ByteArray.empty, 0, [], 0, 0, ())).1) (bs [61])))))
 (some (.inr (([] : List Int), 5, ())))
 (loopO (S := ByteArray × Int × Int × Int × (List DS0) × (List Int) × ByteArray × Int × (List ByteArray) × Int × Int × Unit) (R := (ByteArray × Int × Int × (List DS0) × (List Int) × Unit) ⊕ ((List Int) × Int × Unit)) (fun s283 =>
 cond (or (bnd s283.2.2.2.1 (sLen s283.1)) (not (bEq (iLt s283.2.2.2.1 (sLen s283.1)) true)))
 (cond (cond (iLt s283.2.2.2.1 (sLen s283.1)) (iNe (sAt s283.1 s283.2.2.2.1) 59) false)
 (some (.inl (s283.1, s283.2.1, s283.2.2.1, iAdd .i64 s283.2.2.2.1 1, s283.2.2.2.2.1, s283.2.2.2.2.2.1, s283.2.2.2.2.2.2.1, s283.2.2.2.2.2.2.2.1, s283.2.2.2.2.2.2.2.2.1, s283.2.2.2.2.2.2.2.2.2.1, s283.2.2.2.2.2.2.2.2.2.2.1, ())))
 (Option.map Sum.inr (cond (cutOk s283.2.1 s283.2.2.2.1 (ByteArray.size s283.1))
 ((m39 (s283.2.2.2.2.2.2.1, s283.2.2.2.2.2.2.2.1, s283.2.2.2.2.2.2.2.2.1, s283.2.2.2.2.2.2.2.2.2.1, s283.2.2.2.2.2.2.2.2.2.2.1, ()) (cutS s283.2.1 s283.2.2.2.1 s283.1)).bind fun y284 =>
 cond (not y284.2.1)
 (some (.inr (([] : List Int), 5, ())))
 (cond (fits (List.length s283.2.2.2.2.2.1 + List.length ([y284.1] : List Int)) 8)
 (some (.inl (s283.1, s283.2.2.2.1, iAdd .i64 s283.2.2.1 1, s283.2.2.2.2.1, s283.2.2.2.2.2.1 ++ ([y284.1] : List Int), ()))) none)) none))) none)
 (s280.1, iAdd .i64 s280.2.1 (sLen (sCat ((atI s280.2.2.2.1 s280.2.2.1 (ByteArray.empty, 0, [], 0, 0, ())).1) (bs [61]))), s280.2.2.1, iAdd .i64 s280.2.1 (sLen (sCat ((atI s280.2.2.2.1 s280.2.2.1 (ByteArray.empty, 0, [], 0, 0, ())).1) (bs [61]))), s280.2.2.2.1, s280.2.2.2.2.1, (atI s280.2.2.2.1 s280.2.2.1 (ByteArray.empty, 0, [], 0, 0, ())).1, (atI s280.2.2.2.1 s280.2.2.1 (ByteArray.empty, 0, [], 0, 0, ())).2.1, (atI s280.2.2.2.1 s280.2.2.1 (ByteArray.empty, 0, [], 0, 0, ())).2.2.1, (atI s280.2.2.2.1 s280.2.2.1 (ByteArray.empty, 0, [], 0, 0, ())).2.2.2.1, (atI s280.2.2.2.1 s280.2.2.1 (ByteArray.empty, 0, [], 0, 0, ())).2.2.2.2.1, ()))) none)) none) none)
 (Option.map Sum.inr (cond (iNe s280.2.1 (sLen s280.1))
 (some (([] : List Int), 5, ()))
 ((m18 (s280.2.2.2.1, ()) s280.2.2.2.2.1).bind fun y285 =>
 cond (not y285.1)
 (some (([] : List Int), 5, ()))
 (some (s280.2.2.2.2.1, 0, ()))))))
 (a1, 0, 0, a0.1, ([] : List Int), ()))
noncomputable def cfg23 (G : GP) : Cfg := ⟨ttab, (gtab G), [i15, i18, i39], []⟩
theorem eqn23 (G : GP) (x : DS1 × ByteArray × Unit) : xfun (cfg23 G) x23 101 [.t 4, .t 5] [tS1, .str] [(.list (.int .i64)), (.int .i64)] x = m23 x.1 x.2.1 := by kernel_rfl
noncomputable def i23 : PI := ⟨23, [tS1, .str], [(.list (.int .i64)), (.int .i64)], fun (x : DS1 × ByteArray × Unit) => m23 x.1 x.2.1⟩
theorem oki23 {G : GP} : POk Tryd.prog (gx (gtab G)) i23 := pok mixed (cfg_p oki15 (cfg_p oki18 (cfg_p oki39 (cfg_nil _ _))) : CfgOk _ (cfg23 G)) F23 (eqn23 G)
/- 7 treaty/treatylaw06.SchemaParse -/
def r7_0 : List Ins := [qI 12 (.mov (.k (.bool false)))]
def r7_1 : List Ins := [qI 21 (.mov 0), qI 22 (.slen 21), qI 23 (.bin .gtr 22 (kI 300))]
def r7_2 : List Ins := [qI 24 (.call (.fn 8) []), qI 12 (.mov 24)]
def r7_3 : List Ins := [qI 25 (.mov 1), qI 26 (.call (.fn 9) [25]), qI 13 (.alloc 24 (.agg #[.slice none 0 0])), qN (.store 1 13 26)]
def r7_4 : List Ins := [qI 28 (.load 1 true 13), qI 29 (.mov 0), qI 30 (.call (.fn 21) [28, 29]), qI 27 (.mov 30), qI 31 (.ext 0 27), qI 32 (.ext 1 27), qI 14 (.mov 31), qI 15 (.mov 32)]
def r7_5 : List Ins := [qI 34 (.load 1 true 13), qI 35 (.mov 0), qI 36 (.call (.fn 23) [34, 35]), qI 33 (.mov 36), qI 37 (.ext 0 33), qI 38 (.ext 1 33), qI 16 (.mov 37), qI 17 (.mov 38)]
def r7_6 : List Ins := [qI 39 (.mov 14), qI 40 (.mov 16), qI 41 (.call (.fn 22) [39, 40]), qI 42 (.un .not 41), qI 43 (.mov 42), qF 44 43 (.mov 15), qF 45 43 (.mov 17), qF 46 43 (.bin .neq 44 45), qI 47 (.pick 43 (.k (.bool true)) 46)]
def r7_7 : List Ins := [qI 12 (.mov (.k (.bool false)))]
def r7_8 : List (Nat × Ins) := [(1, qI 49 (.load 1 true 13)),
(0, qI 50 (.mov 2)),
(2, qI 51 (.call (.fn 11) [50])),
(1, qI 52 (.load 1 true 13)),
(2, qI 53 (.call (.fn 16) [51, 52])),
(0, qI 54 (.call (.fn 20) [49, 53])),
(0, qI 48 (.mov 54)),
(0, qI 55 (.ext 0 48)),
(0, qI 56 (.ext 1 48)),
(0, qI 18 (.mov 55)),
(0, qI 19 (.mov 56))]
def r7_9 : List Ins := [qI 57 (.mov 3), qI 58 (.mov 18), qI 59 (.slen 58), qI 60 (.call (.fn 10) [57, 59]), qI 20 (.mov 60)]
def r7_10 : List Ins := [qI 61 (.mov 5), qI 62 (.bin .rem 61 (.k (.int .u8 3)))]
def r7_11 : List Ins := [qI 64 (.bin .eql 62 (.k (.int .u8 0))), qI 63 (.mov 64)]
def r7_12 : List Ins := [qI 65 (.mov 18), qI 66 (.mov 20), qI 67 (.sslice 65 none (some 66)), qI 68 (.mov 4), qI 69 (.bslice 5 1 [68]), qI 70 (.b2s 69), qI 71 (.bin .add 67 70), qI 72 (.mov 18), qI 73 (.mov 20), qI 74 (.bin .add 73 (kI 1)), qI 75 (.sslice 72 (some 74) none), qI 76 (.bin .add 71 75), qI 18 (.mov 76)]
def r7_13 : List Ins := [qI 78 (.bin .eql 62 (.k (.int .u8 1))), qI 77 (.mov 78)]
def r7_14 : List Ins := [qI 79 (.mov 18), qI 80 (.mov 20), qI 81 (.sslice 79 none (some 80)), qI 82 (.mov 18), qI 83 (.mov 20), qI 84 (.bin .add 83 (kI 1)), qI 85 (.sslice 82 (some 84) none), qI 86 (.bin .add 81 85), qI 18 (.mov 86)]
def r7_15 : List Ins := [qI 88 (.bin .eql 62 (.k (.int .u8 2))), qI 87 (.mov 88)]
def r7_16 : List Ins := [qI 89 (.mov 18), qI 90 (.mov 20), qI 91 (.sslice 89 none (some 90)), qI 92 (.mov 4), qI 93 (.bslice 5 1 [92]), qI 94 (.b2s 93), qI 95 (.bin .add 91 94), qI 96 (.mov 18), qI 97 (.mov 20), qI 98 (.sslice 96 (some 97) none), qI 99 (.bin .add 95 98), qI 18 (.mov 99)]
def r7_17 : List Ins := [qI 101 (.load 1 true 13), qI 102 (.mov 18), qI 103 (.call (.fn 21) [101, 102]), qI 100 (.mov 103), qI 104 (.ext 0 100), qI 105 (.ext 1 100), qI 14 (.mov 104), qI 15 (.mov 105)]
def r7_18 : List Ins := [qI 107 (.load 1 true 13), qI 108 (.mov 18), qI 109 (.call (.fn 23) [107, 108]), qI 106 (.mov 109), qI 110 (.ext 0 106), qI 111 (.ext 1 106), qI 16 (.mov 110), qI 17 (.mov 111)]
def r7_19 : List Ins := [qI 112 (.mov 14), qI 113 (.mov 16), qI 114 (.call (.fn 22) [112, 113]), qI 115 (.mov 114), qT 116 115 (.mov 15), qT 117 115 (.mov 17), qT 118 115 (.bin .eql 116 117), qI 119 (.pick 115 118 (.k (.bool false))), qI 120 (.mov 119), qT 121 120 (.call (.fn 8) []), qI 122 (.pick 120 121 (.k (.bool false))), qI 12 (.mov 122)]
def x7 : XC := (.seq (.ops false r7_0) (.seq (.seq (.ops false r7_1) (.cond (.t 23) (.seq (.ops false r7_2) .ret) .skip)) (.seq (.ops false r7_3) (.seq (.ops false r7_4) (.seq (.ops false r7_5) (.seq (.seq (.ops false r7_6) (.cond (.t 47) (.seq (.ops false r7_7) .ret) .skip)) (.seq (.rops [] r7_8) (.seq (.ops false r7_9) (.seq (.seq (.ops false r7_10) (.block 0 (.seq (.ops false r7_11) (.cond (.t 63) (.ops true r7_12) (.seq (.ops false r7_13) (.cond (.t 77) (.ops true r7_14) (.seq (.ops false r7_15) (.cond (.t 87) (.ops true r7_16) .skip)))))))) (.seq (.ops false r7_17) (.seq (.ops false r7_18) (.seq (.ops false r7_19) .ret))))))))))))
theorem F7 : Fn Tryd.prog 7 123 x7.er [.t 12] := ⟨Tryd.f7, hcl, Tryd.func7, by kernel_rfl, by kernel_rfl, by kernel_rfl, by kernel_rfl⟩
noncomputable def m7 (a0 : ByteArray) (a1 : Int) (a2 : List Int) (a3 : Int) (a4 : Int) (a5 : Int) : Option (Bool × Unit) :=
 cond (iLt 300 (sLen a0))
 ((m8).bind fun y244 =>
 some (y244.1, ()))
 ((m9 a1).bind fun y245 =>
 (m21 (y245.1.1, ()) a0).bind fun y246 =>
 (m23 (y245.1.1, ()) a0).bind fun y286 =>
 (m22 y246.1 y286.1).bind fun y287 =>
 cond (cond (not y287.1) true (iNe y246.2.1 y286.2.1))
 (some (false, ()))
 ((m11 a2).bind fun y288 =>
 (m16 (y245.1.1, ()) y288.1 y288.2.1).bind fun y289 =>
 (m20 (y245.1.1, ()) y289.2.2.1).bind fun y290 =>
 (m10 a3 (sLen y290.1)).bind fun y291 =>
 cond (iNe 3 0)
 (cond (iEq (iRem a5 3) 0)
 (cond (cutOk 0 y291.1 (ByteArray.size y290.1))
 (cond (sFits (cutS 0 y291.1 y290.1) (bsI ([a4] : List Int)))
 (cond (cutOk (iAdd .i64 y291.1 1) ((ByteArray.size y290.1 : Nat) : Int) (ByteArray.size y290.1))
 (cond (sFits (sCat (cutS 0 y291.1 y290.1) (bsI ([a4] : List Int))) (cutS (iAdd .i64 y291.1 1) ((ByteArray.size y290.1 : Nat) : Int) y290.1))
 ((m21 (y245.1.1, ()) (sCat (sCat (cutS 0 y291.1 y290.1) (bsI ([a4] : List Int))) (cutS (iAdd .i64 y291.1 1) ((ByteArray.size y290.1 : Nat) : Int) y290.1))).bind fun y292 =>
 (m23 (y245.1.1, ()) (sCat (sCat (cutS 0 y291.1 y290.1) (bsI ([a4] : List Int))) (cutS (iAdd .i64 y291.1 1) ((ByteArray.size y290.1 : Nat) : Int) y290.1))).bind fun y293 =>
 (m22 y292.1 y293.1).bind fun y294 =>
 cond (cond y294.1 (iEq y292.2.1 y293.2.1) false)
 ((m8).bind fun y295 =>
 some (y295.1, ()))
 (some (false, ()))) none) none) none) none)
 (cond (iEq (iRem a5 3) 1)
 (cond (cutOk 0 y291.1 (ByteArray.size y290.1))
 (cond (cutOk (iAdd .i64 y291.1 1) ((ByteArray.size y290.1 : Nat) : Int) (ByteArray.size y290.1))
 (cond (sFits (cutS 0 y291.1 y290.1) (cutS (iAdd .i64 y291.1 1) ((ByteArray.size y290.1 : Nat) : Int) y290.1))
 ((m21 (y245.1.1, ()) (sCat (cutS 0 y291.1 y290.1) (cutS (iAdd .i64 y291.1 1) ((ByteArray.size y290.1 : Nat) : Int) y290.1))).bind fun y296 =>
 (m23 (y245.1.1, ()) (sCat (cutS 0 y291.1 y290.1) (cutS (iAdd .i64 y291.1 1) ((ByteArray.size y290.1 : Nat) : Int) y290.1))).bind fun y297 =>
 (m22 y296.1 y297.1).bind fun y298 =>
 cond (cond y298.1 (iEq y296.2.1 y297.2.1) false)
 ((m8).bind fun y299 =>
 some (y299.1, ()))
 (some (false, ()))) none) none) none)
 (cond (iEq (iRem a5 3) 2)
 (cond (cutOk 0 y291.1 (ByteArray.size y290.1))
 (cond (sFits (cutS 0 y291.1 y290.1) (bsI ([a4] : List Int)))
 (cond (cutOk y291.1 ((ByteArray.size y290.1 : Nat) : Int) (ByteArray.size y290.1))
 (cond (sFits (sCat (cutS 0 y291.1 y290.1) (bsI ([a4] : List Int))) (cutS y291.1 ((ByteArray.size y290.1 : Nat) : Int) y290.1))
 ((m21 (y245.1.1, ()) (sCat (sCat (cutS 0 y291.1 y290.1) (bsI ([a4] : List Int))) (cutS y291.1 ((ByteArray.size y290.1 : Nat) : Int) y290.1))).bind fun y300 =>
 (m23 (y245.1.1, ()) (sCat (sCat (cutS 0 y291.1 y290.1) (bsI ([a4] : List Int))) (cutS y291.1 ((ByteArray.size y290.1 : Nat) : Int) y290.1))).bind fun y301 =>
 (m22 y300.1 y301.1).bind fun y302 =>
 cond (cond y302.1 (iEq y300.2.1 y301.2.1) false)
 ((m8).bind fun y303 =>
 some (y303.1, ()))
 (some (false, ()))) none) none) none) none)
 ((m21 (y245.1.1, ()) y290.1).bind fun y304 =>
 (m23 (y245.1.1, ()) y290.1).bind fun y305 =>
 (m22 y304.1 y305.1).bind fun y306 =>
 cond (cond y306.1 (iEq y304.2.1 y305.2.1) false)
 ((m8).bind fun y307 =>
 some (y307.1, ()))
 (some (false, ())))))) none))
noncomputable def cfg7 (G : GP) : Cfg := ⟨ttab, (gtab G), [i10, i20, i21, i22, i23, i8, i9], [h11, h16]⟩
theorem eqn7 (G : GP) (x : ByteArray × Int × (List Int) × Int × Int × Int × Unit) : xfun (cfg7 G) x7 123 [.t 12] [.str, (.int .i64), (.list (.int .i64)), (.int .i64), (.int .u8), (.int .u8)] [.bool] x = m7 x.1 x.2.1 x.2.2.1 x.2.2.2.1 x.2.2.2.2.1 x.2.2.2.2.2.1 := by kernel_rfl
noncomputable def i7 : PI := ⟨7, [.str, (.int .i64), (.list (.int .i64)), (.int .i64), (.int .u8), (.int .u8)], [.bool], fun (x : ByteArray × Int × (List Int) × Int × Int × Int × Unit) => m7 x.1 x.2.1 x.2.2.1 x.2.2.2.1 x.2.2.2.2.1 x.2.2.2.2.2.1⟩
theorem oki7 {G : GP} : POk Tryd.prog (gx (gtab G)) i7 := pok mixed (cfg_p oki10 (cfg_p oki20 (cfg_p oki21 (cfg_p oki22 (cfg_p oki23 (cfg_p oki8 (cfg_p oki9 (cfg_h okh11 (cfg_h okh16 (cfg_nil _ _))))))))) : CfgOk _ (cfg7 G)) F7 (eqn7 G)
end Abs
end Go.Proofs.YtgkijjppdaeikaaDoor
