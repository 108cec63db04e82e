/- Merged and trimmed by a program: ModelsA. -/
import Derived.Test.YtfjhljjginlobaaDoorZUE
import Derived.Test.YtfjhljjginlobaaDoorProg
import Derived.KernelRfl
set_option linter.unusedVariables false
set_option linter.unusedSimpArgs false
namespace Go.Proofs.YtfjhljjginlobaaDoor
namespace Abs
set_option maxRecDepth 100000
theorem mixed : Tryd.prog.follows .mixedOrders = true := by kernel_rfl
abbrev tS0 : Ty := .tup [(.int .i64), (.int .i64), (.int .i64), (.int .i64), (.int .i64), (.int .i64), (.int .i64), (.int .i64), (.int .i64), (.int .i64)]
abbrev DS0 : Type := Int × Int × Int × Int × Int × Int × Int × Int × Int × Int × Unit
abbrev tS1 : Ty := .tup [(.int .i64), (.list tS0), (.int .i64), (.int .i64), (.int .i64), (.int .i64)]
abbrev DS1 : Type := Int × (List DS0) × Int × Int × Int × Int × Unit
abbrev tS2 : Ty := .tup [(.int .i64), (.int .i64), (.int .i64), tS1]
abbrev DS2 : Type := Int × Int × Int × DS1 × Unit
abbrev tS3 : Ty := .tup [(.int .i64), (.int .i64), (.int .i64)]
abbrev DS3 : Type := Int × Int × Int × Unit
abbrev tS4 : Ty := .tup [.str, (.int .i64), (.int .i64), (.int .i64), tS3]
abbrev DS4 : Type := ByteArray × Int × Int × Int × DS3 × Unit
abbrev tS5 : Ty := .tup [tS4, tS4, tS4, tS4, tS4, tS4, tS4, tS4, tS4, tS4, tS4]
abbrev DS5 : Type := DS4 × DS4 × DS4 × DS4 × DS4 × DS4 × DS4 × DS4 × DS4 × DS4 × DS4 × Unit
abbrev tS6 : Ty := .tup [(.int .i64), (.int .i64)]
abbrev DS6 : Type := Int × Int × Unit
abbrev tS7 : Ty := .tup [(.int .i64), (.int .i64), tS6, (.list (.int .i64)), (.list (.int .i64)), (.int .i64), (.int .i64), (.int .i64), (.int .i64), (.int .i64), (.int .i64), (.int .i64), (.int .i64), (.int .i64), (.int .i64), (.list (.int .i64)), .bool, (.int .i64), (.list (.int .i64)), (.list tS6)]
abbrev DS7 : Type := Int × Int × DS6 × (List Int) × (List Int) × Int × Int × Int × Int × Int × Int × Int × Int × Int × Int × (List Int) × Bool × Int × (List Int) × (List DS6) × Unit
abbrev tS8 : Ty := .tup [(.int .u64), (.int .u64), (.int .u64), (.int .u64), (.int .u64), (.int .u64), (.int .u64), (.int .u64), (.int .u64), (.int .u64), (.int .u64), (.int .u64), (.int .u64), (.int .u64), (.int .u64), (.int .u64), (.int .u64), (.int .u64), (.int .u64), (.int .u64)]
abbrev DS8 : Type := Int × Int × Int × Int × Int × Int × Int × Int × Int × Int × Int × Int × Int × Int × Int × Int × Int × Int × Int × Int × Unit
abbrev tS9 : Ty := .tup [(.int .i64), (.list tS7), (.list tS6), (.list tS3)]
abbrev DS9 : Type := Int × (List DS7) × (List DS6) × (List DS3) × Unit
instance (n : Nat) : OfNat Opd n := ⟨.t n⟩
@[reducible] def qI (d : Nat) (i : I) : Ins := ⟨some d, none, i⟩
@[reducible] def qT (d g : Nat) (i : I) : Ins := ⟨some d, some (g, true), i⟩
@[reducible] def qF (d g : Nat) (i : I) : Ins := ⟨some d, some (g, false), i⟩
@[reducible] def qN (i : I) : Ins := ⟨none, none, i⟩
@[reducible] def kN : Opd := .k (.slice none 0 0)
@[reducible] def kI (n : Int) : Opd := .k (.int .i64 n)
def ttab : Nat → Option Ty := fun n => if Nat.beq n 3 = true then some (.int .i64) else if Nat.beq n 5 = true then some (.int .u8) else if Nat.beq n 9 = true then some .str else if Nat.beq n 29 = true then some tS2 else if Nat.beq n 76 = true then some tS7 else if Nat.beq n 83 = true then some tS4 else if Nat.beq n 98 = true then some tS0 else if Nat.beq n 118 = true then some tS6 else none
structure GP where
  m : Int
def gtab (G : GP) : GXT := fun n => if Nat.beq n 0 = true then some ⟨tS5, (show DS5 from (((bs [114, 101, 112, 111, 114, 116]), 1, 1, 0, (0, 0, 0, ()), ()), ((bs [99, 108, 111, 115, 101]), 1, 2, 0, (0, 0, 0, ()), ()), ((bs [115, 101, 116, 116, 108, 101]), 1, 3, 2, (3, 5, 0, ()), ()), ((bs [99, 111, 109, 109, 117, 116, 101]), 1, 4, 3, (3, 5, 6, ()), ()), ((bs [116, 114, 97, 110, 115, 102, 101, 114]), 1, 5, 2, (3, 4, 0, ()), ()), ((bs [116, 105, 99, 107]), 2, 0, 1, (1, 0, 0, ()), ()), ((bs [100, 101, 108, 105, 118, 101, 114]), 3, 0, 1, (2, 0, 0, ()), ()), ((bs [108, 111, 115, 101]), 4, 0, 1, (2, 0, 0, ()), ()), ((bs [114, 101, 112, 101, 97, 116]), 5, 0, 1, (2, 0, 0, ()), ()), ((bs [99, 114, 97, 115, 104]), 6, 0, 2, (1, 2, 0, ()), ()), ((bs [114, 101, 115, 116, 97, 114, 116]), 7, 0, 1, (1, 0, 0, ()), ()), ()))⟩ else if Nat.beq n 1 = true then some ⟨(.int .i64), (show Int from G.m)⟩ else if Nat.beq n 2 = true then some ⟨tS8, (show DS8 from (1, 10, 100, 1000, 10000, 100000, 1000000, 10000000, 100000000, 1000000000, 10000000000, 100000000000, 1000000000000, 10000000000000, 100000000000000, 1000000000000000, 10000000000000000, 100000000000000000, 1000000000000000000, 10000000000000000000, ()))⟩ else none
def hcl : List Nat := [14, 15, 16, 17, 18, 25, 26, 27, 28, 29, 30, 31, 34, 35, 47, 51, 52, 53, 54, 55, 56, 57, 61, 62, 99, 100, 101, 102, 103, 106, 107]
theorem okiCut {G : GP} : POk Tryd.prog (gx (gtab G)) iCut := okhCut (m := G.m) (by rfl)
theorem okiHas {G : GP} : POk Tryd.prog (gx (gtab G)) iHas := okhHas (m := G.m) (by rfl)
theorem okiCount {G : GP} : POk Tryd.prog (gx (gtab G)) iCount := okhCount
noncomputable def mB62_0 (a0 : List Int) : Option ((List Int) × Unit) := some (a0, ())
noncomputable def hB62_0 : HI := iCopy 59 []
theorem okhB62_0 {G : GP} : HOk Tryd.prog (gx (gtab G)) hB62_0 := okhCopy 59 [] (by kernel_rfl)
theorem okiItoa {G : GP} : POk Tryd.prog (gx (gtab G)) iItoa := okhItoa (by rfl)
noncomputable def mB18_0 (a0 : List Int) : Option (ByteArray × (List Int) × Unit) := some (bsI a0, a0, ())
noncomputable def hB18_0 : HI := iStr 59 []
theorem okhB18_0 {G : GP} : HOk Tryd.prog (gx (gtab G)) hB18_0 := okhStr 59 []
def r43_0 : List Ins := [qI 2 (.alloc 83 (.agg #[.string (bs []), .int .i64 0, .int .i64 0, .int .i64 0, .int .i64 0, .int .i64 0, .int .i64 0])), qI 3 (.mov (.k (.bool false)))]
def r43_1 : List Ins := [qI 6 (.load 77 true (.g 0)), qI 7 (.mov (kI 0))]
def r43_2 : List Ins := [qI 8 (.bin .lss 7 (kI 11))]
def r43_3 : List Ins := [qI 9 (.aidx 7 true 11 6 7), qI 5 (.alloc 83 (.agg #[.string (bs []), .int .i64 0, .int .i64 0, .int .i64 0, .int .i64 0, .int .i64 0, .int .i64 0])), qN (.store 7 5 9)]
def r43_4 : List Ins := [qI 10 (.faddr 0 5), qI 11 (.load 1 false 10), qI 12 (.mov 0), qI 13 (.bin .eql 11 12)]
def r43_5 : List Ins := [qI 14 (.load 7 true 5), qN (.store 7 2 14), qI 3 (.mov (.k (.bool true)))]
def r43_6 : List Ins := [qI 15 (.bin .add 7 (kI 1)), qI 7 (.mov 15)]
def r43_7 : List Ins := [qI 16 (.build [.string (bs []), .int .i64 0, .int .i64 0, .int .i64 0, .int .i64 0, .int .i64 0, .int .i64 0] []), qN (.store 7 2 16), qI 3 (.mov (.k (.bool false)))]
def x43 : XC := (.seq (.ops false r43_0) (.seq (.seq (.ops false r43_1) (.block 0 (.loop [] ⟨17, [(0, .str), (6, tS5), (7, (.int .i64))], [(2, .ptr 0 0 0)], [.box 83 [.d .str, .d (.int .i64), .d (.int .i64), .d (.int .i64), .d (.int .i64), .d (.int .i64), .d (.int .i64)]]⟩ (.seq (.ops false r43_2) (.seq (.cond (.t 8) .skip (.exit 0)) (.seq (.block 1 (.seq (.ops false r43_3) (.seq (.ops false r43_4) (.cond (.t 13) (.seq (.ops false r43_5) .ret) .skip)))) (.ops false r43_6))))))) (.seq (.ops false r43_7) .ret)))
theorem F43 : Fn Tryd.prog 43 17 x43.er [.c 2 7 true, .t 3] := ⟨Tryd.f43, hcl, Tryd.func43, by kernel_rfl, by kernel_rfl, by kernel_rfl, by kernel_rfl⟩
noncomputable def m43 (a0 : ByteArray) : Option (DS4 × Bool × Unit) :=
 loopO (S := ByteArray × DS5 × Int × ByteArray × Int × Int × Int × Int × Int × Int × Unit) (R := DS4 × Bool × Unit) (fun s6 =>
 cond (iLt s6.2.2.1 11)
 (cond (bnd s6.2.2.1 ((11 : Nat) : Int))
 (cond (sEq ((atI ([s6.2.1.1, s6.2.1.2.1, s6.2.1.2.2.1, s6.2.1.2.2.2.1, s6.2.1.2.2.2.2.1, s6.2.1.2.2.2.2.2.1, s6.2.1.2.2.2.2.2.2.1, s6.2.1.2.2.2.2.2.2.2.1, s6.2.1.2.2.2.2.2.2.2.2.1, s6.2.1.2.2.2.2.2.2.2.2.2.1, s6.2.1.2.2.2.2.2.2.2.2.2.2.1] : List DS4) s6.2.2.1 (ByteArray.empty, 0, 0, 0, (0, 0, 0, ()), ())).1) s6.1)
 (some (.inr (((atI ([s6.2.1.1, s6.2.1.2.1, s6.2.1.2.2.1, s6.2.1.2.2.2.1, s6.2.1.2.2.2.2.1, s6.2.1.2.2.2.2.2.1, s6.2.1.2.2.2.2.2.2.1, s6.2.1.2.2.2.2.2.2.2.1, s6.2.1.2.2.2.2.2.2.2.2.1, s6.2.1.2.2.2.2.2.2.2.2.2.1, s6.2.1.2.2.2.2.2.2.2.2.2.2.1] : List DS4) s6.2.2.1 (ByteArray.empty, 0, 0, 0, (0, 0, 0, ()), ())).1, (atI ([s6.2.1.1, s6.2.1.2.1, s6.2.1.2.2.1, s6.2.1.2.2.2.1, s6.2.1.2.2.2.2.1, s6.2.1.2.2.2.2.2.1, s6.2.1.2.2.2.2.2.2.1, s6.2.1.2.2.2.2.2.2.2.1, s6.2.1.2.2.2.2.2.2.2.2.1, s6.2.1.2.2.2.2.2.2.2.2.2.1, s6.2.1.2.2.2.2.2.2.2.2.2.2.1] : List DS4) s6.2.2.1 (ByteArray.empty, 0, 0, 0, (0, 0, 0, ()), ())).2.1, (atI ([s6.2.1.1, s6.2.1.2.1, s6.2.1.2.2.1, s6.2.1.2.2.2.1, s6.2.1.2.2.2.2.1, s6.2.1.2.2.2.2.2.1, s6.2.1.2.2.2.2.2.2.1, s6.2.1.2.2.2.2.2.2.2.1, s6.2.1.2.2.2.2.2.2.2.2.1, s6.2.1.2.2.2.2.2.2.2.2.2.1, s6.2.1.2.2.2.2.2.2.2.2.2.2.1] : List DS4) s6.2.2.1 (ByteArray.empty, 0, 0, 0, (0, 0, 0, ()), ())).2.2.1, (atI ([s6.2.1.1, s6.2.1.2.1, s6.2.1.2.2.1, s6.2.1.2.2.2.1, s6.2.1.2.2.2.2.1, s6.2.1.2.2.2.2.2.1, s6.2.1.2.2.2.2.2.2.1, s6.2.1.2.2.2.2.2.2.2.1, s6.2.1.2.2.2.2.2.2.2.2.1, s6.2.1.2.2.2.2.2.2.2.2.2.1, s6.2.1.2.2.2.2.2.2.2.2.2.2.1] : List DS4) s6.2.2.1 (ByteArray.empty, 0, 0, 0, (0, 0, 0, ()), ())).2.2.2.1, (((atI ([s6.2.1.1, s6.2.1.2.1, s6.2.1.2.2.1, s6.2.1.2.2.2.1, s6.2.1.2.2.2.2.1, s6.2.1.2.2.2.2.2.1, s6.2.1.2.2.2.2.2.2.1, s6.2.1.2.2.2.2.2.2.2.1, s6.2.1.2.2.2.2.2.2.2.2.1, s6.2.1.2.2.2.2.2.2.2.2.2.1, s6.2.1.2.2.2.2.2.2.2.2.2.2.1] : List DS4) s6.2.2.1 (ByteArray.empty, 0, 0, 0, (0, 0, 0, ()), ())).2.2.2.2.1).1, ((atI ([s6.2.1.1, s6.2.1.2.1, s6.2.1.2.2.1, s6.2.1.2.2.2.1, s6.2.1.2.2.2.2.1, s6.2.1.2.2.2.2.2.1, s6.2.1.2.2.2.2.2.2.1, s6.2.1.2.2.2.2.2.2.2.1, s6.2.1.2.2.2.2.2.2.2.2.1, s6.2.1.2.2.2.2.2.2.2.2.2.1, s6.2.1.2.2.2.2.2.2.2.2.2.2.1] : List DS4) s6.2.2.1 (ByteArray.empty, 0, 0, 0, (0, 0, 0, ()), ())).2.2.2.2.1).2.1, ((atI ([s6.2.1.1, s6.2.1.2.1, s6.2.1.2.2.1, s6.2.1.2.2.2.1, s6.2.1.2.2.2.2.1, s6.2.1.2.2.2.2.2.1, s6.2.1.2.2.2.2.2.2.1, s6.2.1.2.2.2.2.2.2.2.1, s6.2.1.2.2.2.2.2.2.2.2.1, s6.2.1.2.2.2.2.2.2.2.2.2.1, s6.2.1.2.2.2.2.2.2.2.2.2.2.1] : List DS4) s6.2.2.1 (ByteArray.empty, 0, 0, 0, (0, 0, 0, ()), ())).2.2.2.2.1).2.2.1, ()), ()), true, ())))
 (some (.inl (s6.1, s6.2.1, iAdd .i64 s6.2.2.1 1, s6.2.2.2.1, s6.2.2.2.2.1, s6.2.2.2.2.2.1, s6.2.2.2.2.2.2.1, s6.2.2.2.2.2.2.2.1, s6.2.2.2.2.2.2.2.2.1, s6.2.2.2.2.2.2.2.2.2.1, ())))) none)
 (some (.inr (((bs []), 0, 0, 0, (0, 0, 0, ()), ()), false, ()))))
 (a0, (((bs [114, 101, 112, 111, 114, 116]), 1, 1, 0, (0, 0, 0, ()), ()), ((bs [99, 108, 111, 115, 101]), 1, 2, 0, (0, 0, 0, ()), ()), ((bs [115, 101, 116, 116, 108, 101]), 1, 3, 2, (3, 5, 0, ()), ()), ((bs [99, 111, 109, 109, 117, 116, 101]), 1, 4, 3, (3, 5, 6, ()), ()), ((bs [116, 114, 97, 110, 115, 102, 101, 114]), 1, 5, 2, (3, 4, 0, ()), ()), ((bs [116, 105, 99, 107]), 2, 0, 1, (1, 0, 0, ()), ()), ((bs [100, 101, 108, 105, 118, 101, 114]), 3, 0, 1, (2, 0, 0, ()), ()), ((bs [108, 111, 115, 101]), 4, 0, 1, (2, 0, 0, ()), ()), ((bs [114, 101, 112, 101, 97, 116]), 5, 0, 1, (2, 0, 0, ()), ()), ((bs [99, 114, 97, 115, 104]), 6, 0, 2, (1, 2, 0, ()), ()), ((bs [114, 101, 115, 116, 97, 114, 116]), 7, 0, 1, (1, 0, 0, ()), ()), ()), 0, (bs []), 0, 0, 0, 0, 0, 0, ())
noncomputable def cfg43 (G : GP) : Cfg := ⟨ttab, (gtab G), [], []⟩
theorem eqn43 (G : GP) (x : ByteArray × Unit) : xfun (cfg43 G) x43 17 [.c 2 7 true, .t 3] [.str] [tS4, .bool] x = m43 x.1 := by kernel_rfl
noncomputable def i43 : PI := ⟨43, [.str], [tS4, .bool], fun (x : ByteArray × Unit) => m43 x.1⟩
theorem oki43 {G : GP} : POk Tryd.prog (gx (gtab G)) i43 := pok mixed (cfg_nil _ _ : CfgOk _ (cfg43 G)) F43 (eqn43 G)
def r61_0 : List Ins := [qI 2 (.alloc 126 (.agg #[.pointer none, .pointer none, .pointer none, .pointer none, .pointer none, .pointer none, .pointer none, .pointer none, .pointer none, .pointer none]))]
def r61_1 : List Ins := [qI 3 (.mov 0), qI 4 (.nck 3), qI 5 (.faddr 0 4), qI 6 (.mov 0), qI 7 (.nck 6), qI 8 (.faddr 1 7), qI 9 (.mov 0), qI 10 (.nck 9), qI 11 (.faddr 2 10), qI 12 (.mov 0), qI 13 (.nck 12), qI 14 (.faddr 3 13), qI 15 (.mov 0), qI 16 (.nck 15), qI 17 (.faddr 4 16), qI 18 (.mov 0), qI 19 (.nck 18), qI 20 (.faddr 5 19), qI 21 (.mov 0), qI 22 (.nck 21), qI 23 (.faddr 6 22), qI 24 (.mov 0), qI 25 (.nck 24), qI 26 (.faddr 7 25), qI 27 (.mov 0), qI 28 (.nck 27), qI 29 (.faddr 8 28), qI 30 (.mov 0), qI 31 (.nck 30), qI 32 (.faddr 9 31), qI 33 (.build [.pointer none, .pointer none, .pointer none, .pointer none, .pointer none, .pointer none, .pointer none, .pointer none, .pointer none, .pointer none] [(0, 1, 5), (1, 1, 8), (2, 1, 11), (3, 1, 14), (4, 1, 17), (5, 1, 20), (6, 1, 23), (7, 1, 26), (8, 1, 29), (9, 1, 32)]), qN (.store 10 2 33)]
def x61 : XC := (.seq (.ops false r61_0) (.seq (.ops true r61_1) .ret))
theorem F61 : Fn Tryd.prog 61 34 x61.er [.c 2 10 true] := ⟨Tryd.f61, hcl, Tryd.func61, by kernel_rfl, by kernel_rfl, by kernel_rfl, by kernel_rfl⟩
noncomputable def m61 (a0 : Int) (a1 : Int) (a2 : Int) (a3 : Int) (a4 : Int) (a5 : Int) (a6 : Int) (a7 : Int) (a8 : Int) (a9 : Int) : Option (Int × Int × Int × Int × Int × Int × Int × Int × Int × Int × Unit) :=
 some (a0, a1, a2, a3, a4, a5, a6, a7, a8, a9, ())
noncomputable def cfg61 (G : GP) : Cfg := ⟨ttab, (gtab G), [], []⟩
def ish61 : Sh := ⟨1, [], [(0, .ptr 0 0 0)], [.box 98 [.d (.int .i64), .d (.int .i64), .d (.int .i64), .d (.int .i64), .d (.int .i64), .d (.int .i64), .d (.int .i64), .d (.int .i64), .d (.int .i64), .d (.int .i64)]]⟩
def osh61 : Sh := ⟨1, [], [(0, .agg [.ptr 0 0 0, .ptr 0 0 1, .ptr 0 0 2, .ptr 0 0 3, .ptr 0 0 4, .ptr 0 0 5, .ptr 0 0 6, .ptr 0 0 7, .ptr 0 0 8, .ptr 0 0 9])], [.box 98 [.d (.int .i64), .d (.int .i64), .d (.int .i64), .d (.int .i64), .d (.int .i64), .d (.int .i64), .d (.int .i64), .d (.int .i64), .d (.int .i64), .d (.int .i64)]]⟩
theorem eqn61 (G : GP) (x : Int × Int × Int × Int × Int × Int × Int × Int × Int × Int × Unit) : xfunH (cfg61 G) x61 34 [.c 2 10 true] [] ish61 osh61 x = m61 x.1 x.2.1 x.2.2.1 x.2.2.2.1 x.2.2.2.2.1 x.2.2.2.2.2.1 x.2.2.2.2.2.2.1 x.2.2.2.2.2.2.2.1 x.2.2.2.2.2.2.2.2.1 x.2.2.2.2.2.2.2.2.2.1 := by kernel_rfl
noncomputable def h61 : HI := ⟨61, ish61, osh61, fun (x : Int × Int × Int × Int × Int × Int × Int × Int × Int × Int × Unit) => m61 x.1 x.2.1 x.2.2.1 x.2.2.2.1 x.2.2.2.2.1 x.2.2.2.2.2.1 x.2.2.2.2.2.2.1 x.2.2.2.2.2.2.2.1 x.2.2.2.2.2.2.2.2.1 x.2.2.2.2.2.2.2.2.2.1⟩
theorem okh61 {G : GP} : HOk Tryd.prog (gx (gtab G)) h61 := hok mixed (cfg_nil _ _ : CfgOk _ (cfg61 G)) F61 (eqn61 G)
def r46_0 : List Ins := [qI 2 (.mov (kI 0)), qI 3 (.mov (.k (.bool false)))]
def r46_1 : List Ins := [qI 6 (.mov 0), qI 7 (.bin .eql 6 (.k (.string (bs [])))), qI 8 (.mov 7), qF 9 8 (.mov 0), qF 10 8 (.slen 9), qF 11 8 (.bin .gtr 10 (kI 1)), qF 12 8 (.mov 11), qT 13 12 (.mov 0), qT 14 12 (.idx 13 (kI 0)), qT 15 12 (.bin .eql 14 (.k (.int .u8 48))), qF 16 8 (.pick 12 15 (.k (.bool false))), qI 17 (.pick 8 (.k (.bool true)) 16)]
def r46_2 : List Ins := [qI 2 (.mov (kI 0)), qI 3 (.mov (.k (.bool false)))]
def r46_3 : List Ins := [qI 4 (.mov (kI 0))]
def r46_4 : List Ins := [qI 18 (.mov 0), qI 19 (.slen 18), qI 20 (.mov (kI 0))]
def r46_5 : List Ins := [qI 21 (.bin .lss 20 19)]
def r46_6 : List Ins := [qI 22 (.mov 20), qI 5 (.mov 22)]
def r46_7 : List Ins := [qI 23 (.mov 0), qI 24 (.mov 5), qI 25 (.idx 23 24), qI 26 (.bin .lss 25 (.k (.int .u8 48))), qI 27 (.mov 26), qF 28 27 (.mov 0), qF 29 27 (.mov 5), qF 30 27 (.idx 28 29), qF 31 27 (.bin .gtr 30 (.k (.int .u8 57))), qI 32 (.pick 27 (.k (.bool true)) 31)]
def r46_8 : List Ins := [qI 2 (.mov (kI 0)), qI 3 (.mov (.k (.bool false)))]
def r46_9 : List Ins := [qI 33 (.mov 4), qI 34 (.bin .mul 33 (kI 10)), qI 35 (.mov 0), qI 36 (.mov 5), qI 37 (.idx 35 36), qI 38 (.bin .sub 37 (.k (.int .u8 48))), qI 39 (.conv .i64 38), qI 40 (.bin .add 34 39), qI 4 (.mov 40)]
def r46_10 : List Ins := [qI 41 (.mov 4), qI 42 (.bin .gtr 41 (kI 17592186044416))]
def r46_11 : List Ins := [qI 2 (.mov (kI 0)), qI 3 (.mov (.k (.bool false)))]
def r46_12 : List Ins := [qI 43 (.bin .add 20 (kI 1)), qI 20 (.mov 43)]
def r46_13 : List Ins := [qI 44 (.mov 4), qI 2 (.mov 44), qI 3 (.mov (.k (.bool true)))]
def x46 : XC := (.seq (.ops false r46_0) (.seq (.seq (.ops false r46_1) (.cond (.t 17) (.seq (.ops false r46_2) .ret) .skip)) (.seq (.ops false r46_3) (.seq (.seq (.ops false r46_4) (.block 0 (.loop [] ⟨45, [(0, .str), (4, (.int .i64)), (19, (.int .i64)), (20, (.int .i64))], [], []⟩ (.seq (.ops false r46_5) (.seq (.cond (.t 21) .skip (.exit 0)) (.seq (.block 1 (.seq (.ops false r46_6) (.seq (.seq (.ops false r46_7) (.cond (.t 32) (.seq (.ops false r46_8) .ret) .skip)) (.seq (.ops false r46_9) (.seq (.ops false r46_10) (.cond (.t 42) (.seq (.ops false r46_11) .ret) .skip)))))) (.ops false r46_12))))))) (.seq (.ops false r46_13) .ret)))))
theorem F46 : Fn Tryd.prog 46 45 x46.er [.t 2, .t 3] := ⟨Tryd.f46, hcl, Tryd.func46, by kernel_rfl, by kernel_rfl, by kernel_rfl, by kernel_rfl⟩
noncomputable def m46 (a0 : ByteArray) : Option (Int × Bool × Unit) :=
 cond (sEq a0 (bs []))
 (some (0, false, ()))
 (cond (or (bnd 0 (sLen a0)) (not (bEq (iLt 1 (sLen a0)) true)))
 (cond (cond (iLt 1 (sLen a0)) (iEq (sAt a0 0) 48) false)
 (some (0, false, ()))
 (loopO (S := ByteArray × Int × Int × Int × Unit) (R := Int × Bool × Unit) (fun s15 =>
 cond (iLt s15.2.2.2.1 s15.2.2.1)
 (cond (bnd s15.2.2.2.1 (sLen s15.1))
 (cond (or (bnd s15.2.2.2.1 (sLen s15.1)) (not (bEq (iLt (sAt s15.1 s15.2.2.2.1) 48) false)))
 (cond (cond (iLt (sAt s15.1 s15.2.2.2.1) 48) true (iLt 57 (sAt s15.1 s15.2.2.2.1)))
 (some (.inr (0, false, ())))
 (cond (bnd s15.2.2.2.1 (sLen s15.1))
 (cond (iLt 17592186044416 (iAdd .i64 (iMul .i64 s15.2.1 10) (IntKind.wrap .i64 (iSub .u8 (sAt s15.1 s15.2.2.2.1) 48))))
 (some (.inr (0, false, ())))
 (some (.inl (s15.1, iAdd .i64 (iMul .i64 s15.2.1 10) (IntKind.wrap .i64 (iSub .u8 (sAt s15.1 s15.2.2.2.1) 48)), s15.2.2.1, iAdd .i64 s15.2.2.2.1 1, ())))) none)) none) none)
 (some (.inr (s15.2.1, true, ()))))
 (a0, 0, sLen a0, 0, ()))) none)
noncomputable def cfg46 (G : GP) : Cfg := ⟨ttab, (gtab G), [], []⟩
theorem eqn46 (G : GP) (x : ByteArray × Unit) : xfun (cfg46 G) x46 45 [.t 2, .t 3] [.str] [(.int .i64), .bool] x = m46 x.1 := by kernel_rfl
noncomputable def i46 : PI := ⟨46, [.str], [(.int .i64), .bool], fun (x : ByteArray × Unit) => m46 x.1⟩
theorem oki46 {G : GP} : POk Tryd.prog (gx (gtab G)) i46 := pok mixed (cfg_nil _ _ : CfgOk _ (cfg46 G)) F46 (eqn46 G)
def r68_0 : List Ins := [qI 2 (.alloc 98 (.agg #[.int .i64 0, .int .i64 0, .int .i64 0, .int .i64 0, .int .i64 0, .int .i64 0, .int .i64 0, .int .i64 0, .int .i64 0, .int .i64 0])), qI 3 (.mov (.k (.bool false)))]
def r68_1 : List Ins := [qI 4 (.alloc 98 (.agg #[.int .i64 0, .int .i64 0, .int .i64 0, .int .i64 0, .int .i64 0, .int .i64 0, .int .i64 0, .int .i64 0, .int .i64 0, .int .i64 0]))]
def r68_2 : List Ins := [qI 12 (.call (.fn 61) [4]), qI 13 (.mov (kI 0))]
def r68_3 : List Ins := [qI 14 (.bin .lss 13 (kI 10))]
def r68_4 : List Ins := [qI 15 (.mov 13), qI 16 (.aidx 1 false 10 12 13), qI 5 (.mov 15), qI 6 (.mov 16)]
def r68_5 : List Ins := [qI 18 (.mov 0), qI 19 (.call (.fn 20) [18, (.k (.string (bs [47])))]), qI 17 (.mov 19), qI 20 (.ext 0 17), qI 21 (.ext 1 17), qI 22 (.ext 2 17), qI 7 (.mov 20), qI 8 (.mov 21), qI 9 (.mov 22)]
def r68_6 : List Ins := [qI 24 (.mov 7), qI 25 (.call (.fn 46) [24]), qI 23 (.mov 25), qI 26 (.ext 0 23), qI 27 (.ext 1 23), qI 10 (.mov 26), qI 11 (.mov 27)]
def r68_7 : List Ins := [qI 28 (.mov 11), qI 29 (.un .not 28), qI 30 (.mov 29), qF 31 30 (.mov 9), qF 32 30 (.mov 5), qF 33 30 (.bin .lss 32 (kI 9)), qF 34 30 (.beq true 31 33), qI 35 (.pick 30 (.k (.bool true)) 34)]
def r68_8 : List Ins := [qI 36 (.build [.int .i64 0, .int .i64 0, .int .i64 0, .int .i64 0, .int .i64 0, .int .i64 0, .int .i64 0, .int .i64 0, .int .i64 0, .int .i64 0] []), qN (.store 10 2 36), qI 3 (.mov (.k (.bool false)))]
def r68_9 : List Ins := [qI 37 (.mov 6), qI 38 (.mov 10), qI 39 (.nck 37), qN (.store 1 39 38)]
def r68_10 : List Ins := [qI 40 (.mov 8), qI 0 (.mov 40)]
def r68_11 : List Ins := [qI 41 (.bin .add 13 (kI 1)), qI 13 (.mov 41)]
def r68_12 : List Ins := [qI 42 (.load 10 true 4), qN (.store 10 2 42), qI 3 (.mov (.k (.bool true)))]
def x68 : XC := (.seq (.ops false r68_0) (.seq (.ops false r68_1) (.seq (.seq (.ops false r68_2) (.block 0 (.loopU 11 (.seq (.ops false r68_3) (.seq (.cond (.t 14) .skip (.exit 0)) (.seq (.block 1 (.seq (.ops false r68_4) (.seq (.ops false r68_5) (.seq (.ops false r68_6) (.seq (.seq (.ops false r68_7) (.cond (.t 35) (.seq (.ops false r68_8) .ret) .skip)) (.seq (.ops false r68_9) (.ops false r68_10))))))) (.ops false r68_11))))))) (.seq (.ops false r68_12) .ret))))
theorem F68 : Fn Tryd.prog 68 43 x68.er [.c 2 10 true, .t 3] := ⟨Tryd.f68, hcl, Tryd.func68, by kernel_rfl, by kernel_rfl, by kernel_rfl, by kernel_rfl⟩
noncomputable def m68 (a0 : ByteArray) : Option (DS0 × Bool × Unit) :=
 (m61 0 0 0 0 0 0 0 0 0 0).bind fun y12 =>
 (mCut a0 (bs [47])).bind fun y13 =>
 (m46 y13.1).bind fun y16 =>
 cond (cond (not y16.2.1) true (not (bEq y13.2.2.1 true)))
 (some ((0, 0, 0, 0, 0, 0, 0, 0, 0, 0, ()), false, ()))
 ((mCut y13.2.1 (bs [47])).bind fun y17 =>
 (m46 y17.1).bind fun y18 =>
 cond (cond (not y18.2.1) true (not (bEq y17.2.2.1 true)))
 (some ((0, 0, 0, 0, 0, 0, 0, 0, 0, 0, ()), false, ()))
 ((mCut y17.2.1 (bs [47])).bind fun y19 =>
 (m46 y19.1).bind fun y20 =>
 cond (cond (not y20.2.1) true (not (bEq y19.2.2.1 true)))
 (some ((0, 0, 0, 0, 0, 0, 0, 0, 0, 0, ()), false, ()))
 ((mCut y19.2.1 (bs [47])).bind fun y21 =>
 (m46 y21.1).bind fun y22 =>
 cond (cond (not y22.2.1) true (not (bEq y21.2.2.1 true)))
 (some ((0, 0, 0, 0, 0, 0, 0, 0, 0, 0, ()), false, ()))
 ((mCut y21.2.1 (bs [47])).bind fun y23 =>
 (m46 y23.1).bind fun y24 =>
 cond (cond (not y24.2.1) true (not (bEq y23.2.2.1 true)))
 (some ((0, 0, 0, 0, 0, 0, 0, 0, 0, 0, ()), false, ()))
 ((mCut y23.2.1 (bs [47])).bind fun y25 =>
 (m46 y25.1).bind fun y26 =>
 cond (cond (not y26.2.1) true (not (bEq y25.2.2.1 true)))
 (some ((0, 0, 0, 0, 0, 0, 0, 0, 0, 0, ()), false, ()))
 ((mCut y25.2.1 (bs [47])).bind fun y27 =>
 (m46 y27.1).bind fun y28 =>
 cond (cond (not y28.2.1) true (not (bEq y27.2.2.1 true)))
 (some ((0, 0, 0, 0, 0, 0, 0, 0, 0, 0, ()), false, ()))
 ((mCut y27.2.1 (bs [47])).bind fun y29 =>
 (m46 y29.1).bind fun y30 =>
 cond (cond (not y30.2.1) true (not (bEq y29.2.2.1 true)))
 (some ((0, 0, 0, 0, 0, 0, 0, 0, 0, 0, ()), false, ()))
 ((mCut y29.2.1 (bs [47])).bind fun y31 =>
 (m46 y31.1).bind fun y32 =>
 cond (cond (not y32.2.1) true (not (bEq y31.2.2.1 true)))
 (some ((0, 0, 0, 0, 0, 0, 0, 0, 0, 0, ()), false, ()))
 ((mCut y31.2.1 (bs [47])).bind fun y33 =>
 (m46 y33.1).bind fun y34 =>
 cond (cond (not y34.2.1) true (not (bEq y33.2.2.1 false)))
 (some ((0, 0, 0, 0, 0, 0, 0, 0, 0, 0, ()), false, ()))
 (some ((y16.1, y18.1, y20.1, y22.1, y24.1, y26.1, y28.1, y30.1, y32.1, y34.1, ()), true, ())))))))))))
noncomputable def cfg68 (G : GP) : Cfg := ⟨ttab, (gtab G), [i46, iCut], [h61]⟩
theorem eqn68 (G : GP) (x : ByteArray × Unit) : xfun (cfg68 G) x68 43 [.c 2 10 true, .t 3] [.str] [tS0, .bool] x = m68 x.1 := by kernel_rfl
noncomputable def i68 : PI := ⟨68, [.str], [tS0, .bool], fun (x : ByteArray × Unit) => m68 x.1⟩
theorem oki68 {G : GP} : POk Tryd.prog (gx (gtab G)) i68 := pok mixed (cfg_p oki46 (cfg_p okiCut (cfg_h okh61 (cfg_nil _ _))) : CfgOk _ (cfg68 G)) F68 (eqn68 G)
def r45_0 : List Ins := [qI 4 (.mov kN), qI 5 (.mov (kI 0))]
def r45_1 : List Ins := [qI 10 (.mov 1), qI 11 (.bin .gtr 10 (kI 64))]
def r45_2 : List Ins := [qI 4 (.mov kN), qI 5 (.mov (kI 4))]
def r45_3 : List Ins := [qI 6 (.mov kN)]
def r45_4 : List Ins := [qI 12 (.mov 1), qI 13 (.mov (kI 0))]
def r45_5 : List Ins := [qI 14 (.bin .lss 13 12)]
def r45_6 : List Ins := [qI 7 (.mov (.k (.string (bs []))))]
def r45_7 : List Ins := [qI 16 (.mov 0), qI 17 (.call (.fn 20) [16, (.k (.string (bs [32])))]), qI 15 (.mov 17), qI 18 (.ext 0 15), qI 19 (.ext 1 15), qI 20 (.ext 2 15), qI 7 (.mov 18), qI 0 (.mov 19)]
def r45_8 : List Ins := [qI 22 (.mov 7), qI 23 (.call (.fn 68) [22]), qI 21 (.mov 23), qI 24 (.ext 0 21), qI 25 (.ext 1 21), qI 8 (.alloc 98 (.agg #[.int .i64 0, .int .i64 0, .int .i64 0, .int .i64 0, .int .i64 0, .int .i64 0, .int .i64 0, .int .i64 0, .int .i64 0, .int .i64 0])), qN (.store 10 8 24), qI 9 (.mov 25)]
def r45_9 : List Ins := [qI 26 (.mov 9), qI 27 (.un .not 26)]
def r45_10 : List Ins := [qI 4 (.mov kN), qI 5 (.mov (kI 5))]
def r45_11 : List Ins := [qI 28 (.mov 6), qI 29 (.load 10 true 8), qI 30 (.bslice 98 10 [29]), qI 31 (.app 98 10 80 28 30), qI 6 (.mov 31)]
def r45_12 : List Ins := [qI 32 (.bin .add 13 (kI 1)), qI 13 (.mov 32)]
def r45_13 : List Ins := [qI 33 (.mov 6), qI 4 (.mov 33), qI 5 (.mov (kI 0))]
def x45 : XC := (.seq (.ops false r45_0) (.seq (.seq (.ops false r45_1) (.cond (.t 11) (.seq (.ops false r45_2) .ret) .skip)) (.seq (.ops false r45_3) (.seq (.seq (.ops false r45_4) (.block 0 (.loop [.gh 6 98 tS0] ⟨34, [(0, .str), (12, (.int .i64)), (13, (.int .i64))], [(6, .row 0)], [.row 98 tS0 false]⟩ (.seq (.ops false r45_5) (.seq (.cond (.t 14) .skip (.exit 0)) (.seq (.block 1 (.seq (.ops false r45_6) (.seq (.ops false r45_7) (.seq (.ops false r45_8) (.seq (.seq (.ops false r45_9) (.cond (.t 27) (.seq (.ops false r45_10) .ret) .skip)) (.ops false r45_11)))))) (.ops false r45_12))))))) (.seq (.ops false r45_13) .ret)))))
theorem F45 : Fn Tryd.prog 45 34 x45.er [.t 4, .t 5] := ⟨Tryd.f45, hcl, Tryd.func45, by kernel_rfl, by kernel_rfl, by kernel_rfl, by kernel_rfl⟩
noncomputable def m45 (a0 : ByteArray) (a1 : Int) : Option ((List DS0) × Int × Unit) :=
 cond (iLt 64 a1)
 (some (([] : List DS0), 4, ()))
 (loopO (S := ByteArray × Int × Int × (List DS0) × Unit) (R := (List DS0) × Int × Unit) (fun s36 =>
 cond (iLt s36.2.2.1 s36.2.1)
 ((mCut s36.1 (bs [32])).bind fun y37 =>
 (m68 y37.1).bind fun y38 =>
 cond (not y38.2.1)
 (some (.inr (([] : List DS0), 5, ())))
 (cond (fits (List.length s36.2.2.2.1 + List.length ([(y38.1.1, y38.1.2.1, y38.1.2.2.1, y38.1.2.2.2.1, y38.1.2.2.2.2.1, y38.1.2.2.2.2.2.1, y38.1.2.2.2.2.2.2.1, y38.1.2.2.2.2.2.2.2.1, y38.1.2.2.2.2.2.2.2.2.1, y38.1.2.2.2.2.2.2.2.2.2.1, ())] : List DS0)) 80)
 (some (.inl (y37.2.1, s36.2.1, iAdd .i64 s36.2.2.1 1, s36.2.2.2.1 ++ ([(y38.1.1, y38.1.2.1, y38.1.2.2.1, y38.1.2.2.2.1, y38.1.2.2.2.2.1, y38.1.2.2.2.2.2.1, y38.1.2.2.2.2.2.2.1, y38.1.2.2.2.2.2.2.2.1, y38.1.2.2.2.2.2.2.2.2.1, y38.1.2.2.2.2.2.2.2.2.2.1, ())] : List DS0), ()))) none))
 (some (.inr (s36.2.2.2.1, 0, ()))))
 (a0, a1, 0, ([] : List DS0), ()))
noncomputable def cfg45 (G : GP) : Cfg := ⟨ttab, (gtab G), [i68, iCut], []⟩
theorem eqn45 (G : GP) (x : ByteArray × Int × Unit) : xfun (cfg45 G) x45 34 [.t 4, .t 5] [.str, (.int .i64)] [(.list tS0), (.int .i64)] x = m45 x.1 x.2.1 := by kernel_rfl
noncomputable def i45 : PI := ⟨45, [.str, (.int .i64)], [(.list tS0), (.int .i64)], fun (x : ByteArray × Int × Unit) => m45 x.1 x.2.1⟩
theorem oki45 {G : GP} : POk Tryd.prog (gx (gtab G)) i45 := pok mixed (cfg_p oki68 (cfg_p okiCut (cfg_nil _ _)) : CfgOk _ (cfg45 G)) F45 (eqn45 G)
def r47_0 : List Ins := [qI 4 (.mov (.k (.pointer none)))]
def r47_1 : List Ins := [qI 5 (.mov 1)]
def r47_2 : List Ins := [qI 7 (.bin .eql 5 (kI 1)), qI 6 (.mov 7)]
def r47_3 : List Ins := [qI 8 (.mov 0), qI 9 (.nck 8), qI 10 (.faddr 1 9), qI 4 (.mov 10)]
def r47_4 : List Ins := [qI 12 (.bin .eql 5 (kI 2)), qI 11 (.mov 12)]
def r47_5 : List Ins := [qI 13 (.mov 0), qI 14 (.nck 13), qI 15 (.faddr 2 14), qI 4 (.mov 15)]
def r47_6 : List Ins := [qI 17 (.bin .eql 5 (kI 3)), qI 16 (.mov 17)]
def r47_7 : List Ins := [qI 18 (.mov 0), qI 19 (.nck 18), qI 20 (.faddr 3 19), qI 21 (.faddr 2 20), qI 4 (.mov 21)]
def r47_8 : List Ins := [qI 23 (.bin .eql 5 (kI 4)), qI 22 (.mov 23)]
def r47_9 : List Ins := [qI 24 (.mov 0), qI 25 (.nck 24), qI 26 (.faddr 3 25), qI 27 (.faddr 3 26), qI 4 (.mov 27)]
def r47_10 : List Ins := [qI 29 (.bin .eql 5 (kI 5)), qI 28 (.mov 29)]
def r47_11 : List Ins := [qI 30 (.mov 0), qI 31 (.nck 30), qI 32 (.faddr 3 31), qI 33 (.faddr 4 32), qI 4 (.mov 33)]
def r47_12 : List Ins := [qI 34 (.mov 0), qI 35 (.nck 34), qI 36 (.faddr 3 35), qI 37 (.faddr 5 36), qI 4 (.mov 37)]
def x47 : XC := (.seq (.ops false r47_0) (.seq (.seq (.ops false r47_1) (.block 0 (.seq (.ops false r47_2) (.cond (.t 6) (.seq (.ops false r47_3) .ret) (.seq (.ops false r47_4) (.cond (.t 11) (.seq (.ops false r47_5) .ret) (.seq (.ops false r47_6) (.cond (.t 16) (.seq (.ops false r47_7) .ret) (.seq (.ops false r47_8) (.cond (.t 22) (.seq (.ops false r47_9) .ret) (.seq (.ops false r47_10) (.cond (.t 28) (.seq (.ops false r47_11) .ret) .skip)))))))))))) (.seq (.ops false r47_12) .ret)))
theorem F47 : Fn Tryd.prog 47 38 x47.er [.t 4] := ⟨Tryd.f47, hcl, Tryd.func47, by kernel_rfl, by kernel_rfl, by kernel_rfl, by kernel_rfl⟩
noncomputable def m47 (a0 : Int) (a1 : Int) (a2 : Int) (a3 : Int) (a4 : Int) (a5 : Int) (a6 : Int) (a7 : Int) : Option (Int × Int × Int × Int × Int × Int × Int × Int × Unit) :=
 some (a0, a1, a2, a3, a4, a5, a6, a7, ())
noncomputable def cfg47 (G : GP) : Cfg := ⟨ttab, (gtab G), [], []⟩
def ish47 : Sh := ⟨2, [], [(0, .ptr 0 0 0), (1, .cst .i64 1)], [.box 29 [.d (.int .i64), .d (.int .i64), .d (.int .i64), .d (.int .i64), .nil, .d (.int .i64), .d (.int .i64), .d (.int .i64), .d (.int .i64)]]⟩
def osh47 : Sh := ⟨1, [], [(0, .ptr 0 0 1)], [.box 29 [.d (.int .i64), .d (.int .i64), .d (.int .i64), .d (.int .i64), .nil, .d (.int .i64), .d (.int .i64), .d (.int .i64), .d (.int .i64)]]⟩
theorem eqn47 (G : GP) (x : Int × Int × Int × Int × Int × Int × Int × Int × Unit) : xfunH (cfg47 G) x47 38 [.t 4] [] ish47 osh47 x = m47 x.1 x.2.1 x.2.2.1 x.2.2.2.1 x.2.2.2.2.1 x.2.2.2.2.2.1 x.2.2.2.2.2.2.1 x.2.2.2.2.2.2.2.1 := by kernel_rfl
noncomputable def h47 : HI := ⟨47, ish47, osh47, fun (x : Int × Int × Int × Int × Int × Int × Int × Int × Unit) => m47 x.1 x.2.1 x.2.2.1 x.2.2.2.1 x.2.2.2.2.1 x.2.2.2.2.2.1 x.2.2.2.2.2.2.1 x.2.2.2.2.2.2.2.1⟩
theorem okh47 {G : GP} : HOk Tryd.prog (gx (gtab G)) h47 := hok mixed (cfg_nil _ _ : CfgOk _ (cfg47 G)) F47 (eqn47 G)
def x47_1 : XC := (.seq (.ops false r47_0) (.seq (.seq (.ops false r47_1) (.block 0 (.seq (.ops false r47_2) (.cond (.t 6) (.seq (.ops false r47_3) .ret) (.seq (.ops false r47_4) (.cond (.t 11) (.seq (.ops false r47_5) .ret) (.seq (.ops false r47_6) (.cond (.t 16) (.seq (.ops false r47_7) .ret) (.seq (.ops false r47_8) (.cond (.t 22) (.seq (.ops false r47_9) .ret) (.seq (.ops false r47_10) (.cond (.t 28) (.seq (.ops false r47_11) .ret) .skip)))))))))))) (.seq (.ops false r47_12) .ret)))
theorem F47_1 : Fn Tryd.prog 47 38 x47_1.er [.t 4] := ⟨Tryd.f47, hcl, Tryd.func47, by kernel_rfl, by kernel_rfl, by kernel_rfl, by kernel_rfl⟩
noncomputable def m47_1 (a0 : Int) (a1 : Int) (a2 : Int) (a3 : Int) (a4 : Int) (a5 : Int) (a6 : Int) (a7 : Int) : Option (Int × Int × Int × Int × Int × Int × Int × Int × Unit) :=
 some (a0, a1, a2, a3, a4, a5, a6, a7, ())
noncomputable def cfg47_1 (G : GP) : Cfg := ⟨ttab, (gtab G), [], []⟩
def ish47_1 : Sh := ⟨2, [], [(0, .ptr 0 0 0), (1, .cst .i64 2)], [.box 29 [.d (.int .i64), .d (.int .i64), .d (.int .i64), .d (.int .i64), .nil, .d (.int .i64), .d (.int .i64), .d (.int .i64), .d (.int .i64)]]⟩
def osh47_1 : Sh := ⟨1, [], [(0, .ptr 0 0 2)], [.box 29 [.d (.int .i64), .d (.int .i64), .d (.int .i64), .d (.int .i64), .nil, .d (.int .i64), .d (.int .i64), .d (.int .i64), .d (.int .i64)]]⟩
theorem eqn47_1 (G : GP) (x : Int × Int × Int × Int × Int × Int × Int × Int × Unit) : xfunH (cfg47_1 G) x47_1 38 [.t 4] [] ish47_1 osh47_1 x = m47_1 x.1 x.2.1 x.2.2.1 x.2.2.2.1 x.2.2.2.2.1 x.2.2.2.2.2.1 x.2.2.2.2.2.2.1 x.2.2.2.2.2.2.2.1 := by kernel_rfl
noncomputable def h47_1 : HI := ⟨47, ish47_1, osh47_1, fun (x : Int × Int × Int × Int × Int × Int × Int × Int × Unit) => m47_1 x.1 x.2.1 x.2.2.1 x.2.2.2.1 x.2.2.2.2.1 x.2.2.2.2.2.1 x.2.2.2.2.2.2.1 x.2.2.2.2.2.2.2.1⟩
theorem okh47_1 {G : GP} : HOk Tryd.prog (gx (gtab G)) h47_1 := hok mixed (cfg_nil _ _ : CfgOk _ (cfg47_1 G)) F47_1 (eqn47_1 G)
def x47_2 : XC := (.seq (.ops false r47_0) (.seq (.seq (.ops false r47_1) (.block 0 (.seq (.ops false r47_2) (.cond (.t 6) (.seq (.ops false r47_3) .ret) (.seq (.ops false r47_4) (.cond (.t 11) (.seq (.ops false r47_5) .ret) (.seq (.ops false r47_6) (.cond (.t 16) (.seq (.ops false r47_7) .ret) (.seq (.ops false r47_8) (.cond (.t 22) (.seq (.ops false r47_9) .ret) (.seq (.ops false r47_10) (.cond (.t 28) (.seq (.ops false r47_11) .ret) .skip)))))))))))) (.seq (.ops false r47_12) .ret)))
theorem F47_2 : Fn Tryd.prog 47 38 x47_2.er [.t 4] := ⟨Tryd.f47, hcl, Tryd.func47, by kernel_rfl, by kernel_rfl, by kernel_rfl, by kernel_rfl⟩
noncomputable def m47_2 (a0 : Int) (a1 : Int) (a2 : Int) (a3 : Int) (a4 : Int) (a5 : Int) (a6 : Int) (a7 : Int) : Option (Int × Int × Int × Int × Int × Int × Int × Int × Unit) :=
 some (a0, a1, a2, a3, a4, a5, a6, a7, ())
noncomputable def cfg47_2 (G : GP) : Cfg := ⟨ttab, (gtab G), [], []⟩
def ish47_2 : Sh := ⟨2, [], [(0, .ptr 0 0 0), (1, .cst .i64 3)], [.box 29 [.d (.int .i64), .d (.int .i64), .d (.int .i64), .d (.int .i64), .nil, .d (.int .i64), .d (.int .i64), .d (.int .i64), .d (.int .i64)]]⟩
def osh47_2 : Sh := ⟨1, [], [(0, .ptr 0 0 5)], [.box 29 [.d (.int .i64), .d (.int .i64), .d (.int .i64), .d (.int .i64), .nil, .d (.int .i64), .d (.int .i64), .d (.int .i64), .d (.int .i64)]]⟩
theorem eqn47_2 (G : GP) (x : Int × Int × Int × Int × Int × Int × Int × Int × Unit) : xfunH (cfg47_2 G) x47_2 38 [.t 4] [] ish47_2 osh47_2 x = m47_2 x.1 x.2.1 x.2.2.1 x.2.2.2.1 x.2.2.2.2.1 x.2.2.2.2.2.1 x.2.2.2.2.2.2.1 x.2.2.2.2.2.2.2.1 := by kernel_rfl
noncomputable def h47_2 : HI := ⟨47, ish47_2, osh47_2, fun (x : Int × Int × Int × Int × Int × Int × Int × Int × Unit) => m47_2 x.1 x.2.1 x.2.2.1 x.2.2.2.1 x.2.2.2.2.1 x.2.2.2.2.2.1 x.2.2.2.2.2.2.1 x.2.2.2.2.2.2.2.1⟩
theorem okh47_2 {G : GP} : HOk Tryd.prog (gx (gtab G)) h47_2 := hok mixed (cfg_nil _ _ : CfgOk _ (cfg47_2 G)) F47_2 (eqn47_2 G)
def x47_3 : XC := (.seq (.ops false r47_0) (.seq (.seq (.ops false r47_1) (.block 0 (.seq (.ops false r47_2) (.cond (.t 6) (.seq (.ops false r47_3) .ret) (.seq (.ops false r47_4) (.cond (.t 11) (.seq (.ops false r47_5) .ret) (.seq (.ops false r47_6) (.cond (.t 16) (.seq (.ops false r47_7) .ret) (.seq (.ops false r47_8) (.cond (.t 22) (.seq (.ops false r47_9) .ret) (.seq (.ops false r47_10) (.cond (.t 28) (.seq (.ops false r47_11) .ret) .skip)))))))))))) (.seq (.ops false r47_12) .ret)))
theorem F47_3 : Fn Tryd.prog 47 38 x47_3.er [.t 4] := ⟨Tryd.f47, hcl, Tryd.func47, by kernel_rfl, by kernel_rfl, by kernel_rfl, by kernel_rfl⟩
noncomputable def m47_3 (a0 : Int) (a1 : Int) (a2 : Int) (a3 : Int) (a4 : Int) (a5 : Int) (a6 : Int) (a7 : Int) : Option (Int × Int × Int × Int × Int × Int × Int × Int × Unit) :=
 some (a0, a1, a2, a3, a4, a5, a6, a7, ())
noncomputable def cfg47_3 (G : GP) : Cfg := ⟨ttab, (gtab G), [], []⟩
def ish47_3 : Sh := ⟨2, [], [(0, .ptr 0 0 0), (1, .cst .i64 4)], [.box 29 [.d (.int .i64), .d (.int .i64), .d (.int .i64), .d (.int .i64), .nil, .d (.int .i64), .d (.int .i64), .d (.int .i64), .d (.int .i64)]]⟩
def osh47_3 : Sh := ⟨1, [], [(0, .ptr 0 0 6)], [.box 29 [.d (.int .i64), .d (.int .i64), .d (.int .i64), .d (.int .i64), .nil, .d (.int .i64), .d (.int .i64), .d (.int .i64), .d (.int .i64)]]⟩
theorem eqn47_3 (G : GP) (x : Int × Int × Int × Int × Int × Int × Int × Int × Unit) : xfunH (cfg47_3 G) x47_3 38 [.t 4] [] ish47_3 osh47_3 x = m47_3 x.1 x.2.1 x.2.2.1 x.2.2.2.1 x.2.2.2.2.1 x.2.2.2.2.2.1 x.2.2.2.2.2.2.1 x.2.2.2.2.2.2.2.1 := by kernel_rfl
noncomputable def h47_3 : HI := ⟨47, ish47_3, osh47_3, fun (x : Int × Int × Int × Int × Int × Int × Int × Int × Unit) => m47_3 x.1 x.2.1 x.2.2.1 x.2.2.2.1 x.2.2.2.2.1 x.2.2.2.2.2.1 x.2.2.2.2.2.2.1 x.2.2.2.2.2.2.2.1⟩
theorem okh47_3 {G : GP} : HOk Tryd.prog (gx (gtab G)) h47_3 := hok mixed (cfg_nil _ _ : CfgOk _ (cfg47_3 G)) F47_3 (eqn47_3 G)
def x47_4 : XC := (.seq (.ops false r47_0) (.seq (.seq (.ops false r47_1) (.block 0 (.seq (.ops false r47_2) (.cond (.t 6) (.seq (.ops false r47_3) .ret) (.seq (.ops false r47_4) (.cond (.t 11) (.seq (.ops false r47_5) .ret) (.seq (.ops false r47_6) (.cond (.t 16) (.seq (.ops false r47_7) .ret) (.seq (.ops false r47_8) (.cond (.t 22) (.seq (.ops false r47_9) .ret) (.seq (.ops false r47_10) (.cond (.t 28) (.seq (.ops false r47_11) .ret) .skip)))))))))))) (.seq (.ops false r47_12) .ret)))
theorem F47_4 : Fn Tryd.prog 47 38 x47_4.er [.t 4] := ⟨Tryd.f47, hcl, Tryd.func47, by kernel_rfl, by kernel_rfl, by kernel_rfl, by kernel_rfl⟩
noncomputable def m47_4 (a0 : Int) (a1 : Int) (a2 : Int) (a3 : Int) (a4 : Int) (a5 : Int) (a6 : Int) (a7 : Int) : Option (Int × Int × Int × Int × Int × Int × Int × Int × Unit) :=
 some (a0, a1, a2, a3, a4, a5, a6, a7, ())
noncomputable def cfg47_4 (G : GP) : Cfg := ⟨ttab, (gtab G), [], []⟩
def ish47_4 : Sh := ⟨2, [], [(0, .ptr 0 0 0), (1, .cst .i64 5)], [.box 29 [.d (.int .i64), .d (.int .i64), .d (.int .i64), .d (.int .i64), .nil, .d (.int .i64), .d (.int .i64), .d (.int .i64), .d (.int .i64)]]⟩
def osh47_4 : Sh := ⟨1, [], [(0, .ptr 0 0 7)], [.box 29 [.d (.int .i64), .d (.int .i64), .d (.int .i64), .d (.int .i64), .nil, .d (.int .i64), .d (.int .i64), .d (.int .i64), .d (.int .i64)]]⟩
theorem eqn47_4 (G : GP) (x : Int × Int × Int × Int × Int × Int × Int × Int × Unit) : xfunH (cfg47_4 G) x47_4 38 [.t 4] [] ish47_4 osh47_4 x = m47_4 x.1 x.2.1 x.2.2.1 x.2.2.2.1 x.2.2.2.2.1 x.2.2.2.2.2.1 x.2.2.2.2.2.2.1 x.2.2.2.2.2.2.2.1 := by kernel_rfl
noncomputable def h47_4 : HI := ⟨47, ish47_4, osh47_4, fun (x : Int × Int × Int × Int × Int × Int × Int × Int × Unit) => m47_4 x.1 x.2.1 x.2.2.1 x.2.2.2.1 x.2.2.2.2.1 x.2.2.2.2.2.1 x.2.2.2.2.2.2.1 x.2.2.2.2.2.2.2.1⟩
theorem okh47_4 {G : GP} : HOk Tryd.prog (gx (gtab G)) h47_4 := hok mixed (cfg_nil _ _ : CfgOk _ (cfg47_4 G)) F47_4 (eqn47_4 G)
def x47_5 : XC := (.seq (.ops false r47_0) (.seq (.seq (.ops false r47_1) (.block 0 (.seq (.ops false r47_2) (.cond (.t 6) (.seq (.ops false r47_3) .ret) (.seq (.ops false r47_4) (.cond (.t 11) (.seq (.ops false r47_5) .ret) (.seq (.ops false r47_6) (.cond (.t 16) (.seq (.ops false r47_7) .ret) (.seq (.ops false r47_8) (.cond (.t 22) (.seq (.ops false r47_9) .ret) (.seq (.ops false r47_10) (.cond (.t 28) (.seq (.ops false r47_11) .ret) .skip)))))))))))) (.seq (.ops false r47_12) .ret)))
theorem F47_5 : Fn Tryd.prog 47 38 x47_5.er [.t 4] := ⟨Tryd.f47, hcl, Tryd.func47, by kernel_rfl, by kernel_rfl, by kernel_rfl, by kernel_rfl⟩
noncomputable def m47_5 (a0 : Int) (a1 : Int) (a2 : Int) (a3 : Int) (a4 : Int) (a5 : Int) (a6 : Int) (a7 : Int) : Option (Int × Int × Int × Int × Int × Int × Int × Int × Unit) :=
 some (a0, a1, a2, a3, a4, a5, a6, a7, ())
noncomputable def cfg47_5 (G : GP) : Cfg := ⟨ttab, (gtab G), [], []⟩
def ish47_5 : Sh := ⟨2, [], [(0, .ptr 0 0 0), (1, .cst .i64 6)], [.box 29 [.d (.int .i64), .d (.int .i64), .d (.int .i64), .d (.int .i64), .nil, .d (.int .i64), .d (.int .i64), .d (.int .i64), .d (.int .i64)]]⟩
def osh47_5 : Sh := ⟨1, [], [(0, .ptr 0 0 8)], [.box 29 [.d (.int .i64), .d (.int .i64), .d (.int .i64), .d (.int .i64), .nil, .d (.int .i64), .d (.int .i64), .d (.int .i64), .d (.int .i64)]]⟩
theorem eqn47_5 (G : GP) (x : Int × Int × Int × Int × Int × Int × Int × Int × Unit) : xfunH (cfg47_5 G) x47_5 38 [.t 4] [] ish47_5 osh47_5 x = m47_5 x.1 x.2.1 x.2.2.1 x.2.2.2.1 x.2.2.2.2.1 x.2.2.2.2.2.1 x.2.2.2.2.2.2.1 x.2.2.2.2.2.2.2.1 := by kernel_rfl
noncomputable def h47_5 : HI := ⟨47, ish47_5, osh47_5, fun (x : Int × Int × Int × Int × Int × Int × Int × Int × Unit) => m47_5 x.1 x.2.1 x.2.2.1 x.2.2.2.1 x.2.2.2.2.1 x.2.2.2.2.2.1 x.2.2.2.2.2.2.1 x.2.2.2.2.2.2.2.1⟩
theorem okh47_5 {G : GP} : HOk Tryd.prog (gx (gtab G)) h47_5 := hok mixed (cfg_nil _ _ : CfgOk _ (cfg47_5 G)) F47_5 (eqn47_5 G)
def r21_0 : List Ins := [qI 2 (.alloc 29 (.agg #[.int .i64 0, .int .i64 0, .int .i64 0, .int .i64 0, .slice none 0 0, .int .i64 0, .int .i64 0, .int .i64 0, .int .i64 0])), qI 3 (.mov (kI 0))]
def r21_1 : List Ins := [qI 18 (.mov 0), qI 19 (.bin .eql 18 (.k (.string (bs [])))), qI 20 (.mov 19), qF 21 20 (.mov 0), qF 22 20 (.idx 21 (kI 0)), qF 23 20 (.bin .eql 22 (.k (.int .u8 32))), qI 24 (.pick 20 (.k (.bool true)) 23), qI 25 (.mov 24), qF 26 25 (.mov 0), qF 27 25 (.mov 0), qF 28 25 (.slen 27), qF 29 25 (.bin .sub 28 (kI 1)), qF 30 25 (.idx 26 29), qF 31 25 (.bin .eql 30 (.k (.int .u8 32))), qI 32 (.pick 25 (.k (.bool true)) 31), qI 33 (.mov 32), qF 34 33 (.mov 0), qF 35 33 (.call (.fn 42) [34, (.k (.string (bs [32, 32])))]), qI 36 (.pick 33 (.k (.bool true)) 35)]
def r21_2 : List Ins := [qI 37 (.build [.int .i64 0, .int .i64 0, .int .i64 0, .int .i64 0, .slice none 0 0, .int .i64 0, .int .i64 0, .int .i64 0, .int .i64 0] []), qN (.store 9 2 37), qI 3 (.mov (kI 5))]
def r21_3 : List Ins := [qI 39 (.mov 0), qI 40 (.call (.fn 20) [39, (.k (.string (bs [32])))]), qI 38 (.mov 40), qI 41 (.ext 0 38), qI 42 (.ext 1 38), qI 43 (.ext 2 38), qI 4 (.mov 41), qI 5 (.mov 42), qI 6 (.mov 43)]
def r21_4 : List Ins := [qI 45 (.mov 4), qI 46 (.call (.fn 43) [45]), qI 44 (.mov 46), qI 47 (.ext 0 44), qI 48 (.ext 1 44), qI 7 (.alloc 83 (.agg #[.string (bs []), .int .i64 0, .int .i64 0, .int .i64 0, .int .i64 0, .int .i64 0, .int .i64 0])), qN (.store 7 7 47), qI 8 (.mov 48)]
def r21_5 : List Ins := [qI 49 (.mov 8), qI 50 (.un .not 49)]
def r21_6 : List Ins := [qI 51 (.build [.int .i64 0, .int .i64 0, .int .i64 0, .int .i64 0, .slice none 0 0, .int .i64 0, .int .i64 0, .int .i64 0, .int .i64 0] []), qN (.store 9 2 51), qI 3 (.mov (kI 5))]
def r21_7 : List Ins := [qI 9 (.mov (kI 0))]
def r21_8 : List Ins := [qI 52 (.mov 6)]
def r21_9 : List Ins := [qI 53 (.mov 5), qI 54 (.call (.fn 44) [53, (.k (.string (bs [32])))]), qI 55 (.bin .add 54 (kI 1)), qI 9 (.mov 55)]
def r21_10 : List Ins := [qI 56 (.faddr 1 7), qI 57 (.load 1 false 56), qI 58 (.faddr 2 7), qI 59 (.load 1 false 58), qI 60 (.build [.int .i64 0, .slice none 0 0, .int .i64 0, .int .i64 0, .int .i64 0, .int .i64 0] [(0, 1, 59)]), qI 61 (.build [.int .i64 0, .int .i64 0, .int .i64 0, .int .i64 0, .slice none 0 0, .int .i64 0, .int .i64 0, .int .i64 0, .int .i64 0] [(0, 1, 57), (3, 6, 60)]), qI 10 (.alloc 29 (.agg #[.int .i64 0, .int .i64 0, .int .i64 0, .int .i64 0, .slice none 0 0, .int .i64 0, .int .i64 0, .int .i64 0, .int .i64 0])), qN (.store 9 10 61)]
def r21_11 : List Ins := [qI 62 (.faddr 2 7), qI 63 (.load 1 false 62), qI 64 (.bin .eql 63 (kI 1))]
def r21_12 : List Ins := [qI 66 (.mov 5), qI 67 (.mov 9), qI 68 (.call (.fn 45) [66, 67]), qI 65 (.mov 68), qI 69 (.ext 0 65), qI 70 (.ext 1 65), qI 11 (.mov 69), qI 12 (.mov 70)]
def r21_13 : List Ins := [qI 71 (.mov 12), qI 72 (.bin .neq 71 (kI 0))]
def r21_14 : List Ins := [qI 73 (.build [.int .i64 0, .int .i64 0, .int .i64 0, .int .i64 0, .slice none 0 0, .int .i64 0, .int .i64 0, .int .i64 0, .int .i64 0] []), qI 74 (.mov 12), qN (.store 9 2 73), qI 3 (.mov 74)]
def r21_15 : List Ins := [qI 75 (.mov 11), qI 76 (.faddr 3 10), qI 77 (.faddr 1 76), qN (.store 1 77 75)]
def r21_16 : List Ins := [qI 78 (.load 9 true 10), qN (.store 9 2 78), qI 3 (.mov (kI 0))]
def r21_17 : List Ins := [qI 79 (.mov 9), qI 80 (.faddr 3 7), qI 81 (.load 1 false 80), qI 82 (.bin .neq 79 81)]
def r21_18 : List Ins := [qI 83 (.build [.int .i64 0, .int .i64 0, .int .i64 0, .int .i64 0, .slice none 0 0, .int .i64 0, .int .i64 0, .int .i64 0, .int .i64 0] []), qN (.store 9 2 83), qI 3 (.mov (kI 5))]
def r21_19 : List Ins := [qI 84 (.faddr 4 7), qI 85 (.faddr 3 7), qI 86 (.load 1 false 85), qI 87 (.aslf 3 84 none (some 86)), qI 88 (.len 87), qI 89 (.mov (kI 0))]
def r21_20 : List Ins := [qI 90 (.bin .lss 89 88)]
def r21_21 : List Ins := [qI 91 (.iaddr 1 87 89), qI 92 (.load 1 false 91), qI 14 (.mov 92)]
def r21_22 : List Ins := [qI 15 (.mov (.k (.string (bs []))))]
def r21_23 : List Ins := [qI 94 (.mov 5), qI 95 (.call (.fn 20) [94, (.k (.string (bs [32])))]), qI 93 (.mov 95), qI 96 (.ext 0 93), qI 97 (.ext 1 93), qI 98 (.ext 2 93), qI 15 (.mov 96), qI 5 (.mov 97)]
def r21_24 : List Ins := [qI 100 (.mov 15), qI 101 (.call (.fn 46) [100]), qI 99 (.mov 101), qI 102 (.ext 0 99), qI 103 (.ext 1 99), qI 16 (.mov 102), qI 17 (.mov 103)]
def r21_25 : List Ins := [qI 104 (.mov 17), qI 105 (.un .not 104)]
def r21_26 : List Ins := [qI 106 (.build [.int .i64 0, .int .i64 0, .int .i64 0, .int .i64 0, .slice none 0 0, .int .i64 0, .int .i64 0, .int .i64 0, .int .i64 0] []), qN (.store 9 2 106), qI 3 (.mov (kI 5))]
def r21_27 : List Ins := [qI 107 (.mov 14), qI 108 (.call (.fn 47) [10, 107]), qI 109 (.mov 16), qI 110 (.nck 108), qN (.store 1 110 109)]
def r21_28 : List Ins := [qI 111 (.bin .add 89 (kI 1)), qI 89 (.mov 111)]
def r21_29 : List Ins := [qI 112 (.load 9 true 10), qN (.store 9 2 112), qI 3 (.mov (kI 0))]
def x21 : XC := (.seq (.ops false r21_0) (.seq (.seq (.ops false r21_1) (.cond (.t 36) (.seq (.ops false r21_2) .ret) .skip)) (.seq (.ops false r21_3) (.seq (.ops false r21_4) (.seq (.seq (.ops false r21_5) (.cond (.t 50) (.seq (.ops false r21_6) .ret) .skip)) (.seq (.ops false r21_7) (.seqj [] ⟨113, [(5, .str), (9, (.int .i64))], [(2, .ptr 0 0 0), (7, .ptr 1 0 0)], [.box 29 [.d (.int .i64), .d (.int .i64), .d (.int .i64), .d (.int .i64), .nil, .d (.int .i64), .d (.int .i64), .d (.int .i64), .d (.int .i64)], .box 83 [.d .str, .d (.int .i64), .d (.int .i64), .d (.int .i64), .d (.int .i64), .d (.int .i64), .d (.int .i64)]]⟩ (.seq (.ops false r21_8) (.cond (.t 52) (.ops false r21_9) .skip)) (.seq (.ops false r21_10) (.seq (.seq (.ops false r21_11) (.cond (.t 64) (.seq (.ops false r21_12) (.seq (.seq (.ops false r21_13) (.cond (.t 72) (.seq (.ops false r21_14) .ret) .skip)) (.seq (.ops false r21_15) (.seq (.ops false r21_16) .ret)))) .skip)) (.seq (.seq (.ops false r21_17) (.cond (.t 82) (.seq (.ops false r21_18) .ret) .skip)) (.seq (.seq (.ops false r21_19) (.block 0 (.loop [] ⟨113, [(5, .str), (87, (.list (.int .i64))), (88, (.int .i64)), (89, (.int .i64))], [(2, .ptr 0 0 0), (10, .ptr 1 0 0)], [.box 29 [.d (.int .i64), .d (.int .i64), .d (.int .i64), .d (.int .i64), .nil, .d (.int .i64), .d (.int .i64), .d (.int .i64), .d (.int .i64)], .box 29 [.d (.int .i64), .d (.int .i64), .d (.int .i64), .d (.int .i64), .nil, .d (.int .i64), .d (.int .i64), .d (.int .i64), .d (.int .i64)]]⟩ (.seq (.ops false r21_20) (.seq (.cond (.t 90) .skip (.exit 0)) (.seq (.block 1 (.seq (.ops false r21_21) (.seq (.ops false r21_22) (.seq (.ops false r21_23) (.seq (.ops false r21_24) (.splt 14 .i64 [1, 2, 3, 4, 5, 6] (.seq (.seq (.ops false r21_25) (.cond (.t 105) (.seq (.ops false r21_26) .ret) .skip)) (.ops false r21_27)))))))) (.ops false r21_28))))))) (.seq (.ops false r21_29) .ret))))))))))))
theorem F21 : Fn Tryd.prog 21 113 x21.er [.c 2 9 true, .t 3] := ⟨Tryd.f21, hcl, Tryd.func21, by kernel_rfl, by kernel_rfl, by kernel_rfl, by kernel_rfl⟩
noncomputable def m21 (a0 : ByteArray) : Option (DS2 × Int × Unit) :=
 cond (or (bnd 0 (sLen a0)) (not (bEq (sEq a0 (bs [])) false)))
 (cond (or (bnd (iSub .i64 (sLen a0) 1) (sLen a0)) (not (bEq (cond (sEq a0 (bs [])) true (iEq (sAt a0 0) 32)) false)))
 (cond (cond (cond (sEq a0 (bs [])) true (iEq (sAt a0 0) 32)) true (iEq (sAt a0 (iSub .i64 (sLen a0) 1)) 32))
 (some ((0, 0, 0, (0, ([] : List DS0), 0, 0, 0, 0, ()), ()), 5, ()))
 ((mHas a0 (bs [32, 32])).bind fun y49 =>
 cond y49.1
 (some ((0, 0, 0, (0, ([] : List DS0), 0, 0, 0, 0, ()), ()), 5, ()))
 ((mCut a0 (bs [32])).bind fun y50 =>
 (m43 y50.1).bind fun y51 =>
 cond (not y51.2.1)
 (some ((0, 0, 0, (0, ([] : List DS0), 0, 0, 0, 0, ()), ()), 5, ()))
 (joinO (S := ByteArray × Int × Int × Int × Int × Int × Int × Int × Int × Int × ByteArray × Int × Int × Int × Int × Int × Int × Unit) (R := DS2 × Int × Unit)
 (cond y50.2.2.1
 ((mCount y50.2.1 (bs [32])).bind fun y52 =>
 some (.inl (y50.2.1, iAdd .i64 y52.1 1, 0, 0, 0, 0, 0, 0, 0, 0, y51.1.1, y51.1.2.1, y51.1.2.2.1, y51.1.2.2.2.1, y51.1.2.2.2.2.1.1, y51.1.2.2.2.2.1.2.1, y51.1.2.2.2.2.1.2.2.1, ())))
 (some (.inl (y50.2.1, 0, 0, 0, 0, 0, 0, 0, 0, 0, y51.1.1, y51.1.2.1, y51.1.2.2.1, y51.1.2.2.2.1, y51.1.2.2.2.2.1.1, y51.1.2.2.2.2.1.2.1, y51.1.2.2.2.2.1.2.2.1, ()))))
 (fun j53 =>
 cond (iEq j53.2.2.2.2.2.2.2.2.2.2.2.2.1 1)
 ((m45 j53.1 j53.2.1).bind fun y54 =>
 cond (iNe y54.2.1 0)
 (some ((0, 0, 0, (0, ([] : List DS0), 0, 0, 0, 0, ()), ()), y54.2.1, ()))
 (some ((j53.2.2.2.2.2.2.2.2.2.2.2.1, 0, 0, (j53.2.2.2.2.2.2.2.2.2.2.2.2.1, y54.1, 0, 0, 0, 0, ()), ()), 0, ())))
 (cond (iNe j53.2.1 j53.2.2.2.2.2.2.2.2.2.2.2.2.2.1)
 (some ((0, 0, 0, (0, ([] : List DS0), 0, 0, 0, 0, ()), ()), 5, ()))
 (cond (cutOk 0 j53.2.2.2.2.2.2.2.2.2.2.2.2.2.1 3)
 (loopO (S := ByteArray × (List Int) × Int × Int × Int × Int × Int × Int × Int × Int × Int × Int × Int × Int × Int × Int × Int × Int × Int × Int × Unit) (R := DS2 × Int × Unit) (fun s55 =>
 cond (iLt s55.2.2.2.1 s55.2.2.1)
 (cond (bnd s55.2.2.2.1 (lenI s55.2.1))
 ((mCut s55.1 (bs [32])).bind fun y56 =>
 (m46 y56.1).bind fun y57 =>
 cond (iEq (atI s55.2.1 s55.2.2.2.1 0) 1)
 (cond (not y57.2.1)
 (some (.inr ((0, 0, 0, (0, ([] : List DS0), 0, 0, 0, 0, ()), ()), 5, ())))
 ((m47 s55.2.2.2.2.2.2.2.2.2.2.2.2.1 s55.2.2.2.2.2.2.2.2.2.2.2.2.2.1 s55.2.2.2.2.2.2.2.2.2.2.2.2.2.2.1 s55.2.2.2.2.2.2.2.2.2.2.2.2.2.2.2.1 s55.2.2.2.2.2.2.2.2.2.2.2.2.2.2.2.2.1 s55.2.2.2.2.2.2.2.2.2.2.2.2.2.2.2.2.2.1 s55.2.2.2.2.2.2.2.2.2.2.2.2.2.2.2.2.2.2.1 s55.2.2.2.2.2.2.2.2.2.2.2.2.2.2.2.2.2.2.2.1).bind fun y58 =>
 some (.inl (y56.2.1, s55.2.1, s55.2.2.1, iAdd .i64 s55.2.2.2.1 1, s55.2.2.2.2.1, s55.2.2.2.2.2.1, s55.2.2.2.2.2.2.1, s55.2.2.2.2.2.2.2.1, s55.2.2.2.2.2.2.2.2.1, s55.2.2.2.2.2.2.2.2.2.1, s55.2.2.2.2.2.2.2.2.2.2.1, s55.2.2.2.2.2.2.2.2.2.2.2.1, y58.1, y57.1, y58.2.2.1, y58.2.2.2.1, y58.2.2.2.2.1, y58.2.2.2.2.2.1, y58.2.2.2.2.2.2.1, y58.2.2.2.2.2.2.2.1, ()))))
 (cond (iEq (atI s55.2.1 s55.2.2.2.1 0) 2)
 (cond (not y57.2.1)
 (some (.inr ((0, 0, 0, (0, ([] : List DS0), 0, 0, 0, 0, ()), ()), 5, ())))
 ((m47_1 s55.2.2.2.2.2.2.2.2.2.2.2.2.1 s55.2.2.2.2.2.2.2.2.2.2.2.2.2.1 s55.2.2.2.2.2.2.2.2.2.2.2.2.2.2.1 s55.2.2.2.2.2.2.2.2.2.2.2.2.2.2.2.1 s55.2.2.2.2.2.2.2.2.2.2.2.2.2.2.2.2.1 s55.2.2.2.2.2.2.2.2.2.2.2.2.2.2.2.2.2.1 s55.2.2.2.2.2.2.2.2.2.2.2.2.2.2.2.2.2.2.1 s55.2.2.2.2.2.2.2.2.2.2.2.2.2.2.2.2.2.2.2.1).bind fun y59 =>
 some (.inl (y56.2.1, s55.2.1, s55.2.2.1, iAdd .i64 s55.2.2.2.1 1, s55.2.2.2.2.1, s55.2.2.2.2.2.1, s55.2.2.2.2.2.2.1, s55.2.2.2.2.2.2.2.1, s55.2.2.2.2.2.2.2.2.1, s55.2.2.2.2.2.2.2.2.2.1, s55.2.2.2.2.2.2.2.2.2.2.1, s55.2.2.2.2.2.2.2.2.2.2.2.1, y59.1, y59.2.1, y57.1, y59.2.2.2.1, y59.2.2.2.2.1, y59.2.2.2.2.2.1, y59.2.2.2.2.2.2.1, y59.2.2.2.2.2.2.2.1, ()))))
 (cond (iEq (atI s55.2.1 s55.2.2.2.1 0) 3)
 (cond (not y57.2.1)
 (some (.inr ((0, 0, 0, (0, ([] : List DS0), 0, 0, 0, 0, ()), ()), 5, ())))
 ((m47_2 s55.2.2.2.2.2.2.2.2.2.2.2.2.1 s55.2.2.2.2.2.2.2.2.2.2.2.2.2.1 s55.2.2.2.2.2.2.2.2.2.2.2.2.2.2.1 s55.2.2.2.2.2.2.2.2.2.2.2.2.2.2.2.1 s55.2.2.2.2.2.2.2.2.2.2.2.2.2.2.2.2.1 s55.2.2.2.2.2.2.2.2.2.2.2.2.2.2.2.2.2.1 s55.2.2.2.2.2.2.2.2.2.2.2.2.2.2.2.2.2.2.1 s55.2.2.2.2.2.2.2.2.2.2.2.2.2.2.2.2.2.2.2.1).bind fun y60 =>
 some (.inl (y56.2.1, s55.2.1, s55.2.2.1, iAdd .i64 s55.2.2.2.1 1, s55.2.2.2.2.1, s55.2.2.2.2.2.1, s55.2.2.2.2.2.2.1, s55.2.2.2.2.2.2.2.1, s55.2.2.2.2.2.2.2.2.1, s55.2.2.2.2.2.2.2.2.2.1, s55.2.2.2.2.2.2.2.2.2.2.1, s55.2.2.2.2.2.2.2.2.2.2.2.1, y60.1, y60.2.1, y60.2.2.1, y60.2.2.2.1, y57.1, y60.2.2.2.2.2.1, y60.2.2.2.2.2.2.1, y60.2.2.2.2.2.2.2.1, ()))))
 (cond (iEq (atI s55.2.1 s55.2.2.2.1 0) 4)
 (cond (not y57.2.1)
 (some (.inr ((0, 0, 0, (0, ([] : List DS0), 0, 0, 0, 0, ()), ()), 5, ())))
 ((m47_3 s55.2.2.2.2.2.2.2.2.2.2.2.2.1 s55.2.2.2.2.2.2.2.2.2.2.2.2.2.1 s55.2.2.2.2.2.2.2.2.2.2.2.2.2.2.1 s55.2.2.2.2.2.2.2.2.2.2.2.2.2.2.2.1 s55.2.2.2.2.2.2.2.2.2.2.2.2.2.2.2.2.1 s55.2.2.2.2.2.2.2.2.2.2.2.2.2.2.2.2.2.1 s55.2.2.2.2.2.2.2.2.2.2.2.2.2.2.2.2.2.2.1 s55.2.2.2.2.2.2.2.2.2.2.2.2.2.2.2.2.2.2.2.1).bind fun y61 =>
 some (.inl (y56.2.1, s55.2.1, s55.2.2.1, iAdd .i64 s55.2.2.2.1 1, s55.2.2.2.2.1, s55.2.2.2.2.2.1, s55.2.2.2.2.2.2.1, s55.2.2.2.2.2.2.2.1, s55.2.2.2.2.2.2.2.2.1, s55.2.2.2.2.2.2.2.2.2.1, s55.2.2.2.2.2.2.2.2.2.2.1, s55.2.2.2.2.2.2.2.2.2.2.2.1, y61.1, y61.2.1, y61.2.2.1, y61.2.2.2.1, y61.2.2.2.2.1, y57.1, y61.2.2.2.2.2.2.1, y61.2.2.2.2.2.2.2.1, ()))))
 (cond (iEq (atI s55.2.1 s55.2.2.2.1 0) 5)
 (cond (not y57.2.1)
 (some (.inr ((0, 0, 0, (0, ([] : List DS0), 0, 0, 0, 0, ()), ()), 5, ())))
 ((m47_4 s55.2.2.2.2.2.2.2.2.2.2.2.2.1 s55.2.2.2.2.2.2.2.2.2.2.2.2.2.1 s55.2.2.2.2.2.2.2.2.2.2.2.2.2.2.1 s55.2.2.2.2.2.2.2.2.2.2.2.2.2.2.2.1 s55.2.2.2.2.2.2.2.2.2.2.2.2.2.2.2.2.1 s55.2.2.2.2.2.2.2.2.2.2.2.2.2.2.2.2.2.1 s55.2.2.2.2.2.2.2.2.2.2.2.2.2.2.2.2.2.2.1 s55.2.2.2.2.2.2.2.2.2.2.2.2.2.2.2.2.2.2.2.1).bind fun y62 =>
 some (.inl (y56.2.1, s55.2.1, s55.2.2.1, iAdd .i64 s55.2.2.2.1 1, s55.2.2.2.2.1, s55.2.2.2.2.2.1, s55.2.2.2.2.2.2.1, s55.2.2.2.2.2.2.2.1, s55.2.2.2.2.2.2.2.2.1, s55.2.2.2.2.2.2.2.2.2.1, s55.2.2.2.2.2.2.2.2.2.2.1, s55.2.2.2.2.2.2.2.2.2.2.2.1, y62.1, y62.2.1, y62.2.2.1, y62.2.2.2.1, y62.2.2.2.2.1, y62.2.2.2.2.2.1, y57.1, y62.2.2.2.2.2.2.2.1, ()))))
 (cond (iEq (atI s55.2.1 s55.2.2.2.1 0) 6)
 (cond (not y57.2.1)
 (some (.inr ((0, 0, 0, (0, ([] : List DS0), 0, 0, 0, 0, ()), ()), 5, ())))
 ((m47_5 s55.2.2.2.2.2.2.2.2.2.2.2.2.1 s55.2.2.2.2.2.2.2.2.2.2.2.2.2.1 s55.2.2.2.2.2.2.2.2.2.2.2.2.2.2.1 s55.2.2.2.2.2.2.2.2.2.2.2.2.2.2.2.1 s55.2.2.2.2.2.2.2.2.2.2.2.2.2.2.2.2.1 s55.2.2.2.2.2.2.2.2.2.2.2.2.2.2.2.2.2.1 s55.2.2.2.2.2.2.2.2.2.2.2.2.2.2.2.2.2.2.1 s55.2.2.2.2.2.2.2.2.2.2.2.2.2.2.2.2.2.2.2.1).bind fun y63 =>
 some (.inl (y56.2.1, s55.2.1, s55.2.2.1, iAdd .i64 s55.2.2.2.1 1, s55.2.2.2.2.1, s55.2.2.2.2.2.1, s55.2.2.2.2.2.2.1, s55.2.2.2.2.2.2.2.1, s55.2.2.2.2.2.2.2.2.1, s55.2.2.2.2.2.2.2.2.2.1, s55.2.2.2.2.2.2.2.2.2.2.1, s55.2.2.2.2.2.2.2.2.2.2.2.1, y63.1, y63.2.1, y63.2.2.1, y63.2.2.2.1, y63.2.2.2.2.1, y63.2.2.2.2.2.1, y63.2.2.2.2.2.2.1, y57.1, ()))))
 none)))))) none)
 (some (.inr ((s55.2.2.2.2.2.2.2.2.2.2.2.2.1, s55.2.2.2.2.2.2.2.2.2.2.2.2.2.1, s55.2.2.2.2.2.2.2.2.2.2.2.2.2.2.1, (s55.2.2.2.2.2.2.2.2.2.2.2.2.2.2.2.1, ([] : List DS0), s55.2.2.2.2.2.2.2.2.2.2.2.2.2.2.2.2.1, s55.2.2.2.2.2.2.2.2.2.2.2.2.2.2.2.2.2.1, s55.2.2.2.2.2.2.2.2.2.2.2.2.2.2.2.2.2.2.1, s55.2.2.2.2.2.2.2.2.2.2.2.2.2.2.2.2.2.2.2.1, ()), ()), 0, ()))))
 (j53.1, cutL 0 j53.2.2.2.2.2.2.2.2.2.2.2.2.2.1 ([j53.2.2.2.2.2.2.2.2.2.2.2.2.2.2.1, j53.2.2.2.2.2.2.2.2.2.2.2.2.2.2.2.1, j53.2.2.2.2.2.2.2.2.2.2.2.2.2.2.2.2.1] : List Int), lenI (cutL 0 j53.2.2.2.2.2.2.2.2.2.2.2.2.2.1 ([j53.2.2.2.2.2.2.2.2.2.2.2.2.2.2.1, j53.2.2.2.2.2.2.2.2.2.2.2.2.2.2.2.1, j53.2.2.2.2.2.2.2.2.2.2.2.2.2.2.2.2.1] : List Int)), 0, j53.2.2.1, j53.2.2.2.1, j53.2.2.2.2.1, j53.2.2.2.2.2.1, j53.2.2.2.2.2.2.1, j53.2.2.2.2.2.2.2.1, j53.2.2.2.2.2.2.2.2.1, j53.2.2.2.2.2.2.2.2.2.1, j53.2.2.2.2.2.2.2.2.2.2.2.1, 0, 0, j53.2.2.2.2.2.2.2.2.2.2.2.2.1, 0, 0, 0, 0, ())) none))))))) none) none
noncomputable def cfg21 (G : GP) : Cfg := ⟨ttab, (gtab G), [i43, i45, i46, iCount, iCut, iHas], [h47, h47_1, h47_2, h47_3, h47_4, h47_5]⟩
theorem eqn21 (G : GP) (x : ByteArray × Unit) : xfun (cfg21 G) x21 113 [.c 2 9 true, .t 3] [.str] [tS2, (.int .i64)] x = m21 x.1 := by kernel_rfl
noncomputable def i21 : PI := ⟨21, [.str], [tS2, (.int .i64)], fun (x : ByteArray × Unit) => m21 x.1⟩
theorem oki21 {G : GP} : POk Tryd.prog (gx (gtab G)) i21 := pok mixed (cfg_p oki43 (cfg_p oki45 (cfg_p oki46 (cfg_p okiCount (cfg_p okiCut (cfg_p okiHas (cfg_h okh47 (cfg_h okh47_1 (cfg_h okh47_2 (cfg_h okh47_3 (cfg_h okh47_4 (cfg_h okh47_5 (cfg_nil _ _)))))))))))) : CfgOk _ (cfg21 G)) F21 (eqn21 G)
def r11_0 : List Ins := [qI 2 (.mov kN), qI 3 (.mov (kI 0)), qI 4 (.mov (kI 0))]
def r11_1 : List Ins := [qI 5 (.mov kN)]
def r11_2 : List Ins := [qI 6 (.mov (kI 1))]
def r11_3 : List Ins := [qI 12 (.mov 0), qI 13 (.bin .neq 12 (.k (.string (bs []))))]
def r11_4 : List Ins := [qI 17 (.mov 0), qI 18 (.call (.fn 20) [17, (.k (.string (bs [10])))]), qI 16 (.mov 18), qI 19 (.ext 0 16), qI 20 (.ext 1 16), qI 21 (.ext 2 16), qI 7 (.mov 19), qI 8 (.mov 20), qI 9 (.mov 21)]
def r11_5 : List Ins := [qI 22 (.mov 9), qI 23 (.un .not 22)]
def r11_6 : List Ins := [qI 24 (.mov 6), qI 2 (.mov kN), qI 3 (.mov 24), qI 4 (.mov (kI 5))]
def r11_7 : List Ins := [qI 26 (.mov 7), qI 27 (.call (.fn 21) [26]), qI 25 (.mov 27), qI 28 (.ext 0 25), qI 29 (.ext 1 25), qI 10 (.alloc 29 (.agg #[.int .i64 0, .int .i64 0, .int .i64 0, .int .i64 0, .slice none 0 0, .int .i64 0, .int .i64 0, .int .i64 0, .int .i64 0])), qN (.store 9 10 28), qI 11 (.mov 29)]
def r11_8 : List Ins := [qI 30 (.mov 11), qI 31 (.bin .neq 30 (kI 0))]
def r11_9 : List Ins := [qI 32 (.mov 6), qI 33 (.mov 11), qI 2 (.mov kN), qI 3 (.mov 32), qI 4 (.mov 33)]
def r11_10 : List Ins := [qI 34 (.mov 5), qI 35 (.load 9 true 10), qI 36 (.bslice 29 9 [35]), qI 37 (.app 29 9 88 34 36), qI 5 (.mov 37)]
def r11_11 : List Ins := [qI 38 (.mov 8), qI 0 (.mov 38)]
def r11_12 : List Ins := [qI 14 (.mov 6), qI 15 (.bin .add 14 (kI 1)), qI 6 (.mov 15)]
def r11_13 : List Ins := [qI 39 (.mov 5), qI 2 (.mov 39), qI 3 (.mov (kI 0)), qI 4 (.mov (kI 0))]
def x11 : XC := (.seq (.ops false r11_0) (.seq (.ops false r11_1) (.seq (.seq (.ops false r11_2) (.block 0 (.loop [.gh 5 29 tS2] ⟨40, [(0, .str), (6, (.int .i64))], [(5, .row 0)], [.row 29 tS2 false]⟩ (.seq (.seq (.ops false r11_3) (.cond (.t 13) .skip (.exit 0))) (.seq (.block 1 (.seq (.ops false r11_4) (.seq (.seq (.ops false r11_5) (.cond (.t 23) (.seq (.ops false r11_6) .ret) .skip)) (.seq (.ops false r11_7) (.seq (.seq (.ops false r11_8) (.cond (.t 31) (.seq (.ops false r11_9) .ret) .skip)) (.seq (.ops false r11_10) (.ops false r11_11))))))) (.ops false r11_12)))))) (.seq (.ops false r11_13) .ret))))
theorem F11 : Fn Tryd.prog 11 40 x11.er [.t 2, .t 3, .t 4] := ⟨Tryd.f11, hcl, Tryd.func11, by kernel_rfl, by kernel_rfl, by kernel_rfl, by kernel_rfl⟩
noncomputable def m11 (a0 : ByteArray) : Option ((List DS2) × Int × Int × Unit) :=
 loopO (S := ByteArray × Int × (List DS2) × Unit) (R := (List DS2) × Int × Int × Unit) (fun s65 =>
 cond (not (sEq s65.1 (bs [])))
 ((mCut s65.1 (bs [10])).bind fun y66 =>
 cond (not y66.2.2.1)
 (some (.inr (([] : List DS2), s65.2.1, 5, ())))
 ((m21 y66.1).bind fun y67 =>
 cond (iNe y67.2.1 0)
 (some (.inr (([] : List DS2), s65.2.1, y67.2.1, ())))
 (cond (fits (List.length s65.2.2.1 + List.length ([(y67.1.1, y67.1.2.1, y67.1.2.2.1, (y67.1.2.2.2.1.1, y67.1.2.2.2.1.2.1, y67.1.2.2.2.1.2.2.1, y67.1.2.2.2.1.2.2.2.1, y67.1.2.2.2.1.2.2.2.2.1, y67.1.2.2.2.1.2.2.2.2.2.1, ()), ())] : List DS2)) 88)
 (some (.inl (y66.2.1, iAdd .i64 s65.2.1 1, s65.2.2.1 ++ ([(y67.1.1, y67.1.2.1, y67.1.2.2.1, (y67.1.2.2.2.1.1, y67.1.2.2.2.1.2.1, y67.1.2.2.2.1.2.2.1, y67.1.2.2.2.1.2.2.2.1, y67.1.2.2.2.1.2.2.2.2.1, y67.1.2.2.2.1.2.2.2.2.2.1, ()), ())] : List DS2), ()))) none)))
 (some (.inr (s65.2.2.1, 0, 0, ()))))
 (a0, 1, ([] : List DS2), ())
noncomputable def cfg11 (G : GP) : Cfg := ⟨ttab, (gtab G), [i21, iCut], []⟩
theorem eqn11 (G : GP) (x : ByteArray × Unit) : xfun (cfg11 G) x11 40 [.t 2, .t 3, .t 4] [.str] [(.list tS2), (.int .i64), (.int .i64)] x = m11 x.1 := by kernel_rfl
noncomputable def i11 : PI := ⟨11, [.str], [(.list tS2), (.int .i64), (.int .i64)], fun (x : ByteArray × Unit) => m11 x.1⟩
theorem oki11 {G : GP} : POk Tryd.prog (gx (gtab G)) i11 := pok mixed (cfg_p oki21 (cfg_p okiCut (cfg_nil _ _)) : CfgOk _ (cfg11 G)) F11 (eqn11 G)
def r60_0 : List Ins := [qI 1 (.box 29 9 0), qI 2 (.alloc 83 (.agg #[.string (bs []), .int .i64 0, .int .i64 0, .int .i64 0, .int .i64 0, .int .i64 0, .int .i64 0])), qI 3 (.mov (.k (.bool false)))]
def r60_1 : List Ins := [qI 6 (.load 77 true (.g 0)), qI 7 (.mov (kI 0))]
def r60_2 : List Ins := [qI 8 (.bin .lss 7 (kI 11))]
def r60_3 : List Ins := [qI 9 (.aidx 7 true 11 6 7), qI 5 (.alloc 83 (.agg #[.string (bs []), .int .i64 0, .int .i64 0, .int .i64 0, .int .i64 0, .int .i64 0, .int .i64 0])), qN (.store 7 5 9)]
def r60_4 : List Ins := [qI 10 (.faddr 1 5), qI 11 (.load 1 false 10), qI 12 (.faddr 0 1), qI 13 (.load 1 false 12), qI 14 (.bin .eql 11 13), qI 15 (.mov 14), qT 16 15 (.faddr 2 5), qT 17 15 (.load 1 false 16), qT 18 15 (.faddr 3 1), qT 19 15 (.faddr 0 18), qT 20 15 (.load 1 false 19), qT 21 15 (.bin .eql 17 20), qT 22 15 (.mov 21), qF 23 22 (.faddr 0 1), qF 24 22 (.load 1 false 23), qF 25 22 (.bin .neq 24 (kI 1)), qT 26 15 (.pick 22 (.k (.bool true)) 25), qI 27 (.pick 15 26 (.k (.bool false)))]
def r60_5 : List Ins := [qI 28 (.load 7 true 5), qN (.store 7 2 28), qI 3 (.mov (.k (.bool true)))]
def r60_6 : List Ins := [qI 29 (.bin .add 7 (kI 1)), qI 7 (.mov 29)]
def r60_7 : List Ins := [qI 30 (.build [.string (bs []), .int .i64 0, .int .i64 0, .int .i64 0, .int .i64 0, .int .i64 0, .int .i64 0] []), qN (.store 7 2 30), qI 3 (.mov (.k (.bool false)))]
def x60 : XC := (.seq (.ops false r60_0) (.seq (.seq (.ops false r60_1) (.block 0 (.loop [] ⟨31, [(6, tS5), (7, (.int .i64))], [(1, .ptr 0 0 0), (2, .ptr 1 0 0)], [.box 29 [.d (.int .i64), .d (.int .i64), .d (.int .i64), .d (.int .i64), .d (.list tS0), .d (.int .i64), .d (.int .i64), .d (.int .i64), .d (.int .i64)], .box 83 [.d .str, .d (.int .i64), .d (.int .i64), .d (.int .i64), .d (.int .i64), .d (.int .i64), .d (.int .i64)]]⟩ (.seq (.ops false r60_2) (.seq (.cond (.t 8) .skip (.exit 0)) (.seq (.block 1 (.seq (.ops false r60_3) (.seq (.ops false r60_4) (.cond (.t 27) (.seq (.ops false r60_5) .ret) .skip)))) (.ops false r60_6))))))) (.seq (.ops false r60_7) .ret)))
theorem F60 : Fn Tryd.prog 60 31 x60.er [.c 2 7 true, .t 3] := ⟨Tryd.f60, hcl, Tryd.func60, by kernel_rfl, by kernel_rfl, by kernel_rfl, by kernel_rfl⟩
noncomputable def m60 (a0 : DS2) : Option (DS4 × Bool × Unit) :=
 loopO (S := DS5 × Int × Int × Int × Int × Int × (List DS0) × Int × Int × Int × Int × ByteArray × Int × Int × Int × Int × Int × Int × Unit) (R := DS4 × Bool × Unit) (fun s72 =>
 cond (iLt s72.2.1 11)
 (cond (bnd s72.2.1 ((11 : Nat) : Int))
 (cond (iEq ((atI ([s72.1.1, s72.1.2.1, s72.1.2.2.1, s72.1.2.2.2.1, s72.1.2.2.2.2.1, s72.1.2.2.2.2.2.1, s72.1.2.2.2.2.2.2.1, s72.1.2.2.2.2.2.2.2.1, s72.1.2.2.2.2.2.2.2.2.1, s72.1.2.2.2.2.2.2.2.2.2.1, s72.1.2.2.2.2.2.2.2.2.2.2.1] : List DS4) s72.2.1 (ByteArray.empty, 0, 0, 0, (0, 0, 0, ()), ())).2.1) s72.2.2.1)
 (cond (cond (iEq ((atI ([s72.1.1, s72.1.2.1, s72.1.2.2.1, s72.1.2.2.2.1, s72.1.2.2.2.2.1, s72.1.2.2.2.2.2.1, s72.1.2.2.2.2.2.2.1, s72.1.2.2.2.2.2.2.2.1, s72.1.2.2.2.2.2.2.2.2.1, s72.1.2.2.2.2.2.2.2.2.2.1, s72.1.2.2.2.2.2.2.2.2.2.2.1] : List DS4) s72.2.1 (ByteArray.empty, 0, 0, 0, (0, 0, 0, ()), ())).2.2.1) s72.2.2.2.2.2.1) true (iNe s72.2.2.1 1))
 (some (.inr (((atI ([s72.1.1, s72.1.2.1, s72.1.2.2.1, s72.1.2.2.2.1, s72.1.2.2.2.2.1, s72.1.2.2.2.2.2.1, s72.1.2.2.2.2.2.2.1, s72.1.2.2.2.2.2.2.2.1, s72.1.2.2.2.2.2.2.2.2.1, s72.1.2.2.2.2.2.2.2.2.2.1, s72.1.2.2.2.2.2.2.2.2.2.2.1] : List DS4) s72.2.1 (ByteArray.empty, 0, 0, 0, (0, 0, 0, ()), ())).1, (atI ([s72.1.1, s72.1.2.1, s72.1.2.2.1, s72.1.2.2.2.1, s72.1.2.2.2.2.1, s72.1.2.2.2.2.2.1, s72.1.2.2.2.2.2.2.1, s72.1.2.2.2.2.2.2.2.1, s72.1.2.2.2.2.2.2.2.2.1, s72.1.2.2.2.2.2.2.2.2.2.1, s72.1.2.2.2.2.2.2.2.2.2.2.1] : List DS4) s72.2.1 (ByteArray.empty, 0, 0, 0, (0, 0, 0, ()), ())).2.1, (atI ([s72.1.1, s72.1.2.1, s72.1.2.2.1, s72.1.2.2.2.1, s72.1.2.2.2.2.1, s72.1.2.2.2.2.2.1, s72.1.2.2.2.2.2.2.1, s72.1.2.2.2.2.2.2.2.1, s72.1.2.2.2.2.2.2.2.2.1, s72.1.2.2.2.2.2.2.2.2.2.1, s72.1.2.2.2.2.2.2.2.2.2.2.1] : List DS4) s72.2.1 (ByteArray.empty, 0, 0, 0, (0, 0, 0, ()), ())).2.2.1, (atI ([s72.1.1, s72.1.2.1, s72.1.2.2.1, s72.1.2.2.2.1, s72.1.2.2.2.2.1, s72.1.2.2.2.2.2.1, s72.1.2.2.2.2.2.2.1, s72.1.2.2.2.2.2.2.2.1, s72.1.2.2.2.2.2.2.2.2.1, s72.1.2.2.2.2.2.2.2.2.2.1, s72.1.2.2.2.2.2.2.2.2.2.2.1] : List DS4) s72.2.1 (ByteArray.empty, 0, 0, 0, (0, 0, 0, ()), ())).2.2.2.1, (((atI ([s72.1.1, s72.1.2.1, s72.1.2.2.1, s72.1.2.2.2.1, s72.1.2.2.2.2.1, s72.1.2.2.2.2.2.1, s72.1.2.2.2.2.2.2.1, s72.1.2.2.2.2.2.2.2.1, s72.1.2.2.2.2.2.2.2.2.1, s72.1.2.2.2.2.2.2.2.2.2.1, s72.1.2.2.2.2.2.2.2.2.2.2.1] : List DS4) s72.2.1 (ByteArray.empty, 0, 0, 0, (0, 0, 0, ()), ())).2.2.2.2.1).1, ((atI ([s72.1.1, s72.1.2.1, s72.1.2.2.1, s72.1.2.2.2.1, s72.1.2.2.2.2.1, s72.1.2.2.2.2.2.1, s72.1.2.2.2.2.2.2.1, s72.1.2.2.2.2.2.2.2.1, s72.1.2.2.2.2.2.2.2.2.1, s72.1.2.2.2.2.2.2.2.2.2.1, s72.1.2.2.2.2.2.2.2.2.2.2.1] : List DS4) s72.2.1 (ByteArray.empty, 0, 0, 0, (0, 0, 0, ()), ())).2.2.2.2.1).2.1, ((atI ([s72.1.1, s72.1.2.1, s72.1.2.2.1, s72.1.2.2.2.1, s72.1.2.2.2.2.1, s72.1.2.2.2.2.2.1, s72.1.2.2.2.2.2.2.1, s72.1.2.2.2.2.2.2.2.1, s72.1.2.2.2.2.2.2.2.2.1, s72.1.2.2.2.2.2.2.2.2.2.1, s72.1.2.2.2.2.2.2.2.2.2.2.1] : List DS4) s72.2.1 (ByteArray.empty, 0, 0, 0, (0, 0, 0, ()), ())).2.2.2.2.1).2.2.1, ()), ()), true, ())))
 (some (.inl (s72.1, iAdd .i64 s72.2.1 1, s72.2.2.1, s72.2.2.2.1, s72.2.2.2.2.1, s72.2.2.2.2.2.1, s72.2.2.2.2.2.2.1, s72.2.2.2.2.2.2.2.1, s72.2.2.2.2.2.2.2.2.1, s72.2.2.2.2.2.2.2.2.2.1, s72.2.2.2.2.2.2.2.2.2.2.1, s72.2.2.2.2.2.2.2.2.2.2.2.1, s72.2.2.2.2.2.2.2.2.2.2.2.2.1, s72.2.2.2.2.2.2.2.2.2.2.2.2.2.1, s72.2.2.2.2.2.2.2.2.2.2.2.2.2.2.1, s72.2.2.2.2.2.2.2.2.2.2.2.2.2.2.2.1, s72.2.2.2.2.2.2.2.2.2.2.2.2.2.2.2.2.1, s72.2.2.2.2.2.2.2.2.2.2.2.2.2.2.2.2.2.1, ()))))
 (some (.inl (s72.1, iAdd .i64 s72.2.1 1, s72.2.2.1, s72.2.2.2.1, s72.2.2.2.2.1, s72.2.2.2.2.2.1, s72.2.2.2.2.2.2.1, s72.2.2.2.2.2.2.2.1, s72.2.2.2.2.2.2.2.2.1, s72.2.2.2.2.2.2.2.2.2.1, s72.2.2.2.2.2.2.2.2.2.2.1, s72.2.2.2.2.2.2.2.2.2.2.2.1, s72.2.2.2.2.2.2.2.2.2.2.2.2.1, s72.2.2.2.2.2.2.2.2.2.2.2.2.2.1, s72.2.2.2.2.2.2.2.2.2.2.2.2.2.2.1, s72.2.2.2.2.2.2.2.2.2.2.2.2.2.2.2.1, s72.2.2.2.2.2.2.2.2.2.2.2.2.2.2.2.2.1, s72.2.2.2.2.2.2.2.2.2.2.2.2.2.2.2.2.2.1, ())))) none)
 (some (.inr (((bs []), 0, 0, 0, (0, 0, 0, ()), ()), false, ()))))
 ((((bs [114, 101, 112, 111, 114, 116]), 1, 1, 0, (0, 0, 0, ()), ()), ((bs [99, 108, 111, 115, 101]), 1, 2, 0, (0, 0, 0, ()), ()), ((bs [115, 101, 116, 116, 108, 101]), 1, 3, 2, (3, 5, 0, ()), ()), ((bs [99, 111, 109, 109, 117, 116, 101]), 1, 4, 3, (3, 5, 6, ()), ()), ((bs [116, 114, 97, 110, 115, 102, 101, 114]), 1, 5, 2, (3, 4, 0, ()), ()), ((bs [116, 105, 99, 107]), 2, 0, 1, (1, 0, 0, ()), ()), ((bs [100, 101, 108, 105, 118, 101, 114]), 3, 0, 1, (2, 0, 0, ()), ()), ((bs [108, 111, 115, 101]), 4, 0, 1, (2, 0, 0, ()), ()), ((bs [114, 101, 112, 101, 97, 116]), 5, 0, 1, (2, 0, 0, ()), ()), ((bs [99, 114, 97, 115, 104]), 6, 0, 2, (1, 2, 0, ()), ()), ((bs [114, 101, 115, 116, 97, 114, 116]), 7, 0, 1, (1, 0, 0, ()), ()), ()), 0, a0.1, a0.2.1, a0.2.2.1, a0.2.2.2.1.1, a0.2.2.2.1.2.1, a0.2.2.2.1.2.2.1, a0.2.2.2.1.2.2.2.1, a0.2.2.2.1.2.2.2.2.1, a0.2.2.2.1.2.2.2.2.2.1, (bs []), 0, 0, 0, 0, 0, 0, ())
noncomputable def cfg60 (G : GP) : Cfg := ⟨ttab, (gtab G), [], []⟩
theorem eqn60 (G : GP) (x : DS2 × Unit) : xfun (cfg60 G) x60 31 [.c 2 7 true, .t 3] [tS2] [tS4, .bool] x = m60 x.1 := by kernel_rfl
noncomputable def i60 : PI := ⟨60, [tS2], [tS4, .bool], fun (x : DS2 × Unit) => m60 x.1⟩
theorem oki60 {G : GP} : POk Tryd.prog (gx (gtab G)) i60 := pok mixed (cfg_nil _ _ : CfgOk _ (cfg60 G)) F60 (eqn60 G)
def x47_6 : XC := (.seq (.ops false r47_0) (.seq (.seq (.ops false r47_1) (.block 0 (.seq (.ops false r47_2) (.cond (.t 6) (.seq (.ops false r47_3) .ret) (.seq (.ops false r47_4) (.cond (.t 11) (.seq (.ops false r47_5) .ret) (.seq (.ops false r47_6) (.cond (.t 16) (.seq (.ops false r47_7) .ret) (.seq (.ops false r47_8) (.cond (.t 22) (.seq (.ops false r47_9) .ret) (.seq (.ops false r47_10) (.cond (.t 28) (.seq (.ops false r47_11) .ret) .skip)))))))))))) (.seq (.ops false r47_12) .ret)))
theorem F47_6 : Fn Tryd.prog 47 38 x47_6.er [.t 4] := ⟨Tryd.f47, hcl, Tryd.func47, by kernel_rfl, by kernel_rfl, by kernel_rfl, by kernel_rfl⟩
noncomputable def m47_6 (a0 : Int) (a1 : Int) (a2 : Int) (a3 : Int) (a4 : List DS0) (a5 : Int) (a6 : Int) (a7 : Int) (a8 : Int) : Option (Int × Int × Int × Int × (List DS0) × Int × Int × Int × Int × Unit) :=
 some (a0, a1, a2, a3, a4, a5, a6, a7, a8, ())
noncomputable def cfg47_6 (G : GP) : Cfg := ⟨ttab, (gtab G), [], []⟩
def ish47_6 : Sh := ⟨2, [], [(0, .ptr 0 0 0), (1, .cst .i64 1)], [.box 29 [.d (.int .i64), .d (.int .i64), .d (.int .i64), .d (.int .i64), .d (.list tS0), .d (.int .i64), .d (.int .i64), .d (.int .i64), .d (.int .i64)]]⟩
def osh47_6 : Sh := ⟨1, [], [(0, .ptr 0 0 1)], [.box 29 [.d (.int .i64), .d (.int .i64), .d (.int .i64), .d (.int .i64), .d (.list tS0), .d (.int .i64), .d (.int .i64), .d (.int .i64), .d (.int .i64)]]⟩
theorem eqn47_6 (G : GP) (x : Int × Int × Int × Int × (List DS0) × Int × Int × Int × Int × Unit) : xfunH (cfg47_6 G) x47_6 38 [.t 4] [] ish47_6 osh47_6 x = m47_6 x.1 x.2.1 x.2.2.1 x.2.2.2.1 x.2.2.2.2.1 x.2.2.2.2.2.1 x.2.2.2.2.2.2.1 x.2.2.2.2.2.2.2.1 x.2.2.2.2.2.2.2.2.1 := by kernel_rfl
noncomputable def h47_6 : HI := ⟨47, ish47_6, osh47_6, fun (x : Int × Int × Int × Int × (List DS0) × Int × Int × Int × Int × Unit) => m47_6 x.1 x.2.1 x.2.2.1 x.2.2.2.1 x.2.2.2.2.1 x.2.2.2.2.2.1 x.2.2.2.2.2.2.1 x.2.2.2.2.2.2.2.1 x.2.2.2.2.2.2.2.2.1⟩
theorem okh47_6 {G : GP} : HOk Tryd.prog (gx (gtab G)) h47_6 := hok mixed (cfg_nil _ _ : CfgOk _ (cfg47_6 G)) F47_6 (eqn47_6 G)
def x47_7 : XC := (.seq (.ops false r47_0) (.seq (.seq (.ops false r47_1) (.block 0 (.seq (.ops false r47_2) (.cond (.t 6) (.seq (.ops false r47_3) .ret) (.seq (.ops false r47_4) (.cond (.t 11) (.seq (.ops false r47_5) .ret) (.seq (.ops false r47_6) (.cond (.t 16) (.seq (.ops false r47_7) .ret) (.seq (.ops false r47_8) (.cond (.t 22) (.seq (.ops false r47_9) .ret) (.seq (.ops false r47_10) (.cond (.t 28) (.seq (.ops false r47_11) .ret) .skip)))))))))))) (.seq (.ops false r47_12) .ret)))
theorem F47_7 : Fn Tryd.prog 47 38 x47_7.er [.t 4] := ⟨Tryd.f47, hcl, Tryd.func47, by kernel_rfl, by kernel_rfl, by kernel_rfl, by kernel_rfl⟩
noncomputable def m47_7 (a0 : Int) (a1 : Int) (a2 : Int) (a3 : Int) (a4 : List DS0) (a5 : Int) (a6 : Int) (a7 : Int) (a8 : Int) : Option (Int × Int × Int × Int × (List DS0) × Int × Int × Int × Int × Unit) :=
 some (a0, a1, a2, a3, a4, a5, a6, a7, a8, ())
noncomputable def cfg47_7 (G : GP) : Cfg := ⟨ttab, (gtab G), [], []⟩
def ish47_7 : Sh := ⟨2, [], [(0, .ptr 0 0 0), (1, .cst .i64 2)], [.box 29 [.d (.int .i64), .d (.int .i64), .d (.int .i64), .d (.int .i64), .d (.list tS0), .d (.int .i64), .d (.int .i64), .d (.int .i64), .d (.int .i64)]]⟩
def osh47_7 : Sh := ⟨1, [], [(0, .ptr 0 0 2)], [.box 29 [.d (.int .i64), .d (.int .i64), .d (.int .i64), .d (.int .i64), .d (.list tS0), .d (.int .i64), .d (.int .i64), .d (.int .i64), .d (.int .i64)]]⟩
theorem eqn47_7 (G : GP) (x : Int × Int × Int × Int × (List DS0) × Int × Int × Int × Int × Unit) : xfunH (cfg47_7 G) x47_7 38 [.t 4] [] ish47_7 osh47_7 x = m47_7 x.1 x.2.1 x.2.2.1 x.2.2.2.1 x.2.2.2.2.1 x.2.2.2.2.2.1 x.2.2.2.2.2.2.1 x.2.2.2.2.2.2.2.1 x.2.2.2.2.2.2.2.2.1 := by kernel_rfl
noncomputable def h47_7 : HI := ⟨47, ish47_7, osh47_7, fun (x : Int × Int × Int × Int × (List DS0) × Int × Int × Int × Int × Unit) => m47_7 x.1 x.2.1 x.2.2.1 x.2.2.2.1 x.2.2.2.2.1 x.2.2.2.2.2.1 x.2.2.2.2.2.2.1 x.2.2.2.2.2.2.2.1 x.2.2.2.2.2.2.2.2.1⟩
theorem okh47_7 {G : GP} : HOk Tryd.prog (gx (gtab G)) h47_7 := hok mixed (cfg_nil _ _ : CfgOk _ (cfg47_7 G)) F47_7 (eqn47_7 G)
def x47_8 : XC := (.seq (.ops false r47_0) (.seq (.seq (.ops false r47_1) (.block 0 (.seq (.ops false r47_2) (.cond (.t 6) (.seq (.ops false r47_3) .ret) (.seq (.ops false r47_4) (.cond (.t 11) (.seq (.ops false r47_5) .ret) (.seq (.ops false r47_6) (.cond (.t 16) (.seq (.ops false r47_7) .ret) (.seq (.ops false r47_8) (.cond (.t 22) (.seq (.ops false r47_9) .ret) (.seq (.ops false r47_10) (.cond (.t 28) (.seq (.ops false r47_11) .ret) .skip)))))))))))) (.seq (.ops false r47_12) .ret)))
theorem F47_8 : Fn Tryd.prog 47 38 x47_8.er [.t 4] := ⟨Tryd.f47, hcl, Tryd.func47, by kernel_rfl, by kernel_rfl, by kernel_rfl, by kernel_rfl⟩
noncomputable def m47_8 (a0 : Int) (a1 : Int) (a2 : Int) (a3 : Int) (a4 : List DS0) (a5 : Int) (a6 : Int) (a7 : Int) (a8 : Int) : Option (Int × Int × Int × Int × (List DS0) × Int × Int × Int × Int × Unit) :=
 some (a0, a1, a2, a3, a4, a5, a6, a7, a8, ())
noncomputable def cfg47_8 (G : GP) : Cfg := ⟨ttab, (gtab G), [], []⟩
def ish47_8 : Sh := ⟨2, [], [(0, .ptr 0 0 0), (1, .cst .i64 3)], [.box 29 [.d (.int .i64), .d (.int .i64), .d (.int .i64), .d (.int .i64), .d (.list tS0), .d (.int .i64), .d (.int .i64), .d (.int .i64), .d (.int .i64)]]⟩
def osh47_8 : Sh := ⟨1, [], [(0, .ptr 0 0 5)], [.box 29 [.d (.int .i64), .d (.int .i64), .d (.int .i64), .d (.int .i64), .d (.list tS0), .d (.int .i64), .d (.int .i64), .d (.int .i64), .d (.int .i64)]]⟩
theorem eqn47_8 (G : GP) (x : Int × Int × Int × Int × (List DS0) × Int × Int × Int × Int × Unit) : xfunH (cfg47_8 G) x47_8 38 [.t 4] [] ish47_8 osh47_8 x = m47_8 x.1 x.2.1 x.2.2.1 x.2.2.2.1 x.2.2.2.2.1 x.2.2.2.2.2.1 x.2.2.2.2.2.2.1 x.2.2.2.2.2.2.2.1 x.2.2.2.2.2.2.2.2.1 := by kernel_rfl
noncomputable def h47_8 : HI := ⟨47, ish47_8, osh47_8, fun (x : Int × Int × Int × Int × (List DS0) × Int × Int × Int × Int × Unit) => m47_8 x.1 x.2.1 x.2.2.1 x.2.2.2.1 x.2.2.2.2.1 x.2.2.2.2.2.1 x.2.2.2.2.2.2.1 x.2.2.2.2.2.2.2.1 x.2.2.2.2.2.2.2.2.1⟩
theorem okh47_8 {G : GP} : HOk Tryd.prog (gx (gtab G)) h47_8 := hok mixed (cfg_nil _ _ : CfgOk _ (cfg47_8 G)) F47_8 (eqn47_8 G)
def x47_9 : XC := (.seq (.ops false r47_0) (.seq (.seq (.ops false r47_1) (.block 0 (.seq (.ops false r47_2) (.cond (.t 6) (.seq (.ops false r47_3) .ret) (.seq (.ops false r47_4) (.cond (.t 11) (.seq (.ops false r47_5) .ret) (.seq (.ops false r47_6) (.cond (.t 16) (.seq (.ops false r47_7) .ret) (.seq (.ops false r47_8) (.cond (.t 22) (.seq (.ops false r47_9) .ret) (.seq (.ops false r47_10) (.cond (.t 28) (.seq (.ops false r47_11) .ret) .skip)))))))))))) (.seq (.ops false r47_12) .ret)))
theorem F47_9 : Fn Tryd.prog 47 38 x47_9.er [.t 4] := ⟨Tryd.f47, hcl, Tryd.func47, by kernel_rfl, by kernel_rfl, by kernel_rfl, by kernel_rfl⟩
noncomputable def m47_9 (a0 : Int) (a1 : Int) (a2 : Int) (a3 : Int) (a4 : List DS0) (a5 : Int) (a6 : Int) (a7 : Int) (a8 : Int) : Option (Int × Int × Int × Int × (List DS0) × Int × Int × Int × Int × Unit) :=
 some (a0, a1, a2, a3, a4, a5, a6, a7, a8, ())
noncomputable def cfg47_9 (G : GP) : Cfg := ⟨ttab, (gtab G), [], []⟩
def ish47_9 : Sh := ⟨2, [], [(0, .ptr 0 0 0), (1, .cst .i64 4)], [.box 29 [.d (.int .i64), .d (.int .i64), .d (.int .i64), .d (.int .i64), .d (.list tS0), .d (.int .i64), .d (.int .i64), .d (.int .i64), .d (.int .i64)]]⟩
def osh47_9 : Sh := ⟨1, [], [(0, .ptr 0 0 6)], [.box 29 [.d (.int .i64), .d (.int .i64), .d (.int .i64), .d (.int .i64), .d (.list tS0), .d (.int .i64), .d (.int .i64), .d (.int .i64), .d (.int .i64)]]⟩
theorem eqn47_9 (G : GP) (x : Int × Int × Int × Int × (List DS0) × Int × Int × Int × Int × Unit) : xfunH (cfg47_9 G) x47_9 38 [.t 4] [] ish47_9 osh47_9 x = m47_9 x.1 x.2.1 x.2.2.1 x.2.2.2.1 x.2.2.2.2.1 x.2.2.2.2.2.1 x.2.2.2.2.2.2.1 x.2.2.2.2.2.2.2.1 x.2.2.2.2.2.2.2.2.1 := by kernel_rfl
noncomputable def h47_9 : HI := ⟨47, ish47_9, osh47_9, fun (x : Int × Int × Int × Int × (List DS0) × Int × Int × Int × Int × Unit) => m47_9 x.1 x.2.1 x.2.2.1 x.2.2.2.1 x.2.2.2.2.1 x.2.2.2.2.2.1 x.2.2.2.2.2.2.1 x.2.2.2.2.2.2.2.1 x.2.2.2.2.2.2.2.2.1⟩
theorem okh47_9 {G : GP} : HOk Tryd.prog (gx (gtab G)) h47_9 := hok mixed (cfg_nil _ _ : CfgOk _ (cfg47_9 G)) F47_9 (eqn47_9 G)
def x47_10 : XC := (.seq (.ops false r47_0) (.seq (.seq (.ops false r47_1) (.block 0 (.seq (.ops false r47_2) (.cond (.t 6) (.seq (.ops false r47_3) .ret) (.seq (.ops false r47_4) (.cond (.t 11) (.seq (.ops false r47_5) .ret) (.seq (.ops false r47_6) (.cond (.t 16) (.seq (.ops false r47_7) .ret) (.seq (.ops false r47_8) (.cond (.t 22) (.seq (.ops false r47_9) .ret) (.seq (.ops false r47_10) (.cond (.t 28) (.seq (.ops false r47_11) .ret) .skip)))))))))))) (.seq (.ops false r47_12) .ret)))
theorem F47_10 : Fn Tryd.prog 47 38 x47_10.er [.t 4] := ⟨Tryd.f47, hcl, Tryd.func47, by kernel_rfl, by kernel_rfl, by kernel_rfl, by kernel_rfl⟩
noncomputable def m47_10 (a0 : Int) (a1 : Int) (a2 : Int) (a3 : Int) (a4 : List DS0) (a5 : Int) (a6 : Int) (a7 : Int) (a8 : Int) : Option (Int × Int × Int × Int × (List DS0) × Int × Int × Int × Int × Unit) :=
 some (a0, a1, a2, a3, a4, a5, a6, a7, a8, ())
noncomputable def cfg47_10 (G : GP) : Cfg := ⟨ttab, (gtab G), [], []⟩
def ish47_10 : Sh := ⟨2, [], [(0, .ptr 0 0 0), (1, .cst .i64 5)], [.box 29 [.d (.int .i64), .d (.int .i64), .d (.int .i64), .d (.int .i64), .d (.list tS0), .d (.int .i64), .d (.int .i64), .d (.int .i64), .d (.int .i64)]]⟩
def osh47_10 : Sh := ⟨1, [], [(0, .ptr 0 0 7)], [.box 29 [.d (.int .i64), .d (.int .i64), .d (.int .i64), .d (.int .i64), .d (.list tS0), .d (.int .i64), .d (.int .i64), .d (.int .i64), .d (.int .i64)]]⟩
theorem eqn47_10 (G : GP) (x : Int × Int × Int × Int × (List DS0) × Int × Int × Int × Int × Unit) : xfunH (cfg47_10 G) x47_10 38 [.t 4] [] ish47_10 osh47_10 x = m47_10 x.1 x.2.1 x.2.2.1 x.2.2.2.1 x.2.2.2.2.1 x.2.2.2.2.2.1 x.2.2.2.2.2.2.1 x.2.2.2.2.2.2.2.1 x.2.2.2.2.2.2.2.2.1 := by kernel_rfl
noncomputable def h47_10 : HI := ⟨47, ish47_10, osh47_10, fun (x : Int × Int × Int × Int × (List DS0) × Int × Int × Int × Int × Unit) => m47_10 x.1 x.2.1 x.2.2.1 x.2.2.2.1 x.2.2.2.2.1 x.2.2.2.2.2.1 x.2.2.2.2.2.2.1 x.2.2.2.2.2.2.2.1 x.2.2.2.2.2.2.2.2.1⟩
theorem okh47_10 {G : GP} : HOk Tryd.prog (gx (gtab G)) h47_10 := hok mixed (cfg_nil _ _ : CfgOk _ (cfg47_10 G)) F47_10 (eqn47_10 G)
def x47_11 : XC := (.seq (.ops false r47_0) (.seq (.seq (.ops false r47_1) (.block 0 (.seq (.ops false r47_2) (.cond (.t 6) (.seq (.ops false r47_3) .ret) (.seq (.ops false r47_4) (.cond (.t 11) (.seq (.ops false r47_5) .ret) (.seq (.ops false r47_6) (.cond (.t 16) (.seq (.ops false r47_7) .ret) (.seq (.ops false r47_8) (.cond (.t 22) (.seq (.ops false r47_9) .ret) (.seq (.ops false r47_10) (.cond (.t 28) (.seq (.ops false r47_11) .ret) .skip)))))))))))) (.seq (.ops false r47_12) .ret)))
theorem F47_11 : Fn Tryd.prog 47 38 x47_11.er [.t 4] := ⟨Tryd.f47, hcl, Tryd.func47, by kernel_rfl, by kernel_rfl, by kernel_rfl, by kernel_rfl⟩
noncomputable def m47_11 (a0 : Int) (a1 : Int) (a2 : Int) (a3 : Int) (a4 : List DS0) (a5 : Int) (a6 : Int) (a7 : Int) (a8 : Int) : Option (Int × Int × Int × Int × (List DS0) × Int × Int × Int × Int × Unit) :=
 some (a0, a1, a2, a3, a4, a5, a6, a7, a8, ())
noncomputable def cfg47_11 (G : GP) : Cfg := ⟨ttab, (gtab G), [], []⟩
def ish47_11 : Sh := ⟨2, [], [(0, .ptr 0 0 0), (1, .cst .i64 6)], [.box 29 [.d (.int .i64), .d (.int .i64), .d (.int .i64), .d (.int .i64), .d (.list tS0), .d (.int .i64), .d (.int .i64), .d (.int .i64), .d (.int .i64)]]⟩
def osh47_11 : Sh := ⟨1, [], [(0, .ptr 0 0 8)], [.box 29 [.d (.int .i64), .d (.int .i64), .d (.int .i64), .d (.int .i64), .d (.list tS0), .d (.int .i64), .d (.int .i64), .d (.int .i64), .d (.int .i64)]]⟩
theorem eqn47_11 (G : GP) (x : Int × Int × Int × Int × (List DS0) × Int × Int × Int × Int × Unit) : xfunH (cfg47_11 G) x47_11 38 [.t 4] [] ish47_11 osh47_11 x = m47_11 x.1 x.2.1 x.2.2.1 x.2.2.2.1 x.2.2.2.2.1 x.2.2.2.2.2.1 x.2.2.2.2.2.2.1 x.2.2.2.2.2.2.2.1 x.2.2.2.2.2.2.2.2.1 := by kernel_rfl
noncomputable def h47_11 : HI := ⟨47, ish47_11, osh47_11, fun (x : Int × Int × Int × Int × (List DS0) × Int × Int × Int × Int × Unit) => m47_11 x.1 x.2.1 x.2.2.1 x.2.2.2.1 x.2.2.2.2.1 x.2.2.2.2.2.1 x.2.2.2.2.2.2.1 x.2.2.2.2.2.2.2.1 x.2.2.2.2.2.2.2.2.1⟩
theorem okh47_11 {G : GP} : HOk Tryd.prog (gx (gtab G)) h47_11 := hok mixed (cfg_nil _ _ : CfgOk _ (cfg47_11 G)) F47_11 (eqn47_11 G)
def r33_0 : List Ins := [qI 1 (.box 29 9 0), qI 2 (.alloc 83 (.agg #[.string (bs []), .int .i64 0, .int .i64 0, .int .i64 0, .int .i64 0, .int .i64 0, .int .i64 0])), qI 3 (.mov kN), qI 4 (.mov (kI 0))]
def r33_1 : List Ins := [qI 17 (.load 9 true 1), qI 18 (.call (.fn 60) [17]), qI 16 (.mov 18), qI 19 (.ext 0 16), qI 20 (.ext 1 16), qI 5 (.alloc 83 (.agg #[.string (bs []), .int .i64 0, .int .i64 0, .int .i64 0, .int .i64 0, .int .i64 0, .int .i64 0])), qN (.store 7 5 19), qI 6 (.mov 20)]
def r33_2 : List Ins := [qI 21 (.mov 6), qI 22 (.un .not 21)]
def r33_3 : List Ins := [qI 23 (.build [.string (bs []), .int .i64 0, .int .i64 0, .int .i64 0, .int .i64 0, .int .i64 0, .int .i64 0] []), qN (.store 7 2 23), qI 3 (.mov kN), qI 4 (.mov (kI 11))]
def r33_4 : List Ins := [qI 24 (.load 9 true 1), qI 7 (.alloc 29 (.agg #[.int .i64 0, .int .i64 0, .int .i64 0, .int .i64 0, .slice none 0 0, .int .i64 0, .int .i64 0, .int .i64 0, .int .i64 0])), qN (.store 9 7 24)]
def r33_5 : List Ins := [qI 8 (.mov kN)]
def r33_6 : List Ins := [qI 25 (.faddr 4 5), qI 26 (.faddr 3 5), qI 27 (.load 1 false 26), qI 28 (.aslf 3 25 none (some 27)), qI 29 (.len 28), qI 30 (.mov (kI 0))]
def r33_7 : List Ins := [qI 31 (.bin .lss 30 29)]
def r33_8 : List Ins := [qI 32 (.iaddr 1 28 30), qI 33 (.load 1 false 32), qI 10 (.mov 33)]
def r33_9 : List Ins := [qI 34 (.mov 8), qI 35 (.mov 10), qI 36 (.call (.fn 47) [7, 35]), qI 37 (.nck 36), qI 38 (.load 1 false 37), qI 39 (.bslice 3 1 [38]), qI 40 (.app 3 1 8 34 39), qI 8 (.mov 40)]
def r33_10 : List Ins := [qI 41 (.mov 10), qI 42 (.call (.fn 47) [7, 41]), qI 43 (.nck 42), qN (.store 1 43 (kI 0))]
def r33_11 : List Ins := [qI 44 (.bin .add 30 (kI 1)), qI 30 (.mov 44)]
def r33_12 : List Ins := [qI 45 (.faddr 3 7), qI 46 (.load 6 true 45), qI 11 (.alloc 27 (.agg #[.int .i64 0, .slice none 0 0, .int .i64 0, .int .i64 0, .int .i64 0, .int .i64 0])), qN (.store 6 11 46)]
def r33_13 : List Ins := [qI 47 (.faddr 1 7), qI 48 (.load 1 false 47), qI 49 (.bin .neq 48 (kI 0)), qI 50 (.mov 49), qF 51 50 (.faddr 2 7), qF 52 50 (.load 1 false 51), qF 53 50 (.bin .neq 52 (kI 0)), qI 54 (.pick 50 (.k (.bool true)) 53), qI 55 (.mov 54), qF 56 55 (.faddr 0 11), qF 57 55 (.load 1 false 56), qF 58 55 (.faddr 2 5), qF 59 55 (.load 1 false 58), qF 60 55 (.bin .neq 57 59), qI 61 (.pick 55 (.k (.bool true)) 60), qI 62 (.mov 61), qF 63 62 (.faddr 2 11), qF 64 62 (.load 1 false 63), qF 65 62 (.bin .neq 64 (kI 0)), qI 66 (.pick 62 (.k (.bool true)) 65), qI 67 (.mov 66), qF 68 67 (.faddr 3 11), qF 69 67 (.load 1 false 68), qF 70 67 (.bin .neq 69 (kI 0)), qI 71 (.pick 67 (.k (.bool true)) 70), qI 72 (.mov 71), qF 73 72 (.faddr 4 11), qF 74 72 (.load 1 false 73), qF 75 72 (.bin .neq 74 (kI 0)), qI 76 (.pick 72 (.k (.bool true)) 75), qI 77 (.mov 76), qF 78 77 (.faddr 5 11), qF 79 77 (.load 1 false 78), qF 80 77 (.bin .neq 79 (kI 0)), qI 81 (.pick 77 (.k (.bool true)) 80)]
def r33_14 : List Ins := [qI 82 (.build [.string (bs []), .int .i64 0, .int .i64 0, .int .i64 0, .int .i64 0, .int .i64 0, .int .i64 0] []), qN (.store 7 2 82), qI 3 (.mov kN), qI 4 (.mov (kI 20))]
def r33_15 : List Ins := [qI 83 (.faddr 2 5), qI 84 (.load 1 false 83), qI 85 (.bin .neq 84 (kI 1))]
def r33_16 : List Ins := [qI 86 (.faddr 1 11), qI 87 (.load 1 false 86), qI 88 (.len 87), qI 89 (.bin .gtr 88 (kI 0))]
def r33_17 : List Ins := [qI 90 (.build [.string (bs []), .int .i64 0, .int .i64 0, .int .i64 0, .int .i64 0, .int .i64 0, .int .i64 0] []), qN (.store 7 2 90), qI 3 (.mov kN), qI 4 (.mov (kI 20))]
def r33_18 : List Ins := [qI 91 (.load 7 true 5), qI 92 (.mov 8), qN (.store 7 2 91), qI 3 (.mov 92), qI 4 (.mov (kI 0))]
def r33_19 : List Ins := [qI 93 (.faddr 1 11), qI 94 (.load 1 false 93), qI 95 (.len 94), qI 96 (.bin .gtr 95 (kI 64))]
def r33_20 : List Ins := [qI 97 (.build [.string (bs []), .int .i64 0, .int .i64 0, .int .i64 0, .int .i64 0, .int .i64 0, .int .i64 0] []), qN (.store 7 2 97), qI 3 (.mov kN), qI 4 (.mov (kI 4))]
def r33_21 : List Ins := [qI 98 (.faddr 1 11), qI 99 (.load 1 false 98), qI 100 (.len 99), qI 101 (.mov (kI 0))]
def r33_22 : List Ins := [qI 102 (.bin .lss 101 100)]
def r33_23 : List Ins := [qI 103 (.iaddr 10 99 101), qI 104 (.load 10 true 103), qI 13 (.alloc 98 (.agg #[.int .i64 0, .int .i64 0, .int .i64 0, .int .i64 0, .int .i64 0, .int .i64 0, .int .i64 0, .int .i64 0, .int .i64 0, .int .i64 0])), qN (.store 10 13 104)]
def r33_24 : List Ins := [qI 105 (.call (.fn 61) [13]), qI 106 (.mov (kI 0))]
def r33_25 : List Ins := [qI 107 (.bin .lss 106 (kI 10))]
def r33_26 : List Ins := [qI 108 (.aidx 1 false 10 105 106), qI 15 (.mov 108)]
def r33_27 : List Ins := [qI 109 (.mov 8), qI 110 (.mov 15), qI 111 (.nck 110), qI 112 (.load 1 false 111), qI 113 (.bslice 3 1 [112]), qI 114 (.app 3 1 8 109 113), qI 8 (.mov 114)]
def r33_28 : List Ins := [qI 115 (.bin .add 106 (kI 1)), qI 106 (.mov 115)]
def r33_29 : List Ins := [qI 116 (.bin .add 101 (kI 1)), qI 101 (.mov 116)]
def r33_30 : List Ins := [qI 117 (.load 7 true 5), qI 118 (.mov 8), qN (.store 7 2 117), qI 3 (.mov 118), qI 4 (.mov (kI 0))]
def x33 : XC := (.seq (.ops false r33_0) (.seq (.ops false r33_1) (.seq (.seq (.ops false r33_2) (.cond (.t 22) (.seq (.ops false r33_3) .ret) .skip)) (.seq (.ops false r33_4) (.seq (.ops false r33_5) (.seq (.seq (.ops false r33_6) (.block 0 (.loop [.gh 8 3 (.int .i64)] ⟨119, [(28, (.list (.int .i64))), (29, (.int .i64)), (30, (.int .i64))], [(2, .ptr 0 0 0), (5, .ptr 1 0 0), (7, .ptr 2 0 0), (8, .row 3)], [.box 83 [.d .str, .d (.int .i64), .d (.int .i64), .d (.int .i64), .d (.int .i64), .d (.int .i64), .d (.int .i64)], .row 83 tS4 true, .box 29 [.d (.int .i64), .d (.int .i64), .d (.int .i64), .d (.int .i64), .d (.list tS0), .d (.int .i64), .d (.int .i64), .d (.int .i64), .d (.int .i64)], .row 3 (.int .i64) false]⟩ (.seq (.ops false r33_7) (.seq (.cond (.t 31) .skip (.exit 0)) (.seq (.block 1 (.seq (.ops false r33_8) (.splt 10 .i64 [1, 2, 3, 4, 5, 6] (.seq (.ops false r33_9) (.ops false r33_10))))) (.ops false r33_11))))))) (.seq (.ops false r33_12) (.seq (.seq (.ops false r33_13) (.cond (.t 81) (.seq (.ops false r33_14) .ret) .skip)) (.seq (.seq (.ops false r33_15) (.cond (.t 85) (.seq (.seq (.ops false r33_16) (.cond (.t 89) (.seq (.ops false r33_17) .ret) .skip)) (.seq (.ops false r33_18) .ret)) .skip)) (.seq (.seq (.ops false r33_19) (.cond (.t 96) (.seq (.ops false r33_20) .ret) .skip)) (.seq (.seq (.ops false r33_21) (.block 2 (.loop [.gh 8 3 (.int .i64)] ⟨119, [(99, (.list tS0)), (100, (.int .i64)), (101, (.int .i64))], [(2, .ptr 0 0 0), (5, .ptr 1 0 0), (8, .row 2)], [.box 83 [.d .str, .d (.int .i64), .d (.int .i64), .d (.int .i64), .d (.int .i64), .d (.int .i64), .d (.int .i64)], .row 83 tS4 true, .row 3 (.int .i64) false]⟩ (.seq (.ops false r33_22) (.seq (.cond (.t 102) .skip (.exit 2)) (.seq (.block 3 (.seq (.ops false r33_23) (.seq (.ops false r33_24) (.block 4 (.loopU 11 (.seq (.ops false r33_25) (.seq (.cond (.t 107) .skip (.exit 4)) (.seq (.block 5 (.seq (.ops false r33_26) (.ops false r33_27))) (.ops false r33_28))))))))) (.ops false r33_29))))))) (.seq (.ops false r33_30) .ret))))))))))))
theorem F33 : Fn Tryd.prog 33 119 x33.er [.c 2 7 true, .t 3, .t 4] := ⟨Tryd.f33, hcl, Tryd.func33, by kernel_rfl, by kernel_rfl, by kernel_rfl, by kernel_rfl⟩
noncomputable def m33 (a0 : DS2) : Option (DS4 × (List Int) × Int × Unit) :=
 (m60 (a0.1, a0.2.1, a0.2.2.1, (a0.2.2.2.1.1, a0.2.2.2.1.2.1, a0.2.2.2.1.2.2.1, a0.2.2.2.1.2.2.2.1, a0.2.2.2.1.2.2.2.2.1, a0.2.2.2.1.2.2.2.2.2.1, ()), ())).bind fun y89 =>
 cond (not y89.2.1)
 (some (((bs []), 0, 0, 0, (0, 0, 0, ()), ()), ([] : List Int), 11, ()))
 (cond (cutOk 0 y89.1.2.2.2.1 3)
 (loopO (S := (List Int) × Int × Int × ByteArray × Int × Int × Int × Int × Int × Int × (List DS4) × Int × Int × Int × Int × (List DS0) × Int × Int × Int × Int × (List Int) × Unit) (R := DS4 × (List Int) × Int × Unit) (fun s90 =>
 cond (iLt s90.2.2.1 s90.2.1)
 (cond (bnd s90.2.2.1 (lenI s90.1))
 (cond (iEq (atI s90.1 s90.2.2.1 0) 1)
 ((m47_6 s90.2.2.2.2.2.2.2.2.2.2.2.1 s90.2.2.2.2.2.2.2.2.2.2.2.2.1 s90.2.2.2.2.2.2.2.2.2.2.2.2.2.1 s90.2.2.2.2.2.2.2.2.2.2.2.2.2.2.1 s90.2.2.2.2.2.2.2.2.2.2.2.2.2.2.2.1 s90.2.2.2.2.2.2.2.2.2.2.2.2.2.2.2.2.1 s90.2.2.2.2.2.2.2.2.2.2.2.2.2.2.2.2.2.1 s90.2.2.2.2.2.2.2.2.2.2.2.2.2.2.2.2.2.2.1 s90.2.2.2.2.2.2.2.2.2.2.2.2.2.2.2.2.2.2.2.1).bind fun y91 =>
 cond (fits (List.length s90.2.2.2.2.2.2.2.2.2.2.2.2.2.2.2.2.2.2.2.2.1 + List.length ([y91.2.1] : List Int)) 8)
 ((m47_6 y91.1 y91.2.1 y91.2.2.1 y91.2.2.2.1 y91.2.2.2.2.1 y91.2.2.2.2.2.1 y91.2.2.2.2.2.2.1 y91.2.2.2.2.2.2.2.1 y91.2.2.2.2.2.2.2.2.1).bind fun y92 =>
 some (.inl (s90.1, s90.2.1, iAdd .i64 s90.2.2.1 1, s90.2.2.2.1, s90.2.2.2.2.1, s90.2.2.2.2.2.1, s90.2.2.2.2.2.2.1, s90.2.2.2.2.2.2.2.1, s90.2.2.2.2.2.2.2.2.1, s90.2.2.2.2.2.2.2.2.2.1, s90.2.2.2.2.2.2.2.2.2.2.1, y92.1, 0, y92.2.2.1, y92.2.2.2.1, y92.2.2.2.2.1, y92.2.2.2.2.2.1, y92.2.2.2.2.2.2.1, y92.2.2.2.2.2.2.2.1, y92.2.2.2.2.2.2.2.2.1, s90.2.2.2.2.2.2.2.2.2.2.2.2.2.2.2.2.2.2.2.2.1 ++ ([y91.2.1] : List Int), ()))) none)
 (cond (iEq (atI s90.1 s90.2.2.1 0) 2)
 ((m47_7 s90.2.2.2.2.2.2.2.2.2.2.2.1 s90.2.2.2.2.2.2.2.2.2.2.2.2.1 s90.2.2.2.2.2.2.2.2.2.2.2.2.2.1 s90.2.2.2.2.2.2.2.2.2.2.2.2.2.2.1 s90.2.2.2.2.2.2.2.2.2.2.2.2.2.2.2.1 s90.2.2.2.2.2.2.2.2.2.2.2.2.2.2.2.2.1 s90.2.2.2.2.2.2.2.2.2.2.2.2.2.2.2.2.2.1 s90.2.2.2.2.2.2.2.2.2.2.2.2.2.2.2.2.2.2.1 s90.2.2.2.2.2.2.2.2.2.2.2.2.2.2.2.2.2.2.2.1).bind fun y93 =>
 cond (fits (List.length s90.2.2.2.2.2.2.2.2.2.2.2.2.2.2.2.2.2.2.2.2.1 + List.length ([y93.2.2.1] : List Int)) 8)
 ((m47_7 y93.1 y93.2.1 y93.2.2.1 y93.2.2.2.1 y93.2.2.2.2.1 y93.2.2.2.2.2.1 y93.2.2.2.2.2.2.1 y93.2.2.2.2.2.2.2.1 y93.2.2.2.2.2.2.2.2.1).bind fun y94 =>
 some (.inl (s90.1, s90.2.1, iAdd .i64 s90.2.2.1 1, s90.2.2.2.1, s90.2.2.2.2.1, s90.2.2.2.2.2.1, s90.2.2.2.2.2.2.1, s90.2.2.2.2.2.2.2.1, s90.2.2.2.2.2.2.2.2.1, s90.2.2.2.2.2.2.2.2.2.1, s90.2.2.2.2.2.2.2.2.2.2.1, y94.1, y94.2.1, 0, y94.2.2.2.1, y94.2.2.2.2.1, y94.2.2.2.2.2.1, y94.2.2.2.2.2.2.1, y94.2.2.2.2.2.2.2.1, y94.2.2.2.2.2.2.2.2.1, s90.2.2.2.2.2.2.2.2.2.2.2.2.2.2.2.2.2.2.2.2.1 ++ ([y93.2.2.1] : List Int), ()))) none)
 (cond (iEq (atI s90.1 s90.2.2.1 0) 3)
 ((m47_8 s90.2.2.2.2.2.2.2.2.2.2.2.1 s90.2.2.2.2.2.2.2.2.2.2.2.2.1 s90.2.2.2.2.2.2.2.2.2.2.2.2.2.1 s90.2.2.2.2.2.2.2.2.2.2.2.2.2.2.1 s90.2.2.2.2.2.2.2.2.2.2.2.2.2.2.2.1 s90.2.2.2.2.2.2.2.2.2.2.2.2.2.2.2.2.1 s90.2.2.2.2.2.2.2.2.2.2.2.2.2.2.2.2.2.1 s90.2.2.2.2.2.2.2.2.2.2.2.2.2.2.2.2.2.2.1 s90.2.2.2.2.2.2.2.2.2.2.2.2.2.2.2.2.2.2.2.1).bind fun y95 =>
 cond (fits (List.length s90.2.2.2.2.2.2.2.2.2.2.2.2.2.2.2.2.2.2.2.2.1 + List.length ([y95.2.2.2.2.2.1] : List Int)) 8)
 ((m47_8 y95.1 y95.2.1 y95.2.2.1 y95.2.2.2.1 y95.2.2.2.2.1 y95.2.2.2.2.2.1 y95.2.2.2.2.2.2.1 y95.2.2.2.2.2.2.2.1 y95.2.2.2.2.2.2.2.2.1).bind fun y96 =>
 some (.inl (s90.1, s90.2.1, iAdd .i64 s90.2.2.1 1, s90.2.2.2.1, s90.2.2.2.2.1, s90.2.2.2.2.2.1, s90.2.2.2.2.2.2.1, s90.2.2.2.2.2.2.2.1, s90.2.2.2.2.2.2.2.2.1, s90.2.2.2.2.2.2.2.2.2.1, s90.2.2.2.2.2.2.2.2.2.2.1, y96.1, y96.2.1, y96.2.2.1, y96.2.2.2.1, y96.2.2.2.2.1, 0, y96.2.2.2.2.2.2.1, y96.2.2.2.2.2.2.2.1, y96.2.2.2.2.2.2.2.2.1, s90.2.2.2.2.2.2.2.2.2.2.2.2.2.2.2.2.2.2.2.2.1 ++ ([y95.2.2.2.2.2.1] : List Int), ()))) none)
 (cond (iEq (atI s90.1 s90.2.2.1 0) 4)
 ((m47_9 s90.2.2.2.2.2.2.2.2.2.2.2.1 s90.2.2.2.2.2.2.2.2.2.2.2.2.1 s90.2.2.2.2.2.2.2.2.2.2.2.2.2.1 s90.2.2.2.2.2.2.2.2.2.2.2.2.2.2.1 s90.2.2.2.2.2.2.2.2.2.2.2.2.2.2.2.1 s90.2.2.2.2.2.2.2.2.2.2.2.2.2.2.2.2.1 s90.2.2.2.2.2.2.2.2.2.2.2.2.2.2.2.2.2.1 s90.2.2.2.2.2.2.2.2.2.2.2.2.2.2.2.2.2.2.1 s90.2.2.2.2.2.2.2.2.2.2.2.2.2.2.2.2.2.2.2.1).bind fun y97 =>
 cond (fits (List.length s90.2.2.2.2.2.2.2.2.2.2.2.2.2.2.2.2.2.2.2.2.1 + List.length ([y97.2.2.2.2.2.2.1] : List Int)) 8)
 ((m47_9 y97.1 y97.2.1 y97.2.2.1 y97.2.2.2.1 y97.2.2.2.2.1 y97.2.2.2.2.2.1 y97.2.2.2.2.2.2.1 y97.2.2.2.2.2.2.2.1 y97.2.2.2.2.2.2.2.2.1).bind fun y98 =>
 some (.inl (s90.1, s90.2.1, iAdd .i64 s90.2.2.1 1, s90.2.2.2.1, s90.2.2.2.2.1, s90.2.2.2.2.2.1, s90.2.2.2.2.2.2.1, s90.2.2.2.2.2.2.2.1, s90.2.2.2.2.2.2.2.2.1, s90.2.2.2.2.2.2.2.2.2.1, s90.2.2.2.2.2.2.2.2.2.2.1, y98.1, y98.2.1, y98.2.2.1, y98.2.2.2.1, y98.2.2.2.2.1, y98.2.2.2.2.2.1, 0, y98.2.2.2.2.2.2.2.1, y98.2.2.2.2.2.2.2.2.1, s90.2.2.2.2.2.2.2.2.2.2.2.2.2.2.2.2.2.2.2.2.1 ++ ([y97.2.2.2.2.2.2.1] : List Int), ()))) none)
 (cond (iEq (atI s90.1 s90.2.2.1 0) 5)
 ((m47_10 s90.2.2.2.2.2.2.2.2.2.2.2.1 s90.2.2.2.2.2.2.2.2.2.2.2.2.1 s90.2.2.2.2.2.2.2.2.2.2.2.2.2.1 s90.2.2.2.2.2.2.2.2.2.2.2.2.2.2.1 s90.2.2.2.2.2.2.2.2.2.2.2.2.2.2.2.1 s90.2.2.2.2.2.2.2.2.2.2.2.2.2.2.2.2.1 s90.2.2.2.2.2.2.2.2.2.2.2.2.2.2.2.2.2.1 s90.2.2.2.2.2.2.2.2.2.2.2.2.2.2.2.2.2.2.1 s90.2.2.2.2.2.2.2.2.2.2.2.2.2.2.2.2.2.2.2.1).bind fun y99 =>
 cond (fits (List.length s90.2.2.2.2.2.2.2.2.2.2.2.2.2.2.2.2.2.2.2.2.1 + List.length ([y99.2.2.2.2.2.2.2.1] : List Int)) 8)
 ((m47_10 y99.1 y99.2.1 y99.2.2.1 y99.2.2.2.1 y99.2.2.2.2.1 y99.2.2.2.2.2.1 y99.2.2.2.2.2.2.1 y99.2.2.2.2.2.2.2.1 y99.2.2.2.2.2.2.2.2.1).bind fun y100 =>
 some (.inl (s90.1, s90.2.1, iAdd .i64 s90.2.2.1 1, s90.2.2.2.1, s90.2.2.2.2.1, s90.2.2.2.2.2.1, s90.2.2.2.2.2.2.1, s90.2.2.2.2.2.2.2.1, s90.2.2.2.2.2.2.2.2.1, s90.2.2.2.2.2.2.2.2.2.1, s90.2.2.2.2.2.2.2.2.2.2.1, y100.1, y100.2.1, y100.2.2.1, y100.2.2.2.1, y100.2.2.2.2.1, y100.2.2.2.2.2.1, y100.2.2.2.2.2.2.1, 0, y100.2.2.2.2.2.2.2.2.1, s90.2.2.2.2.2.2.2.2.2.2.2.2.2.2.2.2.2.2.2.2.1 ++ ([y99.2.2.2.2.2.2.2.1] : List Int), ()))) none)
 (cond (iEq (atI s90.1 s90.2.2.1 0) 6)
 ((m47_11 s90.2.2.2.2.2.2.2.2.2.2.2.1 s90.2.2.2.2.2.2.2.2.2.2.2.2.1 s90.2.2.2.2.2.2.2.2.2.2.2.2.2.1 s90.2.2.2.2.2.2.2.2.2.2.2.2.2.2.1 s90.2.2.2.2.2.2.2.2.2.2.2.2.2.2.2.1 s90.2.2.2.2.2.2.2.2.2.2.2.2.2.2.2.2.1 s90.2.2.2.2.2.2.2.2.2.2.2.2.2.2.2.2.2.1 s90.2.2.2.2.2.2.2.2.2.2.2.2.2.2.2.2.2.2.1 s90.2.2.2.2.2.2.2.2.2.2.2.2.2.2.2.2.2.2.2.1).bind fun y101 =>
 cond (fits (List.length s90.2.2.2.2.2.2.2.2.2.2.2.2.2.2.2.2.2.2.2.2.1 + List.length ([y101.2.2.2.2.2.2.2.2.1] : List Int)) 8)
 ((m47_11 y101.1 y101.2.1 y101.2.2.1 y101.2.2.2.1 y101.2.2.2.2.1 y101.2.2.2.2.2.1 y101.2.2.2.2.2.2.1 y101.2.2.2.2.2.2.2.1 y101.2.2.2.2.2.2.2.2.1).bind fun y102 =>
 some (.inl (s90.1, s90.2.1, iAdd .i64 s90.2.2.1 1, s90.2.2.2.1, s90.2.2.2.2.1, s90.2.2.2.2.2.1, s90.2.2.2.2.2.2.1, s90.2.2.2.2.2.2.2.1, s90.2.2.2.2.2.2.2.2.1, s90.2.2.2.2.2.2.2.2.2.1, s90.2.2.2.2.2.2.2.2.2.2.1, y102.1, y102.2.1, y102.2.2.1, y102.2.2.2.1, y102.2.2.2.2.1, y102.2.2.2.2.2.1, y102.2.2.2.2.2.2.1, y102.2.2.2.2.2.2.2.1, 0, s90.2.2.2.2.2.2.2.2.2.2.2.2.2.2.2.2.2.2.2.2.1 ++ ([y101.2.2.2.2.2.2.2.2.1] : List Int), ()))) none)
 none)))))) none)
 (Option.map Sum.inr (cond (or (inB 0 s90.2.2.2.2.2.2.2.2.2.2.1) (not (bEq (cond (iNe s90.2.2.2.2.2.2.2.2.2.2.2.2.1 0) true (iNe s90.2.2.2.2.2.2.2.2.2.2.2.2.2.1 0)) false)))
 (cond (cond (cond (cond (cond (cond (cond (iNe s90.2.2.2.2.2.2.2.2.2.2.2.2.1 0) true (iNe s90.2.2.2.2.2.2.2.2.2.2.2.2.2.1 0)) true (iNe s90.2.2.2.2.2.2.2.2.2.2.2.2.2.2.1 ((List.getD s90.2.2.2.2.2.2.2.2.2.2.1 0 (ByteArray.empty, 0, 0, 0, (0, 0, 0, ()), ())).2.2.1))) true (iNe s90.2.2.2.2.2.2.2.2.2.2.2.2.2.2.2.2.1 0)) true (iNe s90.2.2.2.2.2.2.2.2.2.2.2.2.2.2.2.2.2.1 0)) true (iNe s90.2.2.2.2.2.2.2.2.2.2.2.2.2.2.2.2.2.2.1 0)) true (iNe s90.2.2.2.2.2.2.2.2.2.2.2.2.2.2.2.2.2.2.2.1 0))
 (some (((bs []), 0, 0, 0, (0, 0, 0, ()), ()), ([] : List Int), 20, ()))
 (cond (inB 0 s90.2.2.2.2.2.2.2.2.2.2.1)
 (cond (iNe ((List.getD s90.2.2.2.2.2.2.2.2.2.2.1 0 (ByteArray.empty, 0, 0, 0, (0, 0, 0, ()), ())).2.2.1) 1)
 (cond (iLt 0 (lenI s90.2.2.2.2.2.2.2.2.2.2.2.2.2.2.2.1))
 (some (((bs []), 0, 0, 0, (0, 0, 0, ()), ()), ([] : List Int), 20, ()))
 (cond (inB 0 s90.2.2.2.2.2.2.2.2.2.2.1)
 (some (((List.getD s90.2.2.2.2.2.2.2.2.2.2.1 0 (ByteArray.empty, 0, 0, 0, (0, 0, 0, ()), ())).1, (List.getD s90.2.2.2.2.2.2.2.2.2.2.1 0 (ByteArray.empty, 0, 0, 0, (0, 0, 0, ()), ())).2.1, (List.getD s90.2.2.2.2.2.2.2.2.2.2.1 0 (ByteArray.empty, 0, 0, 0, (0, 0, 0, ()), ())).2.2.1, (List.getD s90.2.2.2.2.2.2.2.2.2.2.1 0 (ByteArray.empty, 0, 0, 0, (0, 0, 0, ()), ())).2.2.2.1, (((List.getD s90.2.2.2.2.2.2.2.2.2.2.1 0 (ByteArray.empty, 0, 0, 0, (0, 0, 0, ()), ())).2.2.2.2.1).1, ((List.getD s90.2.2.2.2.2.2.2.2.2.2.1 0 (ByteArray.empty, 0, 0, 0, (0, 0, 0, ()), ())).2.2.2.2.1).2.1, ((List.getD s90.2.2.2.2.2.2.2.2.2.2.1 0 (ByteArray.empty, 0, 0, 0, (0, 0, 0, ()), ())).2.2.2.2.1).2.2.1, ()), ()), s90.2.2.2.2.2.2.2.2.2.2.2.2.2.2.2.2.2.2.2.2.1, 0, ())) none))
 (cond (iLt 64 (lenI s90.2.2.2.2.2.2.2.2.2.2.2.2.2.2.2.1))
 (some (((bs []), 0, 0, 0, (0, 0, 0, ()), ()), ([] : List Int), 4, ()))
 (loopO (S := (List DS0) × Int × Int × ByteArray × Int × Int × Int × Int × Int × Int × (List DS4) × (List Int) × Unit) (R := DS4 × (List Int) × Int × Unit) (fun s103 =>
 cond (iLt s103.2.2.1 s103.2.1)
 (cond (bnd s103.2.2.1 (lenI s103.1))
 ((m61 ((atI s103.1 s103.2.2.1 (0, 0, 0, 0, 0, 0, 0, 0, 0, 0, ())).1) ((atI s103.1 s103.2.2.1 (0, 0, 0, 0, 0, 0, 0, 0, 0, 0, ())).2.1) ((atI s103.1 s103.2.2.1 (0, 0, 0, 0, 0, 0, 0, 0, 0, 0, ())).2.2.1) ((atI s103.1 s103.2.2.1 (0, 0, 0, 0, 0, 0, 0, 0, 0, 0, ())).2.2.2.1) ((atI s103.1 s103.2.2.1 (0, 0, 0, 0, 0, 0, 0, 0, 0, 0, ())).2.2.2.2.1) ((atI s103.1 s103.2.2.1 (0, 0, 0, 0, 0, 0, 0, 0, 0, 0, ())).2.2.2.2.2.1) ((atI s103.1 s103.2.2.1 (0, 0, 0, 0, 0, 0, 0, 0, 0, 0, ())).2.2.2.2.2.2.1) ((atI s103.1 s103.2.2.1 (0, 0, 0, 0, 0, 0, 0, 0, 0, 0, ())).2.2.2.2.2.2.2.1) ((atI s103.1 s103.2.2.1 (0, 0, 0, 0, 0, 0, 0, 0, 0, 0, ())).2.2.2.2.2.2.2.2.1) ((atI s103.1 s103.2.2.1 (0, 0, 0, 0, 0, 0, 0, 0, 0, 0, ())).2.2.2.2.2.2.2.2.2.1)).bind fun y104 =>
 cond (fits (List.length s103.2.2.2.2.2.2.2.2.2.2.2.1 + List.length ([y104.1] : List Int)) 8)
 (cond (fits (List.length (s103.2.2.2.2.2.2.2.2.2.2.2.1 ++ ([y104.1] : List Int)) + List.length ([y104.2.1] : List Int)) 8)
 (cond (fits (List.length ((s103.2.2.2.2.2.2.2.2.2.2.2.1 ++ ([y104.1] : List Int)) ++ ([y104.2.1] : List Int)) + List.length ([y104.2.2.1] : List Int)) 8)
 (cond (fits (List.length (((s103.2.2.2.2.2.2.2.2.2.2.2.1 ++ ([y104.1] : List Int)) ++ ([y104.2.1] : List Int)) ++ ([y104.2.2.1] : List Int)) + List.length ([y104.2.2.2.1] : List Int)) 8)
 (cond (fits (List.length ((((s103.2.2.2.2.2.2.2.2.2.2.2.1 ++ ([y104.1] : List Int)) ++ ([y104.2.1] : List Int)) ++ ([y104.2.2.1] : List Int)) ++ ([y104.2.2.2.1] : List Int)) + List.length ([y104.2.2.2.2.1] : List Int)) 8)
 (cond (fits (List.length (((((s103.2.2.2.2.2.2.2.2.2.2.2.1 ++ ([y104.1] : List Int)) ++ ([y104.2.1] : List Int)) ++ ([y104.2.2.1] : List Int)) ++ ([y104.2.2.2.1] : List Int)) ++ ([y104.2.2.2.2.1] : List Int)) + List.length ([y104.2.2.2.2.2.1] : List Int)) 8)
 (cond (fits (List.length ((((((s103.2.2.2.2.2.2.2.2.2.2.2.1 ++ ([y104.1] : List Int)) ++ ([y104.2.1] : List Int)) ++ ([y104.2.2.1] : List Int)) ++ ([y104.2.2.2.1] : List Int)) ++ ([y104.2.2.2.2.1] : List Int)) ++ ([y104.2.2.2.2.2.1] : List Int)) + List.length ([y104.2.2.2.2.2.2.1] : List Int)) 8)
 (cond (fits (List.length (((((((s103.2.2.2.2.2.2.2.2.2.2.2.1 ++ ([y104.1] : List Int)) ++ ([y104.2.1] : List Int)) ++ ([y104.2.2.1] : List Int)) ++ ([y104.2.2.2.1] : List Int)) ++ ([y104.2.2.2.2.1] : List Int)) ++ ([y104.2.2.2.2.2.1] : List Int)) ++ ([y104.2.2.2.2.2.2.1] : List Int)) + List.length ([y104.2.2.2.2.2.2.2.1] : List Int)) 8)
 (cond (fits (List.length ((((((((s103.2.2.2.2.2.2.2.2.2.2.2.1 ++ ([y104.1] : List Int)) ++ ([y104.2.1] : List Int)) ++ ([y104.2.2.1] : List Int)) ++ ([y104.2.2.2.1] : List Int)) ++ ([y104.2.2.2.2.1] : List Int)) ++ ([y104.2.2.2.2.2.1] : List Int)) ++ ([y104.2.2.2.2.2.2.1] : List Int)) ++ ([y104.2.2.2.2.2.2.2.1] : List Int)) + List.length ([y104.2.2.2.2.2.2.2.2.1] : List Int)) 8)
 (cond (fits (List.length (((((((((s103.2.2.2.2.2.2.2.2.2.2.2.1 ++ ([y104.1] : List Int)) ++ ([y104.2.1] : List Int)) ++ ([y104.2.2.1] : List Int)) ++ ([y104.2.2.2.1] : List Int)) ++ ([y104.2.2.2.2.1] : List Int)) ++ ([y104.2.2.2.2.2.1] : List Int)) ++ ([y104.2.2.2.2.2.2.1] : List Int)) ++ ([y104.2.2.2.2.2.2.2.1] : List Int)) ++ ([y104.2.2.2.2.2.2.2.2.1] : List Int)) + List.length ([y104.2.2.2.2.2.2.2.2.2.1] : List Int)) 8)
 (some (.inl (s103.1, s103.2.1, iAdd .i64 s103.2.2.1 1, s103.2.2.2.1, s103.2.2.2.2.1, s103.2.2.2.2.2.1, s103.2.2.2.2.2.2.1, s103.2.2.2.2.2.2.2.1, s103.2.2.2.2.2.2.2.2.1, s103.2.2.2.2.2.2.2.2.2.1, s103.2.2.2.2.2.2.2.2.2.2.1, (((((((((s103.2.2.2.2.2.2.2.2.2.2.2.1 ++ ([y104.1] : List Int)) ++ ([y104.2.1] : List Int)) ++ ([y104.2.2.1] : List Int)) ++ ([y104.2.2.2.1] : List Int)) ++ ([y104.2.2.2.2.1] : List Int)) ++ ([y104.2.2.2.2.2.1] : List Int)) ++ ([y104.2.2.2.2.2.2.1] : List Int)) ++ ([y104.2.2.2.2.2.2.2.1] : List Int)) ++ ([y104.2.2.2.2.2.2.2.2.1] : List Int)) ++ ([y104.2.2.2.2.2.2.2.2.2.1] : List Int), ()))) none) none) none) none) none) none) none) none) none) none) none)
 (Option.map Sum.inr (cond (inB 0 s103.2.2.2.2.2.2.2.2.2.2.1)
 (some (((List.getD s103.2.2.2.2.2.2.2.2.2.2.1 0 (ByteArray.empty, 0, 0, 0, (0, 0, 0, ()), ())).1, (List.getD s103.2.2.2.2.2.2.2.2.2.2.1 0 (ByteArray.empty, 0, 0, 0, (0, 0, 0, ()), ())).2.1, (List.getD s103.2.2.2.2.2.2.2.2.2.2.1 0 (ByteArray.empty, 0, 0, 0, (0, 0, 0, ()), ())).2.2.1, (List.getD s103.2.2.2.2.2.2.2.2.2.2.1 0 (ByteArray.empty, 0, 0, 0, (0, 0, 0, ()), ())).2.2.2.1, (((List.getD s103.2.2.2.2.2.2.2.2.2.2.1 0 (ByteArray.empty, 0, 0, 0, (0, 0, 0, ()), ())).2.2.2.2.1).1, ((List.getD s103.2.2.2.2.2.2.2.2.2.2.1 0 (ByteArray.empty, 0, 0, 0, (0, 0, 0, ()), ())).2.2.2.2.1).2.1, ((List.getD s103.2.2.2.2.2.2.2.2.2.2.1 0 (ByteArray.empty, 0, 0, 0, (0, 0, 0, ()), ())).2.2.2.2.1).2.2.1, ()), ()), s103.2.2.2.2.2.2.2.2.2.2.2.1, 0, ())) none)))
 (s90.2.2.2.2.2.2.2.2.2.2.2.2.2.2.2.1, lenI s90.2.2.2.2.2.2.2.2.2.2.2.2.2.2.2.1, 0, s90.2.2.2.1, s90.2.2.2.2.1, s90.2.2.2.2.2.1, s90.2.2.2.2.2.2.1, s90.2.2.2.2.2.2.2.1, s90.2.2.2.2.2.2.2.2.1, s90.2.2.2.2.2.2.2.2.2.1, s90.2.2.2.2.2.2.2.2.2.2.1, s90.2.2.2.2.2.2.2.2.2.2.2.2.2.2.2.2.2.2.2.2.1, ())))) none)) none)))
 (cutL 0 y89.1.2.2.2.1 ([y89.1.2.2.2.2.1.1, y89.1.2.2.2.2.1.2.1, y89.1.2.2.2.2.1.2.2.1] : List Int), lenI (cutL 0 y89.1.2.2.2.1 ([y89.1.2.2.2.2.1.1, y89.1.2.2.2.2.1.2.1, y89.1.2.2.2.2.1.2.2.1] : List Int)), 0, (bs []), 0, 0, 0, 0, 0, 0, ([(y89.1.1, y89.1.2.1, y89.1.2.2.1, y89.1.2.2.2.1, (y89.1.2.2.2.2.1.1, y89.1.2.2.2.2.1.2.1, y89.1.2.2.2.2.1.2.2.1, ()), ())] : List DS4), a0.1, a0.2.1, a0.2.2.1, a0.2.2.2.1.1, a0.2.2.2.1.2.1, a0.2.2.2.1.2.2.1, a0.2.2.2.1.2.2.2.1, a0.2.2.2.1.2.2.2.2.1, a0.2.2.2.1.2.2.2.2.2.1, ([] : List Int), ())) none)
noncomputable def cfg33 (G : GP) : Cfg := ⟨ttab, (gtab G), [i60], [h47_10, h47_11, h47_6, h47_7, h47_8, h47_9, h61]⟩
theorem eqn33 (G : GP) (x : DS2 × Unit) : xfun (cfg33 G) x33 119 [.c 2 7 true, .t 3, .t 4] [tS2] [tS4, (.list (.int .i64)), (.int .i64)] x = m33 x.1 := by kernel_rfl
noncomputable def i33 : PI := ⟨33, [tS2], [tS4, (.list (.int .i64)), (.int .i64)], fun (x : DS2 × Unit) => m33 x.1⟩
theorem oki33 {G : GP} : POk Tryd.prog (gx (gtab G)) i33 := pok mixed (cfg_p oki60 (cfg_h okh47_10 (cfg_h okh47_11 (cfg_h okh47_6 (cfg_h okh47_7 (cfg_h okh47_8 (cfg_h okh47_9 (cfg_h okh61 (cfg_nil _ _)))))))) : CfgOk _ (cfg33 G)) F33 (eqn33 G)
def r34_0 : List Ins := [qI 4 (.mov (kI 0)), qI 5 (.mov (.k (.nilIface)))]
def r34_1 : List Ins := [qI 6 (.mov 0), qI 7 (.call (.fn 62) [6])]
def r34_2 : List Ins := [qI 8 (.mov 0), qI 9 (.mov 0), qI 10 (.nck 9), qI 11 (.faddr 1 10), qI 12 (.load 1 false 11), qI 13 (.mov 1), qI 14 (.apps 5 1 12 13), qI 15 (.nck 8), qI 16 (.faddr 1 15), qN (.store 1 16 14)]
def r34_3 : List Ins := [qI 17 (.mov 1), qI 18 (.slen 17), qI 4 (.mov 18), qI 5 (.mov (.k (.nilIface)))]
def x34 : XC := (.seq (.ops false r34_0) (.seq (.ops false r34_1) (.seq (.ops false r34_2) (.seq (.ops false r34_3) .ret))))
theorem F34 : Fn Tryd.prog 34 19 x34.er [.t 4, .t 5] := ⟨Tryd.f34, hcl, Tryd.func34, by kernel_rfl, by kernel_rfl, by kernel_rfl, by kernel_rfl⟩
noncomputable def m34 (a0 : ByteArray) (a1 : List Int) : Option (Int × (List Int) × Unit) :=
 (mB62_0 a1).bind fun y108 =>
 cond (fits (List.length y108.1 + List.length (bytesI a0)) 1)
 (some (sLen a0, y108.1 ++ (bytesI a0), ())) none
noncomputable def cfg34 (G : GP) : Cfg := ⟨ttab, (gtab G), [], [hB62_0]⟩
def ish34 : Sh := ⟨2, [(1, .str)], [(0, .ptr 0 0 0)], [.box 59 [.me 0, .row 1], .row 5 (.int .u8) false]⟩
def osh34 : Sh := ⟨2, [(0, (.int .i64))], [], [.box 59 [.me 0, .row 1], .row 5 (.int .u8) false]⟩
theorem eqn34 (G : GP) (x : ByteArray × (List Int) × Unit) : xfunH (cfg34 G) x34 19 [.t 4, .t 5] [] ish34 osh34 x = m34 x.1 x.2.1 := by kernel_rfl
noncomputable def h34 : HI := ⟨34, ish34, osh34, fun (x : ByteArray × (List Int) × Unit) => m34 x.1 x.2.1⟩
theorem okh34 {G : GP} : HOk Tryd.prog (gx (gtab G)) h34 := hok mixed (cfg_h okhB62_0 (cfg_nil _ _) : CfgOk _ (cfg34 G)) F34 (eqn34 G)
def r35_0 : List Ins := [qI 4 (.mov (.k (.nilIface)))]
def r35_1 : List Ins := [qI 5 (.mov 0), qI 6 (.call (.fn 62) [5])]
def r35_2 : List Ins := [qI 7 (.mov 0), qI 8 (.mov 0), qI 9 (.nck 8), qI 10 (.faddr 1 9), qI 11 (.load 1 false 10), qI 12 (.mov 1), qI 13 (.bslice 5 1 [12]), qI 14 (.app 5 1 1 11 13), qI 15 (.nck 7), qI 16 (.faddr 1 15), qN (.store 1 16 14)]
def r35_3 : List Ins := [qI 4 (.mov (.k (.nilIface)))]
def x35 : XC := (.seq (.ops false r35_0) (.seq (.ops false r35_1) (.seq (.ops false r35_2) (.seq (.ops false r35_3) .ret))))
theorem F35 : Fn Tryd.prog 35 17 x35.er [.t 4] := ⟨Tryd.f35, hcl, Tryd.func35, by kernel_rfl, by kernel_rfl, by kernel_rfl, by kernel_rfl⟩
noncomputable def m35 (a0 : Int) (a1 : List Int) : Option ((List Int) × Unit) :=
 (mB62_0 a1).bind fun y112 =>
 cond (fits (List.length y112.1 + List.length ([a0] : List Int)) 1)
 (some (y112.1 ++ ([a0] : List Int), ())) none
noncomputable def cfg35 (G : GP) : Cfg := ⟨ttab, (gtab G), [], [hB62_0]⟩
def ish35 : Sh := ⟨2, [(1, (.int .u8))], [(0, .ptr 0 0 0)], [.box 59 [.me 0, .row 1], .row 5 (.int .u8) false]⟩
def osh35 : Sh := ⟨1, [], [], [.box 59 [.me 0, .row 1], .row 5 (.int .u8) false]⟩
theorem eqn35 (G : GP) (x : Int × (List Int) × Unit) : xfunH (cfg35 G) x35 17 [.t 4] [] ish35 osh35 x = m35 x.1 x.2.1 := by kernel_rfl
noncomputable def h35 : HI := ⟨35, ish35, osh35, fun (x : Int × (List Int) × Unit) => m35 x.1 x.2.1⟩
theorem okh35 {G : GP} : HOk Tryd.prog (gx (gtab G)) h35 := hok mixed (cfg_h okhB62_0 (cfg_nil _ _) : CfgOk _ (cfg35 G)) F35 (eqn35 G)
def r17_0 : List Ins := [qI 3 (.box 29 9 1), qI 4 (.mov (kI 0))]
def r17_1 : List Ins := [qI 13 (.load 9 true 3), qI 14 (.call (.fn 33) [13]), qI 12 (.mov 14), qI 15 (.ext 0 12), qI 16 (.ext 1 12), qI 17 (.ext 2 12), qI 5 (.alloc 83 (.agg #[.string (bs []), .int .i64 0, .int .i64 0, .int .i64 0, .int .i64 0, .int .i64 0, .int .i64 0])), qN (.store 7 5 15), qI 6 (.mov 16), qI 7 (.mov 17)]
def r17_2 : List Ins := [qI 18 (.mov 7), qI 19 (.bin .neq 18 (kI 0))]
def r17_3 : List Ins := [qI 20 (.mov 7), qI 4 (.mov 20)]
def r17_4 : List Ins := [qI 21 (.mov 6), qI 22 (.len 21), qI 23 (.mov (kI 0))]
def r17_5 : List Ins := [qI 24 (.bin .lss 23 22)]
def r17_6 : List Ins := [qI 25 (.iaddr 1 21 23), qI 26 (.load 1 false 25), qI 9 (.mov 26)]
def r17_7 : List Ins := [qI 27 (.mov 9), qI 28 (.bin .lss 27 (kI 0)), qI 29 (.mov 28), qF 30 29 (.mov 9), qF 31 29 (.bin .gtr 30 (kI 17592186044416)), qI 32 (.pick 29 (.k (.bool true)) 31)]
def r17_8 : List Ins := [qI 4 (.mov (kI 1))]
def r17_9 : List Ins := [qI 33 (.bin .add 23 (kI 1)), qI 23 (.mov 33)]
def r17_10 : List Ins := [qI 34 (.mov 0), qI 35 (.faddr 0 5), qI 36 (.load 1 false 35), qI 37 (.call (.fn 34) [34, 36])]
def r17_11 : List Ins := [qI 38 (.mov 6), qI 39 (.len 38), qI 40 (.mov (kI 0))]
def r17_12 : List Ins := [qI 41 (.bin .lss 40 39)]
def r17_13 : List Ins := [qI 42 (.mov 40), qI 43 (.iaddr 1 38 40), qI 44 (.load 1 false 43), qI 10 (.mov 42), qI 11 (.mov 44)]
def r17_14 : List Ins := [qI 45 (.faddr 2 5), qI 46 (.load 1 false 45), qI 47 (.bin .eql 46 (kI 1)), qI 48 (.mov 47), qT 49 48 (.mov 10), qT 50 48 (.bin .rem 49 (kI 10)), qT 51 48 (.bin .neq 50 (kI 0)), qI 52 (.pick 48 51 (.k (.bool false)))]
def r17_15 : List Ins := [qI 53 (.mov 0), qI 54 (.call (.fn 35) [53, (.k (.int .u8 47))])]
def r17_16 : List Ins := [qI 55 (.mov 0), qI 56 (.call (.fn 35) [55, (.k (.int .u8 32))])]
def r17_17 : List Ins := [qI 57 (.mov 0), qI 58 (.mov 11), qI 59 (.call (.fn 36) [58]), qI 60 (.call (.fn 34) [57, 59])]
def r17_18 : List Ins := [qI 61 (.bin .add 40 (kI 1)), qI 40 (.mov 61)]
def r17_19 : List Ins := [qI 62 (.mov 0), qI 63 (.call (.fn 35) [62, (.k (.int .u8 10))])]
def r17_20 : List Ins := [qI 4 (.mov (kI 0))]
def x17 : XC := (.seq (.ops false r17_0) (.seq (.ops false r17_1) (.seq (.seq (.ops false r17_2) (.cond (.t 19) (.seq (.ops false r17_3) .ret) .skip)) (.seq (.seq (.ops false r17_4) (.block 0 (.loop [] ⟨64, [(6, (.list (.int .i64))), (21, (.list (.int .i64))), (22, (.int .i64)), (23, (.int .i64))], [(0, .ptr 0 0 0), (5, .ptr 2 0 0)], [.box 59 [.me 0, .row 1], .row 5 (.int .u8) false, .box 83 [.d .str, .d (.int .i64), .d (.int .i64), .d (.int .i64), .d (.int .i64), .d (.int .i64), .d (.int .i64)]]⟩ (.seq (.ops false r17_5) (.seq (.cond (.t 24) .skip (.exit 0)) (.seq (.block 1 (.seq (.ops false r17_6) (.seq (.ops false r17_7) (.cond (.t 32) (.seq (.ops false r17_8) .ret) .skip)))) (.ops false r17_9))))))) (.seq (.ops false r17_10) (.seq (.seq (.ops false r17_11) (.block 2 (.loop [] ⟨64, [(38, (.list (.int .i64))), (39, (.int .i64)), (40, (.int .i64))], [(0, .ptr 0 0 0), (5, .ptr 2 0 0)], [.box 59 [.me 0, .row 1], .row 5 (.int .u8) false, .box 83 [.d .str, .d (.int .i64), .d (.int .i64), .d (.int .i64), .d (.int .i64), .d (.int .i64), .d (.int .i64)]]⟩ (.seq (.ops false r17_12) (.seq (.cond (.t 41) .skip (.exit 2)) (.seq (.block 3 (.seq (.ops false r17_13) (.seq (.seq (.ops false r17_14) (.cond (.t 52) (.ops false r17_15) (.ops false r17_16))) (.ops false r17_17)))) (.ops false r17_18))))))) (.seq (.ops false r17_19) (.seq (.ops false r17_20) .ret))))))))
theorem F17 : Fn Tryd.prog 17 64 x17.er [.t 4] := ⟨Tryd.f17, hcl, Tryd.func17, by kernel_rfl, by kernel_rfl, by kernel_rfl, by kernel_rfl⟩
noncomputable def m17 (a0 : DS2) (a1 : List Int) : Option (Int × (List Int) × Unit) :=
 (m33 (a0.1, a0.2.1, a0.2.2.1, (a0.2.2.2.1.1, a0.2.2.2.1.2.1, a0.2.2.2.1.2.2.1, a0.2.2.2.1.2.2.2.1, a0.2.2.2.1.2.2.2.2.1, a0.2.2.2.1.2.2.2.2.2.1, ()), ())).bind fun y120 =>
 cond (iNe y120.2.2.1 0)
 (some (y120.2.2.1, a1, ()))
 (loopO (S := (List Int) × (List Int) × Int × Int × (List Int) × ByteArray × Int × Int × Int × Int × Int × Int × Unit) (R := Int × (List Int) × Unit) (fun s121 =>
 cond (iLt s121.2.2.2.1 s121.2.2.1)
 (cond (bnd s121.2.2.2.1 (lenI s121.2.1))
 (cond (cond (iLt (atI s121.2.1 s121.2.2.2.1 0) 0) true (iLt 17592186044416 (atI s121.2.1 s121.2.2.2.1 0)))
 (some (.inr (1, s121.2.2.2.2.1, ())))
 (some (.inl (s121.1, s121.2.1, s121.2.2.1, iAdd .i64 s121.2.2.2.1 1, s121.2.2.2.2.1, s121.2.2.2.2.2.1, s121.2.2.2.2.2.2.1, s121.2.2.2.2.2.2.2.1, s121.2.2.2.2.2.2.2.2.1, s121.2.2.2.2.2.2.2.2.2.1, s121.2.2.2.2.2.2.2.2.2.2.1, s121.2.2.2.2.2.2.2.2.2.2.2.1, ())))) none)
 (Option.map Sum.inr ((m34 s121.2.2.2.2.2.1 s121.2.2.2.2.1).bind fun y122 =>
 loopO (S := (List Int) × Int × Int × (List Int) × ByteArray × Int × Int × Int × Int × Int × Int × Unit) (R := Int × (List Int) × Unit) (fun s123 =>
 cond (iLt s123.2.2.1 s123.2.1)
 (cond (bnd s123.2.2.1 (lenI s123.1))
 (cond (or (iNe 10 0) (not (bEq (iEq s123.2.2.2.2.2.2.1 1) true)))
 (cond (cond (iEq s123.2.2.2.2.2.2.1 1) (iNe (iRem s123.2.2.1 10) 0) false)
 ((m35 47 s123.2.2.2.1).bind fun y124 =>
 (mItoa (atI s123.1 s123.2.2.1 0)).bind fun y125 =>
 (m34 y125.1 y124.1).bind fun y126 =>
 some (.inl (s123.1, s123.2.1, iAdd .i64 s123.2.2.1 1, y126.2.1, s123.2.2.2.2.1, s123.2.2.2.2.2.1, s123.2.2.2.2.2.2.1, s123.2.2.2.2.2.2.2.1, s123.2.2.2.2.2.2.2.2.1, s123.2.2.2.2.2.2.2.2.2.1, s123.2.2.2.2.2.2.2.2.2.2.1, ())))
 ((m35 32 s123.2.2.2.1).bind fun y127 =>
 (mItoa (atI s123.1 s123.2.2.1 0)).bind fun y128 =>
 (m34 y128.1 y127.1).bind fun y129 =>
 some (.inl (s123.1, s123.2.1, iAdd .i64 s123.2.2.1 1, y129.2.1, s123.2.2.2.2.1, s123.2.2.2.2.2.1, s123.2.2.2.2.2.2.1, s123.2.2.2.2.2.2.2.1, s123.2.2.2.2.2.2.2.2.1, s123.2.2.2.2.2.2.2.2.2.1, s123.2.2.2.2.2.2.2.2.2.2.1, ())))) none) none)
 (Option.map Sum.inr ((m35 10 s123.2.2.2.1).bind fun y130 =>
 some (0, y130.1, ()))))
 (s121.1, lenI s121.1, 0, y122.2.1, s121.2.2.2.2.2.1, s121.2.2.2.2.2.2.1, s121.2.2.2.2.2.2.2.1, s121.2.2.2.2.2.2.2.2.1, s121.2.2.2.2.2.2.2.2.2.1, s121.2.2.2.2.2.2.2.2.2.2.1, s121.2.2.2.2.2.2.2.2.2.2.2.1, ()))))
 (y120.2.1, y120.2.1, lenI y120.2.1, 0, a1, y120.1.1, y120.1.2.1, y120.1.2.2.1, y120.1.2.2.2.1, y120.1.2.2.2.2.1.1, y120.1.2.2.2.2.1.2.1, y120.1.2.2.2.2.1.2.2.1, ()))
noncomputable def cfg17 (G : GP) : Cfg := ⟨ttab, (gtab G), [i33, iItoa], [h34, h35]⟩
def ish17 : Sh := ⟨2, [(1, tS2)], [(0, .ptr 0 0 0)], [.box 59 [.me 0, .row 1], .row 5 (.int .u8) false]⟩
def osh17 : Sh := ⟨1, [(0, (.int .i64))], [], [.box 59 [.me 0, .row 1], .row 5 (.int .u8) false]⟩
theorem eqn17 (G : GP) (x : DS2 × (List Int) × Unit) : xfunH (cfg17 G) x17 64 [.t 4] [] ish17 osh17 x = m17 x.1 x.2.1 := by kernel_rfl
noncomputable def h17 : HI := ⟨17, ish17, osh17, fun (x : DS2 × (List Int) × Unit) => m17 x.1 x.2.1⟩
theorem okh17 {G : GP} : HOk Tryd.prog (gx (gtab G)) h17 := hok mixed (cfg_p oki33 (cfg_p okiItoa (cfg_h okh34 (cfg_h okh35 (cfg_nil _ _)))) : CfgOk _ (cfg17 G)) F17 (eqn17 G)
def r9_0 : List Ins := [qI 2 (.mov (.k (.string (bs [])))), qI 3 (.mov (kI 0))]
def r9_1 : List Ins := [qI 4 (.alloc 59 (.agg #[.pointer none, .slice none 0 0]))]
def r9_2 : List Ins := [qI 8 (.mov 0), qI 9 (.len 8), qI 10 (.mov (kI 0))]
def r9_3 : List Ins := [qI 11 (.bin .lss 10 9)]
def r9_4 : List Ins := [qI 12 (.iaddr 9 8 10), qI 13 (.load 9 true 12), qI 6 (.alloc 29 (.agg #[.int .i64 0, .int .i64 0, .int .i64 0, .int .i64 0, .slice none 0 0, .int .i64 0, .int .i64 0, .int .i64 0, .int .i64 0])), qN (.store 9 6 13)]
def r9_5 : List Ins := [qI 14 (.load 9 true 6), qI 15 (.call (.fn 17) [4, 14]), qI 7 (.mov 15)]
def r9_6 : List Ins := [qI 16 (.mov 7), qI 17 (.bin .neq 16 (kI 0))]
def r9_7 : List Ins := [qI 18 (.mov 7), qI 2 (.mov (.k (.string (bs [])))), qI 3 (.mov 18)]
def r9_8 : List Ins := [qI 19 (.bin .add 10 (kI 1)), qI 10 (.mov 19)]
def r9_9 : List Ins := [qI 20 (.call (.fn 18) [4]), qI 2 (.mov 20), qI 3 (.mov (kI 0))]
def x9 : XC := (.seq (.ops false r9_0) (.seq (.ops false r9_1) (.seq (.seq (.ops false r9_2) (.block 0 (.loop [.ghc 4 1 5 (.int .u8)] ⟨21, [(8, (.list tS2)), (9, (.int .i64)), (10, (.int .i64))], [(4, .ptr 0 0 0)], [.box 59 [.me 0, .row 1], .row 5 (.int .u8) false]⟩ (.seq (.ops false r9_3) (.seq (.cond (.t 11) .skip (.exit 0)) (.seq (.block 1 (.seq (.ops false r9_4) (.seq (.ops false r9_5) (.seq (.ops false r9_6) (.cond (.t 17) (.seq (.ops false r9_7) .ret) .skip))))) (.ops false r9_8))))))) (.seq (.ops false r9_9) .ret))))
theorem F9 : Fn Tryd.prog 9 21 x9.er [.t 2, .t 3] := ⟨Tryd.f9, hcl, Tryd.func9, by kernel_rfl, by kernel_rfl, by kernel_rfl, by kernel_rfl⟩
noncomputable def m9 (a0 : List DS2) : Option (ByteArray × Int × Unit) :=
 loopO (S := (List DS2) × Int × Int × (List Int) × Unit) (R := ByteArray × Int × Unit) (fun s133 =>
 cond (iLt s133.2.2.1 s133.2.1)
 (cond (bnd s133.2.2.1 (lenI s133.1))
 ((m17 ((atI s133.1 s133.2.2.1 (0, 0, 0, (0, [], 0, 0, 0, 0, ()), ())).1, (atI s133.1 s133.2.2.1 (0, 0, 0, (0, [], 0, 0, 0, 0, ()), ())).2.1, (atI s133.1 s133.2.2.1 (0, 0, 0, (0, [], 0, 0, 0, 0, ()), ())).2.2.1, (((atI s133.1 s133.2.2.1 (0, 0, 0, (0, [], 0, 0, 0, 0, ()), ())).2.2.2.1).1, ((atI s133.1 s133.2.2.1 (0, 0, 0, (0, [], 0, 0, 0, 0, ()), ())).2.2.2.1).2.1, ((atI s133.1 s133.2.2.1 (0, 0, 0, (0, [], 0, 0, 0, 0, ()), ())).2.2.2.1).2.2.1, ((atI s133.1 s133.2.2.1 (0, 0, 0, (0, [], 0, 0, 0, 0, ()), ())).2.2.2.1).2.2.2.1, ((atI s133.1 s133.2.2.1 (0, 0, 0, (0, [], 0, 0, 0, 0, ()), ())).2.2.2.1).2.2.2.2.1, ((atI s133.1 s133.2.2.1 (0, 0, 0, (0, [], 0, 0, 0, 0, ()), ())).2.2.2.1).2.2.2.2.2.1, ()), ()) s133.2.2.2.1).bind fun y134 =>
 cond (iNe y134.1 0)
 (some (.inr ((bs []), y134.1, ())))
 (some (.inl (s133.1, s133.2.1, iAdd .i64 s133.2.2.1 1, y134.2.1, ())))) none)
 (Option.map Sum.inr ((mB18_0 s133.2.2.2.1).bind fun y135 =>
 some (y135.1, 0, ()))))
 (a0, lenI a0, 0, ([] : List Int), ())
noncomputable def cfg9 (G : GP) : Cfg := ⟨ttab, (gtab G), [], [h17, hB18_0]⟩
theorem eqn9 (G : GP) (x : (List DS2) × Unit) : xfun (cfg9 G) x9 21 [.t 2, .t 3] [(.list tS2)] [.str, (.int .i64)] x = m9 x.1 := by kernel_rfl
noncomputable def i9 : PI := ⟨9, [(.list tS2)], [.str, (.int .i64)], fun (x : (List DS2) × Unit) => m9 x.1⟩
theorem oki9 {G : GP} : POk Tryd.prog (gx (gtab G)) i9 := pok mixed (cfg_h okh17 (cfg_h okhB18_0 (cfg_nil _ _)) : CfgOk _ (cfg9 G)) F9 (eqn9 G)
def r50_0 : List Ins := [qI 4 (.mov (.k (.bool false)))]
def r50_1 : List Ins := [qI 6 (.mov 0), qI 7 (.len 6), qI 8 (.mov 1), qI 9 (.len 8), qI 10 (.bin .neq 7 9)]
def r50_2 : List Ins := [qI 4 (.mov (.k (.bool false)))]
def r50_3 : List Ins := [qI 11 (.mov 0), qI 12 (.len 11), qI 13 (.mov (kI 0))]
def r50_4 : List Ins := [qI 14 (.bin .lss 13 12)]
def r50_5 : List Ins := [qI 15 (.mov 13), qI 5 (.mov 15)]
def r50_6 : List Ins := [qI 16 (.mov 0), qI 17 (.mov 5), qI 18 (.iaddr 10 16 17), qI 19 (.load 10 true 18), qI 20 (.mov 1), qI 21 (.mov 5), qI 22 (.iaddr 10 20 21), qI 23 (.load 10 true 22), qI 24 (.aeq true [(0, 1), (1, 1), (2, 1), (3, 1), (4, 1), (5, 1), (6, 1), (7, 1), (8, 1), (9, 1)] 19 23)]
def r50_7 : List Ins := [qI 4 (.mov (.k (.bool false)))]
def r50_8 : List Ins := [qI 25 (.bin .add 13 (kI 1)), qI 13 (.mov 25)]
def r50_9 : List Ins := [qI 4 (.mov (.k (.bool true)))]
def x50 : XC := (.seq (.ops false r50_0) (.seq (.seq (.ops false r50_1) (.cond (.t 10) (.seq (.ops false r50_2) .ret) .skip)) (.seq (.seq (.ops false r50_3) (.block 0 (.loop [] ⟨26, [(0, (.list tS0)), (1, (.list tS0)), (12, (.int .i64)), (13, (.int .i64))], [], []⟩ (.seq (.ops false r50_4) (.seq (.cond (.t 14) .skip (.exit 0)) (.seq (.block 1 (.seq (.ops false r50_5) (.seq (.ops true r50_6) (.cond (.t 24) (.seq (.ops false r50_7) .ret) .skip)))) (.ops false r50_8))))))) (.seq (.ops false r50_9) .ret))))
theorem F50 : Fn Tryd.prog 50 26 x50.er [.t 4] := ⟨Tryd.f50, hcl, Tryd.func50, by kernel_rfl, by kernel_rfl, by kernel_rfl, by kernel_rfl⟩
noncomputable def m50 (a0 : List DS0) (a1 : List DS0) : Option (Bool × Unit) :=
 cond (iNe (lenI a0) (lenI a1))
 (some (false, ()))
 (loopO (S := (List DS0) × (List DS0) × Int × Int × Unit) (R := Bool × Unit) (fun s139 =>
 cond (iLt s139.2.2.2.1 s139.2.2.1)
 (cond (bnd s139.2.2.2.1 (lenI s139.1))
 (cond (bnd s139.2.2.2.1 (lenI s139.2.1))
 (cond (not (and (iEq ((atI s139.1 s139.2.2.2.1 (0, 0, 0, 0, 0, 0, 0, 0, 0, 0, ())).1) ((atI s139.2.1 s139.2.2.2.1 (0, 0, 0, 0, 0, 0, 0, 0, 0, 0, ())).1)) (and (iEq ((atI s139.1 s139.2.2.2.1 (0, 0, 0, 0, 0, 0, 0, 0, 0, 0, ())).2.1) ((atI s139.2.1 s139.2.2.2.1 (0, 0, 0, 0, 0, 0, 0, 0, 0, 0, ())).2.1)) (and (iEq ((atI s139.1 s139.2.2.2.1 (0, 0, 0, 0, 0, 0, 0, 0, 0, 0, ())).2.2.1) ((atI s139.2.1 s139.2.2.2.1 (0, 0, 0, 0, 0, 0, 0, 0, 0, 0, ())).2.2.1)) (and (iEq ((atI s139.1 s139.2.2.2.1 (0, 0, 0, 0, 0, 0, 0, 0, 0, 0, ())).2.2.2.1) ((atI s139.2.1 s139.2.2.2.1 (0, 0, 0, 0, 0, 0, 0, 0, 0, 0, ())).2.2.2.1)) (and (iEq ((atI s139.1 s139.2.2.2.1 (0, 0, 0, 0, 0, 0, 0, 0, 0, 0, ())).2.2.2.2.1) ((atI s139.2.1 s139.2.2.2.1 (0, 0, 0, 0, 0, 0, 0, 0, 0, 0, ())).2.2.2.2.1)) (and (iEq ((atI s139.1 s139.2.2.2.1 (0, 0, 0, 0, 0, 0, 0, 0, 0, 0, ())).2.2.2.2.2.1) ((atI s139.2.1 s139.2.2.2.1 (0, 0, 0, 0, 0, 0, 0, 0, 0, 0, ())).2.2.2.2.2.1)) (and (iEq ((atI s139.1 s139.2.2.2.1 (0, 0, 0, 0, 0, 0, 0, 0, 0, 0, ())).2.2.2.2.2.2.1) ((atI s139.2.1 s139.2.2.2.1 (0, 0, 0, 0, 0, 0, 0, 0, 0, 0, ())).2.2.2.2.2.2.1)) (and (iEq ((atI s139.1 s139.2.2.2.1 (0, 0, 0, 0, 0, 0, 0, 0, 0, 0, ())).2.2.2.2.2.2.2.1) ((atI s139.2.1 s139.2.2.2.1 (0, 0, 0, 0, 0, 0, 0, 0, 0, 0, ())).2.2.2.2.2.2.2.1)) (and (iEq ((atI s139.1 s139.2.2.2.1 (0, 0, 0, 0, 0, 0, 0, 0, 0, 0, ())).2.2.2.2.2.2.2.2.1) ((atI s139.2.1 s139.2.2.2.1 (0, 0, 0, 0, 0, 0, 0, 0, 0, 0, ())).2.2.2.2.2.2.2.2.1)) (and (iEq ((atI s139.1 s139.2.2.2.1 (0, 0, 0, 0, 0, 0, 0, 0, 0, 0, ())).2.2.2.2.2.2.2.2.2.1) ((atI s139.2.1 s139.2.2.2.1 (0, 0, 0, 0, 0, 0, 0, 0, 0, 0, ())).2.2.2.2.2.2.2.2.2.1)) true)))))))))))
 (some (.inr (false, ())))
 (some (.inl (s139.1, s139.2.1, s139.2.2.1, iAdd .i64 s139.2.2.2.1 1, ())))) none) none)
 (some (.inr (true, ()))))
 (a0, a1, lenI a0, 0, ()))
noncomputable def cfg50 (G : GP) : Cfg := ⟨ttab, (gtab G), [], []⟩
theorem eqn50 (G : GP) (x : (List DS0) × (List DS0) × Unit) : xfun (cfg50 G) x50 26 [.t 4] [(.list tS0), (.list tS0)] [.bool] x = m50 x.1 x.2.1 := by kernel_rfl
noncomputable def i50 : PI := ⟨50, [(.list tS0), (.list tS0)], [.bool], fun (x : (List DS0) × (List DS0) × Unit) => m50 x.1 x.2.1⟩
theorem oki50 {G : GP} : POk Tryd.prog (gx (gtab G)) i50 := pok mixed (cfg_nil _ _ : CfgOk _ (cfg50 G)) F50 (eqn50 G)
def r24_0 : List Ins := [qI 2 (.box 27 6 0), qI 3 (.box 27 6 1), qI 4 (.mov (.k (.bool false)))]
def r24_1 : List Ins := [qI 5 (.faddr 0 2), qI 6 (.load 1 false 5), qI 7 (.faddr 0 3), qI 8 (.load 1 false 7), qI 9 (.bin .eql 6 8), qI 10 (.mov 9), qT 11 10 (.faddr 1 2), qT 12 10 (.load 1 false 11), qT 13 10 (.faddr 1 3), qT 14 10 (.load 1 false 13), qT 15 10 (.call (.fn 50) [12, 14]), qI 16 (.pick 10 15 (.k (.bool false))), qI 17 (.mov 16), qT 18 17 (.faddr 2 2), qT 19 17 (.load 1 false 18), qT 20 17 (.faddr 2 3), qT 21 17 (.load 1 false 20), qT 22 17 (.bin .eql 19 21), qI 23 (.pick 17 22 (.k (.bool false))), qI 24 (.mov 23), qT 25 24 (.faddr 3 2), qT 26 24 (.load 1 false 25), qT 27 24 (.faddr 3 3), qT 28 24 (.load 1 false 27), qT 29 24 (.bin .eql 26 28), qI 30 (.pick 24 29 (.k (.bool false))), qI 31 (.mov 30), qT 32 31 (.faddr 4 2), qT 33 31 (.load 1 false 32), qT 34 31 (.faddr 4 3), qT 35 31 (.load 1 false 34), qT 36 31 (.bin .eql 33 35), qI 37 (.pick 31 36 (.k (.bool false))), qI 38 (.mov 37), qT 39 38 (.faddr 5 2), qT 40 38 (.load 1 false 39), qT 41 38 (.faddr 5 3), qT 42 38 (.load 1 false 41), qT 43 38 (.bin .eql 40 42), qI 44 (.pick 38 43 (.k (.bool false))), qI 4 (.mov 44)]
def x24 : XC := (.seq (.ops false r24_0) (.seq (.ops false r24_1) .ret))
theorem F24 : Fn Tryd.prog 24 45 x24.er [.t 4] := ⟨Tryd.f24, hcl, Tryd.func24, by kernel_rfl, by kernel_rfl, by kernel_rfl, by kernel_rfl⟩
noncomputable def m24 (a0 : DS1) (a1 : DS1) : Option (Bool × Unit) :=
 cond (iEq a0.1 a1.1)
 ((m50 a0.2.1 a1.2.1).bind fun y140 =>
 some (cond (cond (cond (cond y140.1 (iEq a0.2.2.1 a1.2.2.1) false) (iEq a0.2.2.2.1 a1.2.2.2.1) false) (iEq a0.2.2.2.2.1 a1.2.2.2.2.1) false) (iEq a0.2.2.2.2.2.1 a1.2.2.2.2.2.1) false, ()))
 (some (false, ()))
noncomputable def cfg24 (G : GP) : Cfg := ⟨ttab, (gtab G), [i50], []⟩
theorem eqn24 (G : GP) (x : DS1 × DS1 × Unit) : xfun (cfg24 G) x24 45 [.t 4] [tS1, tS1] [.bool] x = m24 x.1 x.2.1 := by kernel_rfl
noncomputable def i24 : PI := ⟨24, [tS1, tS1], [.bool], fun (x : DS1 × DS1 × Unit) => m24 x.1 x.2.1⟩
theorem oki24 {G : GP} : POk Tryd.prog (gx (gtab G)) i24 := pok mixed (cfg_p oki50 (cfg_nil _ _) : CfgOk _ (cfg24 G)) F24 (eqn24 G)
def r13_0 : List Ins := [qI 4 (.mov (.k (.bool false)))]
def r13_1 : List Ins := [qI 6 (.mov 0), qI 7 (.len 6), qI 8 (.mov 1), qI 9 (.len 8), qI 10 (.bin .neq 7 9)]
def r13_2 : List Ins := [qI 4 (.mov (.k (.bool false)))]
def r13_3 : List Ins := [qI 11 (.mov 0), qI 12 (.len 11), qI 13 (.mov (kI 0))]
def r13_4 : List Ins := [qI 14 (.bin .lss 13 12)]
def r13_5 : List Ins := [qI 15 (.mov 13), qI 5 (.mov 15)]
def r13_6 : List Ins := [qI 16 (.mov 0), qI 17 (.mov 5), qI 18 (.iaddr 9 16 17), qI 19 (.faddr 0 18), qI 20 (.load 1 false 19), qI 21 (.mov 1), qI 22 (.mov 5), qI 23 (.iaddr 9 21 22), qI 24 (.faddr 0 23), qI 25 (.load 1 false 24), qI 26 (.bin .neq 20 25), qI 27 (.mov 26), qF 28 27 (.mov 0), qF 29 27 (.mov 5), qF 30 27 (.iaddr 9 28 29), qF 31 27 (.faddr 1 30), qF 32 27 (.load 1 false 31), qF 33 27 (.mov 1), qF 34 27 (.mov 5), qF 35 27 (.iaddr 9 33 34), qF 36 27 (.faddr 1 35), qF 37 27 (.load 1 false 36), qF 38 27 (.bin .neq 32 37), qI 39 (.pick 27 (.k (.bool true)) 38), qI 40 (.mov 39), qF 41 40 (.mov 0), qF 42 40 (.mov 5), qF 43 40 (.iaddr 9 41 42), qF 44 40 (.faddr 2 43), qF 45 40 (.load 1 false 44), qF 46 40 (.mov 1), qF 47 40 (.mov 5), qF 48 40 (.iaddr 9 46 47), qF 49 40 (.faddr 2 48), qF 50 40 (.load 1 false 49), qF 51 40 (.bin .neq 45 50), qI 52 (.pick 40 (.k (.bool true)) 51), qI 53 (.mov 52), qF 54 53 (.mov 0), qF 55 53 (.mov 5), qF 56 53 (.iaddr 9 54 55), qF 57 53 (.faddr 3 56), qF 58 53 (.load 6 true 57), qF 59 53 (.mov 1), qF 60 53 (.mov 5), qF 61 53 (.iaddr 9 59 60), qF 62 53 (.faddr 3 61), qF 63 53 (.load 6 true 62), qF 64 53 (.call (.fn 24) [58, 63]), qF 65 53 (.un .not 64), qI 66 (.pick 53 (.k (.bool true)) 65)]
def r13_7 : List Ins := [qI 4 (.mov (.k (.bool false)))]
def r13_8 : List Ins := [qI 67 (.bin .add 13 (kI 1)), qI 13 (.mov 67)]
def r13_9 : List Ins := [qI 4 (.mov (.k (.bool true)))]
def x13 : XC := (.seq (.ops false r13_0) (.seq (.seq (.ops false r13_1) (.cond (.t 10) (.seq (.ops false r13_2) .ret) .skip)) (.seq (.seq (.ops false r13_3) (.block 0 (.loop [] ⟨68, [(0, (.list tS2)), (1, (.list tS2)), (12, (.int .i64)), (13, (.int .i64))], [], []⟩ (.seq (.ops false r13_4) (.seq (.cond (.t 14) .skip (.exit 0)) (.seq (.block 1 (.seq (.ops false r13_5) (.seq (.ops true r13_6) (.cond (.t 66) (.seq (.ops false r13_7) .ret) .skip)))) (.ops false r13_8))))))) (.seq (.ops false r13_9) .ret))))
theorem F13 : Fn Tryd.prog 13 68 x13.er [.t 4] := ⟨Tryd.f13, hcl, Tryd.func13, by kernel_rfl, by kernel_rfl, by kernel_rfl, by kernel_rfl⟩
noncomputable def m13 (a0 : List DS2) (a1 : List DS2) : Option (Bool × Unit) :=
 cond (iNe (lenI a0) (lenI a1))
 (some (false, ()))
 (loopO (S := (List DS2) × (List DS2) × Int × Int × Unit) (R := Bool × Unit) (fun s142 =>
 cond (iLt s142.2.2.2.1 s142.2.2.1)
 (cond (bnd s142.2.2.2.1 (lenI s142.1))
 (cond (bnd s142.2.2.2.1 (lenI s142.2.1))
 (cond (or (bnd s142.2.2.2.1 (lenI s142.1)) (not (bEq (iNe ((atI s142.1 s142.2.2.2.1 (0, 0, 0, (0, [], 0, 0, 0, 0, ()), ())).1) ((atI s142.2.1 s142.2.2.2.1 (0, 0, 0, (0, [], 0, 0, 0, 0, ()), ())).1)) false)))
 (cond (or (bnd s142.2.2.2.1 (lenI s142.2.1)) (not (bEq (iNe ((atI s142.1 s142.2.2.2.1 (0, 0, 0, (0, [], 0, 0, 0, 0, ()), ())).1) ((atI s142.2.1 s142.2.2.2.1 (0, 0, 0, (0, [], 0, 0, 0, 0, ()), ())).1)) false)))
 (cond (or (bnd s142.2.2.2.1 (lenI s142.1)) (not (bEq (cond (iNe ((atI s142.1 s142.2.2.2.1 (0, 0, 0, (0, [], 0, 0, 0, 0, ()), ())).1) ((atI s142.2.1 s142.2.2.2.1 (0, 0, 0, (0, [], 0, 0, 0, 0, ()), ())).1)) true (iNe ((atI s142.1 s142.2.2.2.1 (0, 0, 0, (0, [], 0, 0, 0, 0, ()), ())).2.1) ((atI s142.2.1 s142.2.2.2.1 (0, 0, 0, (0, [], 0, 0, 0, 0, ()), ())).2.1))) false)))
 (cond (or (bnd s142.2.2.2.1 (lenI s142.2.1)) (not (bEq (cond (iNe ((atI s142.1 s142.2.2.2.1 (0, 0, 0, (0, [], 0, 0, 0, 0, ()), ())).1) ((atI s142.2.1 s142.2.2.2.1 (0, 0, 0, (0, [], 0, 0, 0, 0, ()), ())).1)) true (iNe ((atI s142.1 s142.2.2.2.1 (0, 0, 0, (0, [], 0, 0, 0, 0, ()), ())).2.1) ((atI s142.2.1 s142.2.2.2.1 (0, 0, 0, (0, [], 0, 0, 0, 0, ()), ())).2.1))) false)))
 (cond (or (bnd s142.2.2.2.1 (lenI s142.1)) (not (bEq (cond (cond (iNe ((atI s142.1 s142.2.2.2.1 (0, 0, 0, (0, [], 0, 0, 0, 0, ()), ())).1) ((atI s142.2.1 s142.2.2.2.1 (0, 0, 0, (0, [], 0, 0, 0, 0, ()), ())).1)) true (iNe ((atI s142.1 s142.2.2.2.1 (0, 0, 0, (0, [], 0, 0, 0, 0, ()), ())).2.1) ((atI s142.2.1 s142.2.2.2.1 (0, 0, 0, (0, [], 0, 0, 0, 0, ()), ())).2.1))) true (iNe ((atI s142.1 s142.2.2.2.1 (0, 0, 0, (0, [], 0, 0, 0, 0, ()), ())).2.2.1) ((atI s142.2.1 s142.2.2.2.1 (0, 0, 0, (0, [], 0, 0, 0, 0, ()), ())).2.2.1))) false)))
 (cond (or (bnd s142.2.2.2.1 (lenI s142.2.1)) (not (bEq (cond (cond (iNe ((atI s142.1 s142.2.2.2.1 (0, 0, 0, (0, [], 0, 0, 0, 0, ()), ())).1) ((atI s142.2.1 s142.2.2.2.1 (0, 0, 0, (0, [], 0, 0, 0, 0, ()), ())).1)) true (iNe ((atI s142.1 s142.2.2.2.1 (0, 0, 0, (0, [], 0, 0, 0, 0, ()), ())).2.1) ((atI s142.2.1 s142.2.2.2.1 (0, 0, 0, (0, [], 0, 0, 0, 0, ()), ())).2.1))) true (iNe ((atI s142.1 s142.2.2.2.1 (0, 0, 0, (0, [], 0, 0, 0, 0, ()), ())).2.2.1) ((atI s142.2.1 s142.2.2.2.1 (0, 0, 0, (0, [], 0, 0, 0, 0, ()), ())).2.2.1))) false)))
 (cond (cond (cond (iNe ((atI s142.1 s142.2.2.2.1 (0, 0, 0, (0, [], 0, 0, 0, 0, ()), ())).1) ((atI s142.2.1 s142.2.2.2.1 (0, 0, 0, (0, [], 0, 0, 0, 0, ()), ())).1)) true (iNe ((atI s142.1 s142.2.2.2.1 (0, 0, 0, (0, [], 0, 0, 0, 0, ()), ())).2.1) ((atI s142.2.1 s142.2.2.2.1 (0, 0, 0, (0, [], 0, 0, 0, 0, ()), ())).2.1))) true (iNe ((atI s142.1 s142.2.2.2.1 (0, 0, 0, (0, [], 0, 0, 0, 0, ()), ())).2.2.1) ((atI s142.2.1 s142.2.2.2.1 (0, 0, 0, (0, [], 0, 0, 0, 0, ()), ())).2.2.1)))
 (some (.inr (false, ())))
 ((m24 ((atI s142.1 s142.2.2.2.1 (0, 0, 0, (0, [], 0, 0, 0, 0, ()), ())).2.2.2.1) ((atI s142.2.1 s142.2.2.2.1 (0, 0, 0, (0, [], 0, 0, 0, 0, ()), ())).2.2.2.1)).bind fun y143 =>
 cond (not y143.1)
 (some (.inr (false, ())))
 (some (.inl (s142.1, s142.2.1, s142.2.2.1, iAdd .i64 s142.2.2.2.1 1, ()))))) none) none) none) none) none) none) none) none)
 (some (.inr (true, ()))))
 (a0, a1, lenI a0, 0, ()))
noncomputable def cfg13 (G : GP) : Cfg := ⟨ttab, (gtab G), [i24], []⟩
theorem eqn13 (G : GP) (x : (List DS2) × (List DS2) × Unit) : xfun (cfg13 G) x13 68 [.t 4] [(.list tS2), (.list tS2)] [.bool] x = m13 x.1 x.2.1 := by kernel_rfl
noncomputable def i13 : PI := ⟨13, [(.list tS2), (.list tS2)], [.bool], fun (x : (List DS2) × (List DS2) × Unit) => m13 x.1 x.2.1⟩
theorem oki13 {G : GP} : POk Tryd.prog (gx (gtab G)) i13 := pok mixed (cfg_p oki24 (cfg_nil _ _) : CfgOk _ (cfg13 G)) F13 (eqn13 G)
def r7_0 : List Ins := [qI 0 (.mov (.k (.bool false)))]
def r7_1 : List Ins := [qI 10 (.call (.fn 11) [(.k (.string (bs [99, 111, 109, 109, 117, 116, 101, 32, 53, 32, 50, 32, 49, 56, 10, 99, 114, 97, 115, 104, 32, 48, 32, 55, 10])))]), qI 9 (.mov 10), qI 11 (.ext 0 9), qI 12 (.ext 1 9), qI 13 (.ext 2 9), qI 1 (.mov 11), qI 2 (.mov 12), qI 3 (.mov 13)]
def r7_2 : List Ins := [qI 15 (.call (.fn 11) [(.k (.string (bs [99, 108, 111, 115, 101, 10, 116, 105, 99, 107, 32, 48, 49, 10])))]), qI 14 (.mov 15), qI 16 (.ext 0 14), qI 17 (.ext 1 14), qI 18 (.ext 2 14), qI 4 (.mov 16), qI 5 (.mov 17), qI 6 (.mov 18)]
def r7_3 : List Ins := [qI 20 (.mov 1), qI 21 (.call (.fn 9) [20]), qI 19 (.mov 21), qI 22 (.ext 0 19), qI 23 (.ext 1 19), qI 7 (.mov 22), qI 8 (.mov 23)]
def r7_4 : List Ins := [qI 24 (.mov 3), qI 25 (.bin .eql 24 (kI 0)), qI 26 (.mov 25), qT 27 26 (.mov 2), qT 28 26 (.bin .eql 27 (kI 0)), qI 29 (.pick 26 28 (.k (.bool false))), qI 30 (.mov 29), qT 31 30 (.mov 8), qT 32 30 (.bin .eql 31 (kI 0)), qI 33 (.pick 30 32 (.k (.bool false))), qI 34 (.mov 33), qT 35 34 (.mov 7), qT 36 34 (.bin .eql 35 (.k (.string (bs [99, 111, 109, 109, 117, 116, 101, 32, 53, 32, 50, 32, 49, 56, 10, 99, 114, 97, 115, 104, 32, 48, 32, 55, 10])))), qI 37 (.pick 34 36 (.k (.bool false))), qI 38 (.mov 37), qT 39 38 (.mov 6), qT 40 38 (.bin .eql 39 (kI 5)), qI 41 (.pick 38 40 (.k (.bool false))), qI 42 (.mov 41), qT 43 42 (.mov 5), qT 44 42 (.bin .eql 43 (kI 2)), qI 45 (.pick 42 44 (.k (.bool false))), qI 46 (.mov 45), qT 47 46 (.mov 1), qT 48 46 (.build [.int .i64 0, .slice none 0 0, .int .i64 0, .int .i64 0, .int .i64 0, .int .i64 0] [(0, 1, (kI 4)), (2, 1, (kI 5)), (4, 1, (kI 2)), (5, 1, (kI 18))]), qT 49 46 (.build [.int .i64 0, .int .i64 0, .int .i64 0, .int .i64 0, .slice none 0 0, .int .i64 0, .int .i64 0, .int .i64 0, .int .i64 0] [(0, 1, (kI 1)), (3, 6, 48)]), qT 50 46 (.build [.int .i64 0, .int .i64 0, .int .i64 0, .int .i64 0, .slice none 0 0, .int .i64 0, .int .i64 0, .int .i64 0, .int .i64 0] [(0, 1, (kI 6)), (2, 1, (kI 7))]), qT 51 46 (.bslice 29 9 [49, 50]), qT 52 46 (.call (.fn 13) [47, 51]), qI 53 (.pick 46 52 (.k (.bool false))), qI 0 (.mov 53)]
def x7 : XC := (.seq (.ops false r7_0) (.seq (.ops false r7_1) (.seq (.ops false r7_2) (.seq (.ops false r7_3) (.seq (.ops false r7_4) .ret)))))
theorem F7 : Fn Tryd.prog 7 54 x7.er [.t 0] := ⟨Tryd.f7, hcl, Tryd.func7, by kernel_rfl, by kernel_rfl, by kernel_rfl, by kernel_rfl⟩
noncomputable def m7 : Option (Bool × Unit) :=
 (m11 (bs [99, 111, 109, 109, 117, 116, 101, 32, 53, 32, 50, 32, 49, 56, 10, 99, 114, 97, 115, 104, 32, 48, 32, 55, 10])).bind fun y68 =>
 (m11 (bs [99, 108, 111, 115, 101, 10, 116, 105, 99, 107, 32, 48, 49, 10])).bind fun y69 =>
 (m9 y68.1).bind fun y136 =>
 cond (cond (cond (cond (cond (cond (iEq y68.2.2.1 0) (iEq y68.2.1 0) false) (iEq y136.2.1 0) false) (sEq y136.1 (bs [99, 111, 109, 109, 117, 116, 101, 32, 53, 32, 50, 32, 49, 56, 10, 99, 114, 97, 115, 104, 32, 48, 32, 55, 10])) false) (iEq y69.2.2.1 5) false) (iEq y69.2.1 2) false)
 ((m13 y68.1 ([(1, 0, 0, (4, ([] : List DS0), 5, 0, 2, 18, ()), ()), (6, 0, 7, (0, ([] : List DS0), 0, 0, 0, 0, ()), ())] : List DS2)).bind fun y144 =>
 some (y144.1, ()))
 (some (false, ()))
noncomputable def cfg7 (G : GP) : Cfg := ⟨ttab, (gtab G), [i11, i13, i9], []⟩
theorem eqn7 (G : GP) (x : Unit) : xfun (cfg7 G) x7 54 [.t 0] [] [.bool] x = m7 := by kernel_rfl
noncomputable def i7 : PI := ⟨7, [], [.bool], fun (x : Unit) => m7⟩
theorem oki7 {G : GP} : POk Tryd.prog (gx (gtab G)) i7 := pok mixed (cfg_p oki11 (cfg_p oki13 (cfg_p oki9 (cfg_nil _ _))) : CfgOk _ (cfg7 G)) F7 (eqn7 G)
def r25_0 : List Ins := [qI 2 (.mov (.k (.pointer none)))]
def r25_1 : List Ins := [qI 3 (.mov 0), qI 4 (.build [.slice none 0 0, .int .i64 0] [(0, 1, 3)]), qI 5 (.box 113 2 4), qI 2 (.mov 5)]
def x25 : XC := (.seq (.ops false r25_0) (.seq (.ops false r25_1) .ret))
theorem F25 : Fn Tryd.prog 25 6 x25.er [.t 2] := ⟨Tryd.f25, hcl, Tryd.func25, by kernel_rfl, by kernel_rfl, by kernel_rfl, by kernel_rfl⟩
noncomputable def m25 (a0 : List Int) : Option ((List Int) × Int × Unit) :=
 some (a0, 0, ())
noncomputable def cfg25 (G : GP) : Cfg := ⟨ttab, (gtab G), [], []⟩
def ish25 : Sh := ⟨1, [(0, (.list (.int .i64)))], [], []⟩
def osh25 : Sh := ⟨1, [], [(0, .ptr 0 0 0)], [.box 113 [.d (.list (.int .i64)), .d (.int .i64)]]⟩
theorem eqn25 (G : GP) (x : (List Int) × Unit) : xfunH (cfg25 G) x25 6 [.t 2] [] ish25 osh25 x = m25 x.1 := by kernel_rfl
noncomputable def h25 : HI := ⟨25, ish25, osh25, fun (x : (List Int) × Unit) => m25 x.1⟩
theorem okh25 {G : GP} : HOk Tryd.prog (gx (gtab G)) h25 := hok mixed (cfg_nil _ _ : CfgOk _ (cfg25 G)) F25 (eqn25 G)
def r14_0 : List Ins := [qI 2 (.mov (.k (.pointer none)))]
def r14_1 : List Ins := [qI 3 (.mov 0), qI 4 (.call (.fn 25) [3]), qI 2 (.mov 4)]
def x14 : XC := (.seq (.ops false r14_0) (.seq (.ops false r14_1) .ret))
theorem F14 : Fn Tryd.prog 14 5 x14.er [.t 2] := ⟨Tryd.f14, hcl, Tryd.func14, by kernel_rfl, by kernel_rfl, by kernel_rfl, by kernel_rfl⟩
noncomputable def m14 (a0 : List Int) : Option ((List Int) × Int × Unit) :=
 (m25 a0).bind fun y147 =>
 some (y147.1, y147.2.1, ())
noncomputable def cfg14 (G : GP) : Cfg := ⟨ttab, (gtab G), [], [h25]⟩
def ish14 : Sh := ⟨1, [(0, (.list (.int .i64)))], [], []⟩
def osh14 : Sh := ⟨1, [], [(0, .ptr 0 0 0)], [.box 113 [.d (.list (.int .i64)), .d (.int .i64)]]⟩
theorem eqn14 (G : GP) (x : (List Int) × Unit) : xfunH (cfg14 G) x14 5 [.t 2] [] ish14 osh14 x = m14 x.1 := by kernel_rfl
noncomputable def h14 : HI := ⟨14, ish14, osh14, fun (x : (List Int) × Unit) => m14 x.1⟩
theorem okh14 {G : GP} : HOk Tryd.prog (gx (gtab G)) h14 := hok mixed (cfg_h okh25 (cfg_nil _ _) : CfgOk _ (cfg14 G)) F14 (eqn14 G)
def r27_0 : List Ins := [qI 4 (.mov (kI 0))]
def r27_1 : List Ins := [qI 5 (.mov 0), qI 6 (.nck 5), qI 7 (.faddr 1 6), qI 8 (.load 1 false 7), qI 9 (.mov 0), qI 10 (.nck 9), qI 11 (.faddr 0 10), qI 12 (.load 1 false 11), qI 13 (.len 12), qI 14 (.bin .geq 8 13)]
def r27_2 : List Ins := [qI 4 (.mov (kI 0))]
def r27_3 : List Ins := [qI 15 (.mov 0), qI 16 (.nck 15), qI 17 (.faddr 1 16), qI 18 (.load 1 false 17), qI 19 (.bin .add 18 (kI 1)), qI 20 (.nck 15), qI 21 (.faddr 1 20), qN (.store 1 21 19)]
def r27_4 : List Ins := [qI 22 (.mov 0), qI 23 (.nck 22), qI 24 (.faddr 0 23), qI 25 (.load 1 false 24), qI 26 (.mov 0), qI 27 (.nck 26), qI 28 (.faddr 1 27), qI 29 (.load 1 false 28), qI 30 (.bin .sub 29 (kI 1)), qI 31 (.iaddr 1 25 30), qI 32 (.load 1 false 31), qI 33 (.mov 1), qI 34 (.bin .rem 32 33), qI 35 (.mov 1), qI 36 (.bin .add 34 35), qI 37 (.mov 1), qI 38 (.bin .rem 36 37), qI 4 (.mov 38)]
def x27 : XC := (.seq (.ops false r27_0) (.seq (.seq (.ops true r27_1) (.cond (.t 14) (.seq (.ops false r27_2) .ret) .skip)) (.seq (.ops false r27_3) (.seq (.ops true r27_4) .ret))))
theorem F27 : Fn Tryd.prog 27 39 x27.er [.t 4] := ⟨Tryd.f27, hcl, Tryd.func27, by kernel_rfl, by kernel_rfl, by kernel_rfl, by kernel_rfl⟩
noncomputable def m27 (a0 : Int) (a1 : List Int) (a2 : Int) : Option (Int × (List Int) × Int × Unit) :=
 cond (iLe (lenI a1) a2)
 (some (0, a1, a2, ()))
 (cond (bnd (iSub .i64 (iAdd .i64 a2 1) 1) (lenI a1))
 (cond (iNe a0 0)
 (cond (iNe a0 0)
 (some (iRem (iAdd .i64 (iRem (atI a1 (iSub .i64 (iAdd .i64 a2 1) 1) 0) a0) a0) a0, a1, iAdd .i64 a2 1, ())) none) none) none)
noncomputable def cfg27 (G : GP) : Cfg := ⟨ttab, (gtab G), [], []⟩
def ish27 : Sh := ⟨2, [(1, (.int .i64))], [(0, .ptr 0 0 0)], [.box 113 [.d (.list (.int .i64)), .d (.int .i64)]]⟩
def osh27 : Sh := ⟨1, [(0, (.int .i64))], [], [.box 113 [.d (.list (.int .i64)), .d (.int .i64)]]⟩
theorem eqn27 (G : GP) (x : Int × (List Int) × Int × Unit) : xfunH (cfg27 G) x27 39 [.t 4] [] ish27 osh27 x = m27 x.1 x.2.1 x.2.2.1 := by kernel_rfl
noncomputable def h27 : HI := ⟨27, ish27, osh27, fun (x : Int × (List Int) × Int × Unit) => m27 x.1 x.2.1 x.2.2.1⟩
theorem okh27 {G : GP} : HOk Tryd.prog (gx (gtab G)) h27 := hok mixed (cfg_nil _ _ : CfgOk _ (cfg27 G)) F27 (eqn27 G)
def r55_0 : List Ins := [qI 6 (.mov kN)]
def r55_1 : List Ins := [qI 7 (.mov kN)]
def r55_2 : List Ins := [qI 9 (.mov 0), qI 10 (.call (.fn 27) [9, (kI 2)]), qI 11 (.bin .eql 10 (kI 0))]
def r55_3 : List Ins := [qI 6 (.mov kN)]
def r55_4 : List Ins := [qI 12 (.mov 1), qI 8 (.mov 12)]
def r55_5 : List Ins := [qI 13 (.mov 8), qI 14 (.mov 2), qI 15 (.bin .leq 13 14)]
def r55_6 : List Ins := [qI 18 (.mov 0), qI 19 (.call (.fn 27) [18, (kI 3)]), qI 20 (.bin .gtr 19 (kI 0))]
def r55_7 : List Ins := [qI 21 (.mov 7), qI 22 (.mov 8), qI 23 (.bslice 3 1 [22]), qI 24 (.app 3 1 8 21 23), qI 7 (.mov 24)]
def r55_8 : List Ins := [qI 16 (.mov 8), qI 17 (.bin .add 16 (kI 1)), qI 8 (.mov 17)]
def r55_9 : List Ins := [qI 25 (.mov 7), qI 6 (.mov 25)]
def x55 : XC := (.seq (.ops false r55_0) (.seq (.ops false r55_1) (.seq (.seq (.ops false r55_2) (.cond (.t 11) (.seq (.ops false r55_3) .ret) .skip)) (.seq (.seq (.ops false r55_4) (.block 0 (.loop [.gh 7 3 (.int .i64)] ⟨26, [(2, (.int .i64)), (8, (.int .i64))], [(0, .ptr 0 0 0), (7, .row 1)], [.box 113 [.d (.list (.int .i64)), .d (.int .i64)], .row 3 (.int .i64) false]⟩ (.seq (.seq (.ops false r55_5) (.cond (.t 15) .skip (.exit 0))) (.seq (.block 1 (.seq (.ops false r55_6) (.cond (.t 20) (.ops false r55_7) .skip))) (.ops false r55_8)))))) (.seq (.ops false r55_9) .ret)))))
theorem F55 : Fn Tryd.prog 55 26 x55.er [.t 6] := ⟨Tryd.f55, hcl, Tryd.func55, by kernel_rfl, by kernel_rfl, by kernel_rfl, by kernel_rfl⟩
noncomputable def m55 (a0 : Int) (a1 : Int) (a2 : List Int) (a3 : Int) : Option ((List Int) × Int × (List Int) × Unit) :=
 (m27 2 a2 a3).bind fun y161 =>
 cond (iEq y161.1 0)
 (some (y161.2.1, y161.2.2.1, ([] : List Int), ()))
 (loopO (S := Int × Int × (List Int) × Int × (List Int) × Unit) (R := (List Int) × Int × (List Int) × Unit) (fun s162 =>
 cond (iLe s162.2.1 s162.1)
 ((m27 3 s162.2.2.1 s162.2.2.2.1).bind fun y163 =>
 cond (iLt 0 y163.1)
 (cond (fits (List.length s162.2.2.2.2.1 + List.length ([s162.2.1] : List Int)) 8)
 (some (.inl (s162.1, iAdd .i64 s162.2.1 1, y163.2.1, y163.2.2.1, s162.2.2.2.2.1 ++ ([s162.2.1] : List Int), ()))) none)
 (some (.inl (s162.1, iAdd .i64 s162.2.1 1, y163.2.1, y163.2.2.1, s162.2.2.2.2.1, ()))))
 (some (.inr (s162.2.2.1, s162.2.2.2.1, s162.2.2.2.2.1, ()))))
 (a1, a0, y161.2.1, y161.2.2.1, ([] : List Int), ()))
noncomputable def cfg55 (G : GP) : Cfg := ⟨ttab, (gtab G), [], [h27]⟩
def ish55 : Sh := ⟨3, [(1, (.int .i64)), (2, (.int .i64))], [(0, .ptr 0 0 0)], [.box 113 [.d (.list (.int .i64)), .d (.int .i64)]]⟩
def osh55 : Sh := ⟨1, [], [(0, .row 1)], [.box 113 [.d (.list (.int .i64)), .d (.int .i64)], .row 3 (.int .i64) false]⟩
theorem eqn55 (G : GP) (x : Int × Int × (List Int) × Int × Unit) : xfunH (cfg55 G) x55 26 [.t 6] [.gh 6 3 (.int .i64)] ish55 osh55 x = m55 x.1 x.2.1 x.2.2.1 x.2.2.2.1 := by kernel_rfl
noncomputable def h55 : HI := ⟨55, ish55, osh55, fun (x : Int × Int × (List Int) × Int × Unit) => m55 x.1 x.2.1 x.2.2.1 x.2.2.2.1⟩
theorem okh55 {G : GP} : HOk Tryd.prog (gx (gtab G)) h55 := hok mixed (cfg_h okh27 (cfg_nil _ _) : CfgOk _ (cfg55 G)) F55 (eqn55 G)
def r54_0 : List Ins := [qI 4 (.mov (kI 0))]
def r54_1 : List Ins := [qI 5 (.mov 0), qI 6 (.call (.fn 27) [5, (kI 6)])]
def r54_2 : List Ins := [qI 8 (.bin .eql 6 (kI 0)), qI 7 (.mov 8)]
def r54_3 : List Ins := [qI 9 (.mov 0), qI 10 (.call (.fn 27) [9, (kI 4)]), qI 11 (.mov 1), qI 12 (.min2 10 11), qI 4 (.mov 12)]
def r54_4 : List Ins := [qI 14 (.bin .eql 6 (kI 1)), qI 13 (.mov 14)]
def r54_5 : List Ins := [qI 15 (.mov 0), qI 16 (.call (.fn 27) [15, (kI 100)]), qI 17 (.mov 1), qI 18 (.min2 16 17), qI 4 (.mov 18)]
def r54_6 : List Ins := [qI 20 (.bin .eql 6 (kI 2)), qI 19 (.mov 20)]
def r54_7 : List Ins := [qI 21 (.mov 0), qI 22 (.call (.fn 27) [21, (kI 1048576)]), qI 23 (.mov 1), qI 24 (.min2 22 23), qI 4 (.mov 24)]
def r54_8 : List Ins := [qI 26 (.bin .eql 6 (kI 3)), qI 25 (.mov 26)]
def r54_9 : List Ins := [qI 27 (.mov 1), qI 28 (.mov 0), qI 29 (.mov 1), qI 30 (.bin .add 29 (kI 1)), qI 31 (.min2 (kI 3) 30), qI 32 (.call (.fn 27) [28, 31]), qI 33 (.bin .sub 27 32), qI 4 (.mov 33)]
def r54_10 : List Ins := [qI 34 (.mov 0), qI 35 (.mov 1), qI 36 (.bin .add 35 (kI 1)), qI 37 (.call (.fn 27) [34, 36]), qI 4 (.mov 37)]
def x54 : XC := (.seq (.ops false r54_0) (.seq (.seq (.ops false r54_1) (.block 0 (.seq (.ops false r54_2) (.cond (.t 7) (.seq (.ops false r54_3) .ret) (.seq (.ops false r54_4) (.cond (.t 13) (.seq (.ops false r54_5) .ret) (.seq (.ops false r54_6) (.cond (.t 19) (.seq (.ops false r54_7) .ret) (.seq (.ops false r54_8) (.cond (.t 25) (.seq (.ops false r54_9) .ret) .skip)))))))))) (.seq (.ops false r54_10) .ret)))
theorem F54 : Fn Tryd.prog 54 38 x54.er [.t 4] := ⟨Tryd.f54, hcl, Tryd.func54, by kernel_rfl, by kernel_rfl, by kernel_rfl, by kernel_rfl⟩
noncomputable def m54 (a0 : Int) (a1 : List Int) (a2 : Int) : Option (Int × (List Int) × Int × Unit) :=
 (m27 6 a1 a2).bind fun y172 =>
 cond (iEq y172.1 0)
 ((m27 4 y172.2.1 y172.2.2.1).bind fun y173 =>
 some (iMin y173.1 a0, y173.2.1, y173.2.2.1, ()))
 (cond (iEq y172.1 1)
 ((m27 100 y172.2.1 y172.2.2.1).bind fun y174 =>
 some (iMin y174.1 a0, y174.2.1, y174.2.2.1, ()))
 (cond (iEq y172.1 2)
 ((m27 1048576 y172.2.1 y172.2.2.1).bind fun y175 =>
 some (iMin y175.1 a0, y175.2.1, y175.2.2.1, ()))
 (cond (iEq y172.1 3)
 ((m27 (iMin 3 (iAdd .i64 a0 1)) y172.2.1 y172.2.2.1).bind fun y176 =>
 some (iSub .i64 a0 y176.1, y176.2.1, y176.2.2.1, ()))
 ((m27 (iAdd .i64 a0 1) y172.2.1 y172.2.2.1).bind fun y177 =>
 some (y177.1, y177.2.1, y177.2.2.1, ())))))
noncomputable def cfg54 (G : GP) : Cfg := ⟨ttab, (gtab G), [], [h27]⟩
def ish54 : Sh := ⟨2, [(1, (.int .i64))], [(0, .ptr 0 0 0)], [.box 113 [.d (.list (.int .i64)), .d (.int .i64)]]⟩
def osh54 : Sh := ⟨1, [(0, (.int .i64))], [], [.box 113 [.d (.list (.int .i64)), .d (.int .i64)]]⟩
theorem eqn54 (G : GP) (x : Int × (List Int) × Int × Unit) : xfunH (cfg54 G) x54 38 [.t 4] [] ish54 osh54 x = m54 x.1 x.2.1 x.2.2.1 := by kernel_rfl
noncomputable def h54 : HI := ⟨54, ish54, osh54, fun (x : Int × (List Int) × Int × Unit) => m54 x.1 x.2.1 x.2.2.1⟩
theorem okh54 {G : GP} : HOk Tryd.prog (gx (gtab G)) h54 := hok mixed (cfg_h okh27 (cfg_nil _ _) : CfgOk _ (cfg54 G)) F54 (eqn54 G)
def r56_0 : List Ins := [qI 2 (.mov (kI 0))]
def r56_1 : List Ins := [qI 3 (.mov 0), qI 4 (.call (.fn 54) [3, (kI 1073741824)]), qI 2 (.mov 4)]
def x56 : XC := (.seq (.ops false r56_0) (.seq (.ops false r56_1) .ret))
theorem F56 : Fn Tryd.prog 56 5 x56.er [.t 2] := ⟨Tryd.f56, hcl, Tryd.func56, by kernel_rfl, by kernel_rfl, by kernel_rfl, by kernel_rfl⟩
noncomputable def m56 (a0 : List Int) (a1 : Int) : Option (Int × (List Int) × Int × Unit) :=
 (m54 1073741824 a0 a1).bind fun y179 =>
 some (y179.1, y179.2.1, y179.2.2.1, ())
noncomputable def cfg56 (G : GP) : Cfg := ⟨ttab, (gtab G), [], [h54]⟩
def ish56 : Sh := ⟨1, [], [(0, .ptr 0 0 0)], [.box 113 [.d (.list (.int .i64)), .d (.int .i64)]]⟩
def osh56 : Sh := ⟨1, [(0, (.int .i64))], [], [.box 113 [.d (.list (.int .i64)), .d (.int .i64)]]⟩
theorem eqn56 (G : GP) (x : (List Int) × Int × Unit) : xfunH (cfg56 G) x56 5 [.t 2] [] ish56 osh56 x = m56 x.1 x.2.1 := by kernel_rfl
noncomputable def h56 : HI := ⟨56, ish56, osh56, fun (x : (List Int) × Int × Unit) => m56 x.1 x.2.1⟩
theorem okh56 {G : GP} : HOk Tryd.prog (gx (gtab G)) h56 := hok mixed (cfg_h okh54 (cfg_nil _ _) : CfgOk _ (cfg56 G)) F56 (eqn56 G)
def r30_0 : List Ins := [qI 2 (.mov kN)]
def r30_1 : List Ins := [qI 3 (.mov kN)]
def r30_2 : List Ins := [qI 4 (.mov (kI 1000000)), qI 5 (.mov (kI 0))]
def r30_3 : List Ins := [qI 8 (.mov 0), qI 9 (.call (.fn 27) [8, (kI 5)]), qI 6 (.mov 9)]
def r30_4 : List Ins := [qI 10 (.mov 6), qI 11 (.bin .gtr 10 (kI 0)), qI 12 (.mov 11), qT 13 12 (.mov 4), qT 14 12 (.bin .gtr 13 (kI 0)), qI 15 (.pick 12 14 (.k (.bool false)))]
def r30_5 : List Ins := [qI 18 (.mov 5), qI 19 (.bin .add 18 (kI 1)), qI 20 (.mov 0), qI 21 (.call (.fn 27) [20, (kI 3)]), qI 22 (.bin .add 19 21), qI 5 (.mov 22)]
def r30_6 : List Ins := [qI 23 (.mov 0), qI 24 (.mov 4), qI 25 (.bin .sub 24 (kI 1)), qI 26 (.call (.fn 54) [23, 25]), qI 27 (.bin .add (kI 1) 26), qI 7 (.mov 27)]
def r30_7 : List Ins := [qI 28 (.mov 3), qI 29 (.mov 5), qI 30 (.mov 7), qI 31 (.build [.int .i64 0, .int .i64 0] [(0, 1, 29), (1, 1, 30)]), qI 32 (.bslice 118 2 [31]), qI 33 (.app 118 2 16 28 32), qI 34 (.mov 4), qI 35 (.mov 7), qI 36 (.bin .sub 34 35), qI 3 (.mov 33), qI 4 (.mov 36)]
def r30_8 : List Ins := [qI 16 (.mov 6), qI 17 (.bin .sub 16 (kI 1)), qI 6 (.mov 17)]
def r30_9 : List Ins := [qI 37 (.mov 3), qI 2 (.mov 37)]
def x30 : XC := (.seq (.ops false r30_0) (.seq (.ops false r30_1) (.seq (.ops false r30_2) (.seq (.seq (.ops false r30_3) (.block 0 (.loop [.gh 3 118 tS6] ⟨38, [(4, (.int .i64)), (5, (.int .i64)), (6, (.int .i64))], [(0, .ptr 0 0 0), (3, .row 1)], [.box 113 [.d (.list (.int .i64)), .d (.int .i64)], .row 118 tS6 false]⟩ (.seq (.seq (.ops false r30_4) (.cond (.t 15) .skip (.exit 0))) (.seq (.block 1 (.seq (.ops false r30_5) (.seq (.ops false r30_6) (.ops false r30_7)))) (.ops false r30_8)))))) (.seq (.ops false r30_9) .ret)))))
theorem F30 : Fn Tryd.prog 30 38 x30.er [.t 2] := ⟨Tryd.f30, hcl, Tryd.func30, by kernel_rfl, by kernel_rfl, by kernel_rfl, by kernel_rfl⟩
noncomputable def m30 (a0 : List Int) (a1 : Int) : Option ((List Int) × Int × (List DS6) × Unit) :=
 (m27 5 a0 a1).bind fun y189 =>
 loopO (S := Int × Int × Int × (List Int) × Int × (List DS6) × Unit) (R := (List Int) × Int × (List DS6) × Unit) (fun s190 =>
 cond (cond (iLt 0 s190.2.2.1) (iLt 0 s190.1) false)
 ((m27 3 s190.2.2.2.1 s190.2.2.2.2.1).bind fun y191 =>
 (m54 (iSub .i64 s190.1 1) y191.2.1 y191.2.2.1).bind fun y192 =>
 cond (fits (List.length s190.2.2.2.2.2.1 + List.length ([(iAdd .i64 (iAdd .i64 s190.2.1 1) y191.1, iAdd .i64 1 y192.1, ())] : List DS6)) 16)
 (some (.inl (iSub .i64 s190.1 (iAdd .i64 1 y192.1), iAdd .i64 (iAdd .i64 s190.2.1 1) y191.1, iSub .i64 s190.2.2.1 1, y192.2.1, y192.2.2.1, s190.2.2.2.2.2.1 ++ ([(iAdd .i64 (iAdd .i64 s190.2.1 1) y191.1, iAdd .i64 1 y192.1, ())] : List DS6), ()))) none)
 (some (.inr (s190.2.2.2.1, s190.2.2.2.2.1, s190.2.2.2.2.2.1, ()))))
 (1000000, 0, y189.1, y189.2.1, y189.2.2.1, ([] : List DS6), ())
noncomputable def cfg30 (G : GP) : Cfg := ⟨ttab, (gtab G), [], [h27, h54]⟩
def ish30 : Sh := ⟨1, [], [(0, .ptr 0 0 0)], [.box 113 [.d (.list (.int .i64)), .d (.int .i64)]]⟩
def osh30 : Sh := ⟨1, [], [(0, .row 1)], [.box 113 [.d (.list (.int .i64)), .d (.int .i64)], .row 118 tS6 false]⟩
theorem eqn30 (G : GP) (x : (List Int) × Int × Unit) : xfunH (cfg30 G) x30 38 [.t 2] [.gh 2 118 tS6] ish30 osh30 x = m30 x.1 x.2.1 := by kernel_rfl
noncomputable def h30 : HI := ⟨30, ish30, osh30, fun (x : (List Int) × Int × Unit) => m30 x.1 x.2.1⟩
theorem okh30 {G : GP} : HOk Tryd.prog (gx (gtab G)) h30 := hok mixed (cfg_h okh27 (cfg_h okh54 (cfg_nil _ _)) : CfgOk _ (cfg30 G)) F30 (eqn30 G)
def r57_0 : List Ins := [qI 6 (.mov (kI 0))]
def r57_1 : List Ins := [qI 7 (.mov 1), qI 8 (.mov 0), qI 9 (.mov 2), qI 10 (.mov 1), qI 11 (.bin .sub 9 10), qI 12 (.bin .add 11 (kI 1)), qI 13 (.call (.fn 27) [8, 12]), qI 14 (.bin .add 7 13), qI 6 (.mov 14)]
def x57 : XC := (.seq (.ops false r57_0) (.seq (.ops false r57_1) .ret))
theorem F57 : Fn Tryd.prog 57 15 x57.er [.t 6] := ⟨Tryd.f57, hcl, Tryd.func57, by kernel_rfl, by kernel_rfl, by kernel_rfl, by kernel_rfl⟩
noncomputable def m57 (a0 : Int) (a1 : Int) (a2 : List Int) (a3 : Int) : Option (Int × (List Int) × Int × Unit) :=
 (m27 (iAdd .i64 (iSub .i64 a1 a0) 1) a2 a3).bind fun y199 =>
 some (iAdd .i64 a0 y199.1, y199.2.1, y199.2.2.1, ())
noncomputable def cfg57 (G : GP) : Cfg := ⟨ttab, (gtab G), [], [h27]⟩
def ish57 : Sh := ⟨3, [(1, (.int .i64)), (2, (.int .i64))], [(0, .ptr 0 0 0)], [.box 113 [.d (.list (.int .i64)), .d (.int .i64)]]⟩
def osh57 : Sh := ⟨1, [(0, (.int .i64))], [], [.box 113 [.d (.list (.int .i64)), .d (.int .i64)]]⟩
theorem eqn57 (G : GP) (x : Int × Int × (List Int) × Int × Unit) : xfunH (cfg57 G) x57 15 [.t 6] [] ish57 osh57 x = m57 x.1 x.2.1 x.2.2.1 x.2.2.2.1 := by kernel_rfl
noncomputable def h57 : HI := ⟨57, ish57, osh57, fun (x : Int × Int × (List Int) × Int × Unit) => m57 x.1 x.2.1 x.2.2.1 x.2.2.2.1⟩
theorem okh57 {G : GP} : HOk Tryd.prog (gx (gtab G)) h57 := hok mixed (cfg_h okh27 (cfg_nil _ _) : CfgOk _ (cfg57 G)) F57 (eqn57 G)
def r31_0 : List Ins := [qI 6 (.alloc 76 (.agg #[.int .i64 0, .int .i64 0, .int .i64 0, .int .i64 0, .slice none 0 0, .slice none 0 0, .int .i64 0, .int .i64 0, .int .i64 0, .int .i64 0, .int .i64 0, .int .i64 0, .int .i64 0, .int .i64 0, .int .i64 0, .int .i64 0, .slice none 0 0, .bool false, .int .i64 0, .slice none 0 0, .slice none 0 0]))]
def r31_1 : List Ins := [qI 9 (.mov 1), qI 10 (.mov 2), qI 11 (.mov 0), qI 12 (.call (.fn 27) [11, (kI 10)]), qI 13 (.mov 0), qI 14 (.call (.fn 27) [13, (kI 60)]), qI 15 (.bin .add (kI 60) 14), qI 16 (.build [.int .i64 0, .int .i64 0] [(0, 1, 12), (1, 1, 15)]), qI 17 (.mov 0), qI 18 (.call (.fn 55) [17, (kI 0), (kI 2)]), qI 19 (.mov 0), qI 20 (.call (.fn 55) [19, (kI 0), (kI 2)]), qI 21 (.mov 0), qI 22 (.call (.fn 56) [21]), qI 23 (.mov 0), qI 24 (.call (.fn 30) [23]), qI 25 (.build [.int .i64 0, .int .i64 0, .int .i64 0, .int .i64 0, .slice none 0 0, .slice none 0 0, .int .i64 0, .int .i64 0, .int .i64 0, .int .i64 0, .int .i64 0, .int .i64 0, .int .i64 0, .int .i64 0, .int .i64 0, .int .i64 0, .slice none 0 0, .bool false, .int .i64 0, .slice none 0 0, .slice none 0 0] [(0, 1, 9), (1, 1, 10), (2, 2, 16), (4, 1, 18), (5, 1, 20), (15, 1, 22), (20, 1, 24)]), qI 7 (.alloc 76 (.agg #[.int .i64 0, .int .i64 0, .int .i64 0, .int .i64 0, .slice none 0 0, .slice none 0 0, .int .i64 0, .int .i64 0, .int .i64 0, .int .i64 0, .int .i64 0, .int .i64 0, .int .i64 0, .int .i64 0, .int .i64 0, .int .i64 0, .slice none 0 0, .bool false, .int .i64 0, .slice none 0 0, .slice none 0 0])), qN (.store 21 7 25)]
def r31_2 : List Ins := [qI 26 (.mov 2)]
def r31_3 : List Ins := [qI 35 (.bin .eql 26 (kI 1)), qI 34 (.mov 35)]
def r31_4 : List Ins := [qI 36 (.mov 0), qI 37 (.call (.fn 54) [36, (kI 999999)]), qI 38 (.bin .add (kI 1) 37), qI 39 (.faddr 7 7), qN (.store 1 39 38)]
def r31_5 : List Ins := [qI 40 (.mov 0), qI 41 (.call (.fn 27) [40, (kI 2)]), qI 42 (.bin .eql 41 (kI 1))]
def r31_6 : List Ins := [qI 43 (.mov 0), qI 44 (.call (.fn 56) [43]), qI 45 (.faddr 11 7), qN (.store 1 45 44)]
def r31_7 : List Ins := [qI 47 (.bin .eql 26 (kI 2)), qI 46 (.mov 47)]
def r31_8 : List Ins := [qI 48 (.mov 0), qI 49 (.call (.fn 54) [48, (kI 1073741823)]), qI 50 (.bin .add (kI 1) 49), qI 51 (.mov 0), qI 52 (.call (.fn 57) [51, (kI 1), (kI 9)]), qI 53 (.faddr 8 7), qN (.store 1 53 50), qI 54 (.faddr 9 7), qN (.store 1 54 52)]
def r31_9 : List Ins := [qI 56 (.bin .eql 26 (kI 3)), qI 55 (.mov 56)]
def r31_10 : List Ins := [qI 57 (.mov 0), qI 58 (.call (.fn 57) [57, (kI 1), (kI 4)]), qI 59 (.mov 0), qI 60 (.call (.fn 54) [59, (kI 999999)]), qI 61 (.bin .add (kI 1) 60), qI 62 (.faddr 6 7), qN (.store 1 62 58), qI 63 (.faddr 7 7), qN (.store 1 63 61)]
def r31_11 : List Ins := [qI 27 (.mov 0), qI 28 (.call (.fn 54) [27, (kI 1073741824)]), qI 29 (.mov 0), qI 30 (.call (.fn 54) [29, (kI 1073741823)]), qI 31 (.bin .add (kI 1) 30), qI 32 (.faddr 10 7), qN (.store 1 32 28), qI 33 (.faddr 11 7), qN (.store 1 33 31)]
def r31_12 : List Ins := [qI 64 (.mov 2), qI 65 (.bin .eql 64 (kI 4)), qI 66 (.mov 65), qF 67 66 (.mov 2), qF 68 66 (.bin .eql 67 (kI 5)), qI 69 (.pick 66 (.k (.bool true)) 68)]
def r31_13 : List Ins := [qI 70 (.mov 0), qI 71 (.call (.fn 27) [70, (kI 2)]), qI 72 (.bin .eql 71 (kI 1))]
def r31_14 : List Ins := [qI 73 (.mov 0), qI 74 (.call (.fn 56) [73]), qI 75 (.faddr 13 7), qN (.store 1 75 74)]
def r31_15 : List Ins := [qI 76 (.mov 0), qI 77 (.call (.fn 27) [76, (kI 2)]), qI 78 (.bin .eql 77 (kI 1))]
def r31_16 : List Ins := [qI 79 (.mov 0), qI 80 (.call (.fn 56) [79]), qI 81 (.faddr 14 7), qN (.store 1 81 80)]
def r31_17 : List Ins := [qI 82 (.mov 0), qI 83 (.call (.fn 27) [82, (kI 4)]), qI 8 (.mov 83)]
def r31_18 : List Ins := [qI 84 (.mov 8), qI 85 (.bin .gtr 84 (kI 0))]
def r31_19 : List (Nat × Ins) := [(0, qI 88 (.faddr 16 7)),
(1, qI 89 (.load 1 false 88)),
(0, qI 90 (.mov 0)),
(2, qI 91 (.call (.fn 54) [90, (kI 2000000)])),
(2, qI 92 (.bslice 3 1 [91])),
(0, qI 93 (.app 3 1 8 89 92)),
(0, qI 94 (.faddr 16 7)),
(0, qN (.store 1 94 93))]
def r31_20 : List Ins := [qI 86 (.mov 8), qI 87 (.bin .sub 86 (kI 1)), qI 8 (.mov 87)]
def r31_21 : List Ins := [qI 95 (.faddr 16 7), qI 96 (.load 1 false 95), qI 97 (.len 96), qI 98 (.bin .gtr 97 (kI 0)), qI 99 (.mov 98), qT 100 99 (.mov 0), qT 101 99 (.call (.fn 27) [100, (kI 2)]), qT 102 99 (.bin .eql 101 (kI 1)), qI 103 (.pick 99 102 (.k (.bool false))), qI 104 (.faddr 17 7), qN (.store 1 104 103)]
def r31_22 : List Ins := [qI 105 (.mov 2), qI 106 (.bin .eql 105 (kI 4)), qI 107 (.mov 106), qT 108 107 (.mov 0), qT 109 107 (.call (.fn 27) [108, (kI 2)]), qT 110 107 (.bin .eql 109 (kI 1)), qI 111 (.pick 107 110 (.k (.bool false)))]
def r31_23 : List Ins := [qI 112 (.mov 0), qI 113 (.call (.fn 54) [112, (kI 1000)]), qI 114 (.bin .add (kI 1) 113), qI 115 (.faddr 18 7), qN (.store 1 115 114)]
def r31_24 : List Ins := [qI 116 (.mov 2), qI 117 (.bin .eql 116 (kI 5))]
def r31_25 : List Ins := [qI 118 (.mov 0), qI 119 (.call (.fn 57) [118, (kI 1), (kI 30)]), qI 120 (.faddr 12 7), qN (.store 1 120 119)]
def r31_26 : List Ins := [qI 121 (.load 21 true 7), qN (.store 21 6 121)]
def x31 : XC := (.seq (.ops false r31_0) (.seq (.ops false r31_1) (.seqj [] ⟨122, [(2, (.int .i64))], [(0, .ptr 0 0 0), (6, .ptr 1 0 0), (7, .ptr 2 0 0)], [.box 113 [.d (.list (.int .i64)), .d (.int .i64)], .box 76 [.d (.int .i64), .d (.int .i64), .d (.int .i64), .d (.int .i64), .nil, .nil, .d (.int .i64), .d (.int .i64), .d (.int .i64), .d (.int .i64), .d (.int .i64), .d (.int .i64), .d (.int .i64), .d (.int .i64), .d (.int .i64), .d (.int .i64), .nil, .d .bool, .d (.int .i64), .nil, .nil], .box 76 [.d (.int .i64), .d (.int .i64), .d (.int .i64), .d (.int .i64), .row 3, .row 4, .d (.int .i64), .d (.int .i64), .d (.int .i64), .d (.int .i64), .d (.int .i64), .d (.int .i64), .d (.int .i64), .d (.int .i64), .d (.int .i64), .d (.int .i64), .nil, .d .bool, .d (.int .i64), .nil, .row 5], .row 3 (.int .i64) false, .row 3 (.int .i64) false, .row 118 tS6 false]⟩ (.seq (.ops false r31_2) (.block 0 (.seq (.ops false r31_3) (.cond (.t 34) (.seq (.ops false r31_4) (.seq (.ops false r31_5) (.cond (.t 42) (.ops false r31_6) .skip))) (.seq (.ops false r31_7) (.cond (.t 46) (.ops false r31_8) (.seq (.ops false r31_9) (.cond (.t 55) (.ops false r31_10) (.ops false r31_11))))))))) (.seqj [.ghc 7 16 3 (.int .i64)] ⟨122, [(2, (.int .i64))], [(0, .ptr 0 0 0), (6, .ptr 1 0 0), (7, .ptr 2 0 0)], [.box 113 [.d (.list (.int .i64)), .d (.int .i64)], .box 76 [.d (.int .i64), .d (.int .i64), .d (.int .i64), .d (.int .i64), .nil, .nil, .d (.int .i64), .d (.int .i64), .d (.int .i64), .d (.int .i64), .d (.int .i64), .d (.int .i64), .d (.int .i64), .d (.int .i64), .d (.int .i64), .d (.int .i64), .nil, .d .bool, .d (.int .i64), .nil, .nil], .box 76 [.d (.int .i64), .d (.int .i64), .d (.int .i64), .d (.int .i64), .row 3, .row 4, .d (.int .i64), .d (.int .i64), .d (.int .i64), .d (.int .i64), .d (.int .i64), .d (.int .i64), .d (.int .i64), .d (.int .i64), .d (.int .i64), .d (.int .i64), .row 5, .d .bool, .d (.int .i64), .nil, .row 6], .row 3 (.int .i64) false, .row 3 (.int .i64) false, .row 3 (.int .i64) false, .row 118 tS6 false]⟩ (.seq (.ops false r31_12) (.cond (.t 69) (.seqj [] ⟨122, [(2, (.int .i64))], [(0, .ptr 0 0 0), (6, .ptr 1 0 0), (7, .ptr 2 0 0)], [.box 113 [.d (.list (.int .i64)), .d (.int .i64)], .box 76 [.d (.int .i64), .d (.int .i64), .d (.int .i64), .d (.int .i64), .nil, .nil, .d (.int .i64), .d (.int .i64), .d (.int .i64), .d (.int .i64), .d (.int .i64), .d (.int .i64), .d (.int .i64), .d (.int .i64), .d (.int .i64), .d (.int .i64), .nil, .d .bool, .d (.int .i64), .nil, .nil], .box 76 [.d (.int .i64), .d (.int .i64), .d (.int .i64), .d (.int .i64), .row 3, .row 4, .d (.int .i64), .d (.int .i64), .d (.int .i64), .d (.int .i64), .d (.int .i64), .d (.int .i64), .d (.int .i64), .d (.int .i64), .d (.int .i64), .d (.int .i64), .nil, .d .bool, .d (.int .i64), .nil, .row 5], .row 3 (.int .i64) false, .row 3 (.int .i64) false, .row 118 tS6 false]⟩ (.seq (.ops false r31_13) (.cond (.t 72) (.ops false r31_14) .skip)) (.seqj [] ⟨122, [(2, (.int .i64))], [(0, .ptr 0 0 0), (6, .ptr 1 0 0), (7, .ptr 2 0 0)], [.box 113 [.d (.list (.int .i64)), .d (.int .i64)], .box 76 [.d (.int .i64), .d (.int .i64), .d (.int .i64), .d (.int .i64), .nil, .nil, .d (.int .i64), .d (.int .i64), .d (.int .i64), .d (.int .i64), .d (.int .i64), .d (.int .i64), .d (.int .i64), .d (.int .i64), .d (.int .i64), .d (.int .i64), .nil, .d .bool, .d (.int .i64), .nil, .nil], .box 76 [.d (.int .i64), .d (.int .i64), .d (.int .i64), .d (.int .i64), .row 3, .row 4, .d (.int .i64), .d (.int .i64), .d (.int .i64), .d (.int .i64), .d (.int .i64), .d (.int .i64), .d (.int .i64), .d (.int .i64), .d (.int .i64), .d (.int .i64), .nil, .d .bool, .d (.int .i64), .nil, .row 5], .row 3 (.int .i64) false, .row 3 (.int .i64) false, .row 118 tS6 false]⟩ (.seq (.ops false r31_15) (.cond (.t 78) (.ops false r31_16) .skip)) (.seq (.seq (.ops false r31_17) (.block 1 (.loop [.ghc 7 16 3 (.int .i64)] ⟨122, [(2, (.int .i64)), (8, (.int .i64))], [(0, .ptr 0 0 0), (6, .ptr 1 0 0), (7, .ptr 2 0 0)], [.box 113 [.d (.list (.int .i64)), .d (.int .i64)], .box 76 [.d (.int .i64), .d (.int .i64), .d (.int .i64), .d (.int .i64), .nil, .nil, .d (.int .i64), .d (.int .i64), .d (.int .i64), .d (.int .i64), .d (.int .i64), .d (.int .i64), .d (.int .i64), .d (.int .i64), .d (.int .i64), .d (.int .i64), .nil, .d .bool, .d (.int .i64), .nil, .nil], .box 76 [.d (.int .i64), .d (.int .i64), .d (.int .i64), .d (.int .i64), .row 3, .row 4, .d (.int .i64), .d (.int .i64), .d (.int .i64), .d (.int .i64), .d (.int .i64), .d (.int .i64), .d (.int .i64), .d (.int .i64), .d (.int .i64), .d (.int .i64), .row 5, .d .bool, .d (.int .i64), .nil, .row 6], .row 3 (.int .i64) false, .row 3 (.int .i64) false, .row 3 (.int .i64) false, .row 118 tS6 false]⟩ (.seq (.seq (.ops false r31_18) (.cond (.t 85) .skip (.exit 1))) (.seq (.block 2 (.rops [0] r31_19)) (.ops false r31_20)))))) (.ops false r31_21)))) .skip)) (.seq (.seq (.ops false r31_22) (.cond (.t 111) (.ops false r31_23) .skip)) (.seq (.seq (.ops false r31_24) (.cond (.t 117) (.ops false r31_25) .skip)) (.seq (.ops false r31_26) .ret)))))))
theorem F31 : Fn Tryd.prog 31 122 x31.er [.c 6 21 true] := ⟨Tryd.f31, hcl, Tryd.func31, by kernel_rfl, by kernel_rfl, by kernel_rfl, by kernel_rfl⟩
noncomputable def m31 (a0 : Int) (a1 : Int) (a2 : List Int) (a3 : Int) : Option (Int × Int × Int × Int × Int × Int × Int × Int × Int × Int × Int × Int × Int × Int × Bool × Int × (List Int) × Int × (List Int) × (List Int) × (List Int) × (List DS6) × Unit) :=
 (m27 10 a2 a3).bind fun y253 =>
 (m27 60 y253.2.1 y253.2.2.1).bind fun y254 =>
 (m55 0 2 y254.2.1 y254.2.2.1).bind fun y255 =>
 (m55 0 2 y255.1 y255.2.1).bind fun y256 =>
 (m56 y256.1 y256.2.1).bind fun y257 =>
 (m30 y257.2.1 y257.2.2.1).bind fun y258 =>
 joinO (S := Int × (List Int) × Int × Int × Int × Int × Int × Int × Int × Int × Int × Int × Int × Int × Int × Int × Int × Bool × Int × Int × Int × Int × Int × Int × Int × Int × Int × Int × Int × Int × Int × Int × Int × Bool × Int × (List Int) × (List Int) × (List DS6) × Unit) (R := Int × Int × Int × Int × Int × Int × Int × Int × Int × Int × Int × Int × Int × Int × Bool × Int × (List Int) × Int × (List Int) × (List Int) × (List Int) × (List DS6) × Unit)
 (cond (iEq a1 1)
 ((m54 999999 y258.1 y258.2.1).bind fun y259 =>
 (m27 2 y259.2.1 y259.2.2.1).bind fun y260 =>
 cond (iEq y260.1 1)
 ((m56 y260.2.1 y260.2.2.1).bind fun y261 =>
 some (.inl (a1, y261.2.1, y261.2.2.1, 0, 0, 0, 0, 0, 0, 0, 0, 0, 0, 0, 0, 0, 0, false, 0, a0, a1, y253.1, iAdd .i64 60 y254.1, 0, iAdd .i64 1 y259.1, 0, 0, 0, y261.1, 0, 0, 0, y257.1, false, 0, y255.2.2.1, y256.2.2.1, y258.2.2.1, ())))
 (some (.inl (a1, y260.2.1, y260.2.2.1, 0, 0, 0, 0, 0, 0, 0, 0, 0, 0, 0, 0, 0, 0, false, 0, a0, a1, y253.1, iAdd .i64 60 y254.1, 0, iAdd .i64 1 y259.1, 0, 0, 0, 0, 0, 0, 0, y257.1, false, 0, y255.2.2.1, y256.2.2.1, y258.2.2.1, ()))))
 (cond (iEq a1 2)
 ((m54 1073741823 y258.1 y258.2.1).bind fun y262 =>
 (m57 1 9 y262.2.1 y262.2.2.1).bind fun y263 =>
 some (.inl (a1, y263.2.1, y263.2.2.1, 0, 0, 0, 0, 0, 0, 0, 0, 0, 0, 0, 0, 0, 0, false, 0, a0, a1, y253.1, iAdd .i64 60 y254.1, 0, 0, iAdd .i64 1 y262.1, y263.1, 0, 0, 0, 0, 0, y257.1, false, 0, y255.2.2.1, y256.2.2.1, y258.2.2.1, ())))
 (cond (iEq a1 3)
 ((m57 1 4 y258.1 y258.2.1).bind fun y264 =>
 (m54 999999 y264.2.1 y264.2.2.1).bind fun y265 =>
 some (.inl (a1, y265.2.1, y265.2.2.1, 0, 0, 0, 0, 0, 0, 0, 0, 0, 0, 0, 0, 0, 0, false, 0, a0, a1, y253.1, iAdd .i64 60 y254.1, y264.1, iAdd .i64 1 y265.1, 0, 0, 0, 0, 0, 0, 0, y257.1, false, 0, y255.2.2.1, y256.2.2.1, y258.2.2.1, ())))
 ((m54 1073741824 y258.1 y258.2.1).bind fun y266 =>
 (m54 1073741823 y266.2.1 y266.2.2.1).bind fun y267 =>
 some (.inl (a1, y267.2.1, y267.2.2.1, 0, 0, 0, 0, 0, 0, 0, 0, 0, 0, 0, 0, 0, 0, false, 0, a0, a1, y253.1, iAdd .i64 60 y254.1, 0, 0, 0, 0, y266.1, iAdd .i64 1 y267.1, 0, 0, 0, y257.1, false, 0, y255.2.2.1, y256.2.2.1, y258.2.2.1, ()))))))
 (fun j268 =>
 joinO (S := Int × (List Int) × Int × Int × Int × Int × Int × Int × Int × Int × Int × Int × Int × Int × Int × Int × Int × Bool × Int × Int × Int × Int × Int × Int × Int × Int × Int × Int × Int × Int × Int × Int × Int × Bool × Int × (List Int) × (List Int) × (List Int) × (List DS6) × Unit) (R := Int × Int × Int × Int × Int × Int × Int × Int × Int × Int × Int × Int × Int × Int × Bool × Int × (List Int) × Int × (List Int) × (List Int) × (List Int) × (List DS6) × Unit)
 (cond (cond (iEq j268.1 4) true (iEq j268.1 5))
 (joinO (S := Int × (List Int) × Int × Int × Int × Int × Int × Int × Int × Int × Int × Int × Int × Int × Int × Int × Int × Bool × Int × Int × Int × Int × Int × Int × Int × Int × Int × Int × Int × Int × Int × Int × Int × Bool × Int × (List Int) × (List Int) × (List DS6) × Unit) (R := (Int × (List Int) × Int × Int × Int × Int × Int × Int × Int × Int × Int × Int × Int × Int × Int × Int × Int × Bool × Int × Int × Int × Int × Int × Int × Int × Int × Int × Int × Int × Int × Int × Int × Int × Bool × Int × (List Int) × (List Int) × (List Int) × (List DS6) × Unit) ⊕ (Int × Int × Int × Int × Int × Int × Int × Int × Int × Int × Int × Int × Int × Int × Bool × Int × (List Int) × Int × (List Int) × (List Int) × (List Int) × (List DS6) × Unit))
 ((m27 2 j268.2.1 j268.2.2.1).bind fun y269 =>
 cond (iEq y269.1 1)
 ((m56 y269.2.1 y269.2.2.1).bind fun y270 =>
 some (.inl (j268.1, y270.2.1, y270.2.2.1, j268.2.2.2.1, j268.2.2.2.2.1, j268.2.2.2.2.2.1, j268.2.2.2.2.2.2.1, j268.2.2.2.2.2.2.2.1, j268.2.2.2.2.2.2.2.2.1, j268.2.2.2.2.2.2.2.2.2.1, j268.2.2.2.2.2.2.2.2.2.2.1, j268.2.2.2.2.2.2.2.2.2.2.2.1, j268.2.2.2.2.2.2.2.2.2.2.2.2.1, j268.2.2.2.2.2.2.2.2.2.2.2.2.2.1, j268.2.2.2.2.2.2.2.2.2.2.2.2.2.2.1, j268.2.2.2.2.2.2.2.2.2.2.2.2.2.2.2.1, j268.2.2.2.2.2.2.2.2.2.2.2.2.2.2.2.2.1, j268.2.2.2.2.2.2.2.2.2.2.2.2.2.2.2.2.2.1, j268.2.2.2.2.2.2.2.2.2.2.2.2.2.2.2.2.2.2.1, j268.2.2.2.2.2.2.2.2.2.2.2.2.2.2.2.2.2.2.2.1, j268.2.2.2.2.2.2.2.2.2.2.2.2.2.2.2.2.2.2.2.2.1, j268.2.2.2.2.2.2.2.2.2.2.2.2.2.2.2.2.2.2.2.2.2.1, j268.2.2.2.2.2.2.2.2.2.2.2.2.2.2.2.2.2.2.2.2.2.2.1, j268.2.2.2.2.2.2.2.2.2.2.2.2.2.2.2.2.2.2.2.2.2.2.2.1, j268.2.2.2.2.2.2.2.2.2.2.2.2.2.2.2.2.2.2.2.2.2.2.2.2.1, j268.2.2.2.2.2.2.2.2.2.2.2.2.2.2.2.2.2.2.2.2.2.2.2.2.2.1, j268.2.2.2.2.2.2.2.2.2.2.2.2.2.2.2.2.2.2.2.2.2.2.2.2.2.2.1, j268.2.2.2.2.2.2.2.2.2.2.2.2.2.2.2.2.2.2.2.2.2.2.2.2.2.2.2.1, j268.2.2.2.2.2.2.2.2.2.2.2.2.2.2.2.2.2.2.2.2.2.2.2.2.2.2.2.2.1, j268.2.2.2.2.2.2.2.2.2.2.2.2.2.2.2.2.2.2.2.2.2.2.2.2.2.2.2.2.2.1, y270.1, j268.2.2.2.2.2.2.2.2.2.2.2.2.2.2.2.2.2.2.2.2.2.2.2.2.2.2.2.2.2.2.2.1, j268.2.2.2.2.2.2.2.2.2.2.2.2.2.2.2.2.2.2.2.2.2.2.2.2.2.2.2.2.2.2.2.2.1, j268.2.2.2.2.2.2.2.2.2.2.2.2.2.2.2.2.2.2.2.2.2.2.2.2.2.2.2.2.2.2.2.2.2.1, j268.2.2.2.2.2.2.2.2.2.2.2.2.2.2.2.2.2.2.2.2.2.2.2.2.2.2.2.2.2.2.2.2.2.2.1, j268.2.2.2.2.2.2.2.2.2.2.2.2.2.2.2.2.2.2.2.2.2.2.2.2.2.2.2.2.2.2.2.2.2.2.2.1, j268.2.2.2.2.2.2.2.2.2.2.2.2.2.2.2.2.2.2.2.2.2.2.2.2.2.2.2.2.2.2.2.2.2.2.2.2.1, j268.2.2.2.2.2.2.2.2.2.2.2.2.2.2.2.2.2.2.2.2.2.2.2.2.2.2.2.2.2.2.2.2.2.2.2.2.2.1, ())))
 (some (.inl (j268.1, y269.2.1, y269.2.2.1, j268.2.2.2.1, j268.2.2.2.2.1, j268.2.2.2.2.2.1, j268.2.2.2.2.2.2.1, j268.2.2.2.2.2.2.2.1, j268.2.2.2.2.2.2.2.2.1, j268.2.2.2.2.2.2.2.2.2.1, j268.2.2.2.2.2.2.2.2.2.2.1, j268.2.2.2.2.2.2.2.2.2.2.2.1, j268.2.2.2.2.2.2.2.2.2.2.2.2.1, j268.2.2.2.2.2.2.2.2.2.2.2.2.2.1, j268.2.2.2.2.2.2.2.2.2.2.2.2.2.2.1, j268.2.2.2.2.2.2.2.2.2.2.2.2.2.2.2.1, j268.2.2.2.2.2.2.2.2.2.2.2.2.2.2.2.2.1, j268.2.2.2.2.2.2.2.2.2.2.2.2.2.2.2.2.2.1, j268.2.2.2.2.2.2.2.2.2.2.2.2.2.2.2.2.2.2.1, j268.2.2.2.2.2.2.2.2.2.2.2.2.2.2.2.2.2.2.2.1, j268.2.2.2.2.2.2.2.2.2.2.2.2.2.2.2.2.2.2.2.2.1, j268.2.2.2.2.2.2.2.2.2.2.2.2.2.2.2.2.2.2.2.2.2.1, j268.2.2.2.2.2.2.2.2.2.2.2.2.2.2.2.2.2.2.2.2.2.2.1, j268.2.2.2.2.2.2.2.2.2.2.2.2.2.2.2.2.2.2.2.2.2.2.2.1, j268.2.2.2.2.2.2.2.2.2.2.2.2.2.2.2.2.2.2.2.2.2.2.2.2.1, j268.2.2.2.2.2.2.2.2.2.2.2.2.2.2.2.2.2.2.2.2.2.2.2.2.2.1, j268.2.2.2.2.2.2.2.2.2.2.2.2.2.2.2.2.2.2.2.2.2.2.2.2.2.2.1, j268.2.2.2.2.2.2.2.2.2.2.2.2.2.2.2.2.2.2.2.2.2.2.2.2.2.2.2.1, j268.2.2.2.2.2.2.2.2.2.2.2.2.2.2.2.2.2.2.2.2.2.2.2.2.2.2.2.2.1, j268.2.2.2.2.2.2.2.2.2.2.2.2.2.2.2.2.2.2.2.2.2.2.2.2.2.2.2.2.2.1, j268.2.2.2.2.2.2.2.2.2.2.2.2.2.2.2.2.2.2.2.2.2.2.2.2.2.2.2.2.2.2.1, j268.2.2.2.2.2.2.2.2.2.2.2.2.2.2.2.2.2.2.2.2.2.2.2.2.2.2.2.2.2.2.2.1, j268.2.2.2.2.2.2.2.2.2.2.2.2.2.2.2.2.2.2.2.2.2.2.2.2.2.2.2.2.2.2.2.2.1, j268.2.2.2.2.2.2.2.2.2.2.2.2.2.2.2.2.2.2.2.2.2.2.2.2.2.2.2.2.2.2.2.2.2.1, j268.2.2.2.2.2.2.2.2.2.2.2.2.2.2.2.2.2.2.2.2.2.2.2.2.2.2.2.2.2.2.2.2.2.2.1, j268.2.2.2.2.2.2.2.2.2.2.2.2.2.2.2.2.2.2.2.2.2.2.2.2.2.2.2.2.2.2.2.2.2.2.2.1, j268.2.2.2.2.2.2.2.2.2.2.2.2.2.2.2.2.2.2.2.2.2.2.2.2.2.2.2.2.2.2.2.2.2.2.2.2.1, j268.2.2.2.2.2.2.2.2.2.2.2.2.2.2.2.2.2.2.2.2.2.2.2.2.2.2.2.2.2.2.2.2.2.2.2.2.2.1, ()))))
 (fun j271 =>
 joinO (S := Int × (List Int) × Int × Int × Int × Int × Int × Int × Int × Int × Int × Int × Int × Int × Int × Int × Int × Bool × Int × Int × Int × Int × Int × Int × Int × Int × Int × Int × Int × Int × Int × Int × Int × Bool × Int × (List Int) × (List Int) × (List DS6) × Unit) (R := (Int × (List Int) × Int × Int × Int × Int × Int × Int × Int × Int × Int × Int × Int × Int × Int × Int × Int × Bool × Int × Int × Int × Int × Int × Int × Int × Int × Int × Int × Int × Int × Int × Int × Int × Bool × Int × (List Int) × (List Int) × (List Int) × (List DS6) × Unit) ⊕ (Int × Int × Int × Int × Int × Int × Int × Int × Int × Int × Int × Int × Int × Int × Bool × Int × (List Int) × Int × (List Int) × (List Int) × (List Int) × (List DS6) × Unit))
 ((m27 2 j271.2.1 j271.2.2.1).bind fun y272 =>
 cond (iEq y272.1 1)
 ((m56 y272.2.1 y272.2.2.1).bind fun y273 =>
 some (.inl (j271.1, y273.2.1, y273.2.2.1, j271.2.2.2.1, j271.2.2.2.2.1, j271.2.2.2.2.2.1, j271.2.2.2.2.2.2.1, j271.2.2.2.2.2.2.2.1, j271.2.2.2.2.2.2.2.2.1, j271.2.2.2.2.2.2.2.2.2.1, j271.2.2.2.2.2.2.2.2.2.2.1, j271.2.2.2.2.2.2.2.2.2.2.2.1, j271.2.2.2.2.2.2.2.2.2.2.2.2.1, j271.2.2.2.2.2.2.2.2.2.2.2.2.2.1, j271.2.2.2.2.2.2.2.2.2.2.2.2.2.2.1, j271.2.2.2.2.2.2.2.2.2.2.2.2.2.2.2.1, j271.2.2.2.2.2.2.2.2.2.2.2.2.2.2.2.2.1, j271.2.2.2.2.2.2.2.2.2.2.2.2.2.2.2.2.2.1, j271.2.2.2.2.2.2.2.2.2.2.2.2.2.2.2.2.2.2.1, j271.2.2.2.2.2.2.2.2.2.2.2.2.2.2.2.2.2.2.2.1, j271.2.2.2.2.2.2.2.2.2.2.2.2.2.2.2.2.2.2.2.2.1, j271.2.2.2.2.2.2.2.2.2.2.2.2.2.2.2.2.2.2.2.2.2.1, j271.2.2.2.2.2.2.2.2.2.2.2.2.2.2.2.2.2.2.2.2.2.2.1, j271.2.2.2.2.2.2.2.2.2.2.2.2.2.2.2.2.2.2.2.2.2.2.2.1, j271.2.2.2.2.2.2.2.2.2.2.2.2.2.2.2.2.2.2.2.2.2.2.2.2.1, j271.2.2.2.2.2.2.2.2.2.2.2.2.2.2.2.2.2.2.2.2.2.2.2.2.2.1, j271.2.2.2.2.2.2.2.2.2.2.2.2.2.2.2.2.2.2.2.2.2.2.2.2.2.2.1, j271.2.2.2.2.2.2.2.2.2.2.2.2.2.2.2.2.2.2.2.2.2.2.2.2.2.2.2.1, j271.2.2.2.2.2.2.2.2.2.2.2.2.2.2.2.2.2.2.2.2.2.2.2.2.2.2.2.2.1, j271.2.2.2.2.2.2.2.2.2.2.2.2.2.2.2.2.2.2.2.2.2.2.2.2.2.2.2.2.2.1, j271.2.2.2.2.2.2.2.2.2.2.2.2.2.2.2.2.2.2.2.2.2.2.2.2.2.2.2.2.2.2.1, y273.1, j271.2.2.2.2.2.2.2.2.2.2.2.2.2.2.2.2.2.2.2.2.2.2.2.2.2.2.2.2.2.2.2.2.1, j271.2.2.2.2.2.2.2.2.2.2.2.2.2.2.2.2.2.2.2.2.2.2.2.2.2.2.2.2.2.2.2.2.2.1, j271.2.2.2.2.2.2.2.2.2.2.2.2.2.2.2.2.2.2.2.2.2.2.2.2.2.2.2.2.2.2.2.2.2.2.1, j271.2.2.2.2.2.2.2.2.2.2.2.2.2.2.2.2.2.2.2.2.2.2.2.2.2.2.2.2.2.2.2.2.2.2.2.1, j271.2.2.2.2.2.2.2.2.2.2.2.2.2.2.2.2.2.2.2.2.2.2.2.2.2.2.2.2.2.2.2.2.2.2.2.2.1, j271.2.2.2.2.2.2.2.2.2.2.2.2.2.2.2.2.2.2.2.2.2.2.2.2.2.2.2.2.2.2.2.2.2.2.2.2.2.1, ())))
 (some (.inl (j271.1, y272.2.1, y272.2.2.1, j271.2.2.2.1, j271.2.2.2.2.1, j271.2.2.2.2.2.1, j271.2.2.2.2.2.2.1, j271.2.2.2.2.2.2.2.1, j271.2.2.2.2.2.2.2.2.1, j271.2.2.2.2.2.2.2.2.2.1, j271.2.2.2.2.2.2.2.2.2.2.1, j271.2.2.2.2.2.2.2.2.2.2.2.1, j271.2.2.2.2.2.2.2.2.2.2.2.2.1, j271.2.2.2.2.2.2.2.2.2.2.2.2.2.1, j271.2.2.2.2.2.2.2.2.2.2.2.2.2.2.1, j271.2.2.2.2.2.2.2.2.2.2.2.2.2.2.2.1, j271.2.2.2.2.2.2.2.2.2.2.2.2.2.2.2.2.1, j271.2.2.2.2.2.2.2.2.2.2.2.2.2.2.2.2.2.1, j271.2.2.2.2.2.2.2.2.2.2.2.2.2.2.2.2.2.2.1, j271.2.2.2.2.2.2.2.2.2.2.2.2.2.2.2.2.2.2.2.1, j271.2.2.2.2.2.2.2.2.2.2.2.2.2.2.2.2.2.2.2.2.1, j271.2.2.2.2.2.2.2.2.2.2.2.2.2.2.2.2.2.2.2.2.2.1, j271.2.2.2.2.2.2.2.2.2.2.2.2.2.2.2.2.2.2.2.2.2.2.1, j271.2.2.2.2.2.2.2.2.2.2.2.2.2.2.2.2.2.2.2.2.2.2.2.1, j271.2.2.2.2.2.2.2.2.2.2.2.2.2.2.2.2.2.2.2.2.2.2.2.2.1, j271.2.2.2.2.2.2.2.2.2.2.2.2.2.2.2.2.2.2.2.2.2.2.2.2.2.1, j271.2.2.2.2.2.2.2.2.2.2.2.2.2.2.2.2.2.2.2.2.2.2.2.2.2.2.1, j271.2.2.2.2.2.2.2.2.2.2.2.2.2.2.2.2.2.2.2.2.2.2.2.2.2.2.2.1, j271.2.2.2.2.2.2.2.2.2.2.2.2.2.2.2.2.2.2.2.2.2.2.2.2.2.2.2.2.1, j271.2.2.2.2.2.2.2.2.2.2.2.2.2.2.2.2.2.2.2.2.2.2.2.2.2.2.2.2.2.1, j271.2.2.2.2.2.2.2.2.2.2.2.2.2.2.2.2.2.2.2.2.2.2.2.2.2.2.2.2.2.2.1, j271.2.2.2.2.2.2.2.2.2.2.2.2.2.2.2.2.2.2.2.2.2.2.2.2.2.2.2.2.2.2.2.1, j271.2.2.2.2.2.2.2.2.2.2.2.2.2.2.2.2.2.2.2.2.2.2.2.2.2.2.2.2.2.2.2.2.1, j271.2.2.2.2.2.2.2.2.2.2.2.2.2.2.2.2.2.2.2.2.2.2.2.2.2.2.2.2.2.2.2.2.2.1, j271.2.2.2.2.2.2.2.2.2.2.2.2.2.2.2.2.2.2.2.2.2.2.2.2.2.2.2.2.2.2.2.2.2.2.1, j271.2.2.2.2.2.2.2.2.2.2.2.2.2.2.2.2.2.2.2.2.2.2.2.2.2.2.2.2.2.2.2.2.2.2.2.1, j271.2.2.2.2.2.2.2.2.2.2.2.2.2.2.2.2.2.2.2.2.2.2.2.2.2.2.2.2.2.2.2.2.2.2.2.2.1, j271.2.2.2.2.2.2.2.2.2.2.2.2.2.2.2.2.2.2.2.2.2.2.2.2.2.2.2.2.2.2.2.2.2.2.2.2.2.1, ()))))
 (fun j274 =>
 (m27 4 j274.2.1 j274.2.2.1).bind fun y275 =>
 loopO (S := Int × Int × (List Int) × Int × Int × Int × Int × Int × Int × Int × Int × Int × Int × Int × Int × Int × Int × Int × Bool × Int × Int × Int × Int × Int × Int × Int × Int × Int × Int × Int × Int × Int × Int × Int × Bool × Int × (List Int) × (List Int) × (List Int) × (List DS6) × Unit) (R := (Int × (List Int) × Int × Int × Int × Int × Int × Int × Int × Int × Int × Int × Int × Int × Int × Int × Int × Bool × Int × Int × Int × Int × Int × Int × Int × Int × Int × Int × Int × Int × Int × Int × Int × Bool × Int × (List Int) × (List Int) × (List Int) × (List DS6) × Unit) ⊕ (Int × Int × Int × Int × Int × Int × Int × Int × Int × Int × Int × Int × Int × Int × Bool × Int × (List Int) × Int × (List Int) × (List Int) × (List Int) × (List DS6) × Unit)) (fun s276 =>
 cond (iLt 0 s276.2.1)
 ((m54 2000000 s276.2.2.1 s276.2.2.2.1).bind fun y277 =>
 cond (fits (List.length s276.2.2.2.2.2.2.2.2.2.2.2.2.2.2.2.2.2.2.2.2.2.2.2.2.2.2.2.2.2.2.2.2.2.2.2.2.2.2.1 + List.length ([y277.1] : List Int)) 8)
 (some (.inl (s276.1, iSub .i64 s276.2.1 1, y277.2.1, y277.2.2.1, s276.2.2.2.2.1, s276.2.2.2.2.2.1, s276.2.2.2.2.2.2.1, s276.2.2.2.2.2.2.2.1, s276.2.2.2.2.2.2.2.2.1, s276.2.2.2.2.2.2.2.2.2.1, s276.2.2.2.2.2.2.2.2.2.2.1, s276.2.2.2.2.2.2.2.2.2.2.2.1, s276.2.2.2.2.2.2.2.2.2.2.2.2.1, s276.2.2.2.2.2.2.2.2.2.2.2.2.2.1, s276.2.2.2.2.2.2.2.2.2.2.2.2.2.2.1, s276.2.2.2.2.2.2.2.2.2.2.2.2.2.2.2.1, s276.2.2.2.2.2.2.2.2.2.2.2.2.2.2.2.2.1, s276.2.2.2.2.2.2.2.2.2.2.2.2.2.2.2.2.2.1, s276.2.2.2.2.2.2.2.2.2.2.2.2.2.2.2.2.2.2.1, s276.2.2.2.2.2.2.2.2.2.2.2.2.2.2.2.2.2.2.2.1, s276.2.2.2.2.2.2.2.2.2.2.2.2.2.2.2.2.2.2.2.2.1, s276.2.2.2.2.2.2.2.2.2.2.2.2.2.2.2.2.2.2.2.2.2.1, s276.2.2.2.2.2.2.2.2.2.2.2.2.2.2.2.2.2.2.2.2.2.2.1, s276.2.2.2.2.2.2.2.2.2.2.2.2.2.2.2.2.2.2.2.2.2.2.2.1, s276.2.2.2.2.2.2.2.2.2.2.2.2.2.2.2.2.2.2.2.2.2.2.2.2.1, s276.2.2.2.2.2.2.2.2.2.2.2.2.2.2.2.2.2.2.2.2.2.2.2.2.2.1, s276.2.2.2.2.2.2.2.2.2.2.2.2.2.2.2.2.2.2.2.2.2.2.2.2.2.2.1, s276.2.2.2.2.2.2.2.2.2.2.2.2.2.2.2.2.2.2.2.2.2.2.2.2.2.2.2.1, s276.2.2.2.2.2.2.2.2.2.2.2.2.2.2.2.2.2.2.2.2.2.2.2.2.2.2.2.2.1, s276.2.2.2.2.2.2.2.2.2.2.2.2.2.2.2.2.2.2.2.2.2.2.2.2.2.2.2.2.2.1, s276.2.2.2.2.2.2.2.2.2.2.2.2.2.2.2.2.2.2.2.2.2.2.2.2.2.2.2.2.2.2.1, s276.2.2.2.2.2.2.2.2.2.2.2.2.2.2.2.2.2.2.2.2.2.2.2.2.2.2.2.2.2.2.2.1, s276.2.2.2.2.2.2.2.2.2.2.2.2.2.2.2.2.2.2.2.2.2.2.2.2.2.2.2.2.2.2.2.2.1, s276.2.2.2.2.2.2.2.2.2.2.2.2.2.2.2.2.2.2.2.2.2.2.2.2.2.2.2.2.2.2.2.2.2.1, s276.2.2.2.2.2.2.2.2.2.2.2.2.2.2.2.2.2.2.2.2.2.2.2.2.2.2.2.2.2.2.2.2.2.2.1, s276.2.2.2.2.2.2.2.2.2.2.2.2.2.2.2.2.2.2.2.2.2.2.2.2.2.2.2.2.2.2.2.2.2.2.2.1, s276.2.2.2.2.2.2.2.2.2.2.2.2.2.2.2.2.2.2.2.2.2.2.2.2.2.2.2.2.2.2.2.2.2.2.2.2.1, s276.2.2.2.2.2.2.2.2.2.2.2.2.2.2.2.2.2.2.2.2.2.2.2.2.2.2.2.2.2.2.2.2.2.2.2.2.2.1, s276.2.2.2.2.2.2.2.2.2.2.2.2.2.2.2.2.2.2.2.2.2.2.2.2.2.2.2.2.2.2.2.2.2.2.2.2.2.2.1 ++ ([y277.1] : List Int), s276.2.2.2.2.2.2.2.2.2.2.2.2.2.2.2.2.2.2.2.2.2.2.2.2.2.2.2.2.2.2.2.2.2.2.2.2.2.2.2.1, ()))) none)
 (Option.map Sum.inr (cond (iLt 0 (lenI s276.2.2.2.2.2.2.2.2.2.2.2.2.2.2.2.2.2.2.2.2.2.2.2.2.2.2.2.2.2.2.2.2.2.2.2.2.2.2.1))
 ((m27 2 s276.2.2.1 s276.2.2.2.1).bind fun y278 =>
 some (.inl (s276.1, y278.2.1, y278.2.2.1, s276.2.2.2.2.1, s276.2.2.2.2.2.1, s276.2.2.2.2.2.2.1, s276.2.2.2.2.2.2.2.1, s276.2.2.2.2.2.2.2.2.1, s276.2.2.2.2.2.2.2.2.2.1, s276.2.2.2.2.2.2.2.2.2.2.1, s276.2.2.2.2.2.2.2.2.2.2.2.1, s276.2.2.2.2.2.2.2.2.2.2.2.2.1, s276.2.2.2.2.2.2.2.2.2.2.2.2.2.1, s276.2.2.2.2.2.2.2.2.2.2.2.2.2.2.1, s276.2.2.2.2.2.2.2.2.2.2.2.2.2.2.2.1, s276.2.2.2.2.2.2.2.2.2.2.2.2.2.2.2.2.1, s276.2.2.2.2.2.2.2.2.2.2.2.2.2.2.2.2.2.1, s276.2.2.2.2.2.2.2.2.2.2.2.2.2.2.2.2.2.2.1, s276.2.2.2.2.2.2.2.2.2.2.2.2.2.2.2.2.2.2.2.1, s276.2.2.2.2.2.2.2.2.2.2.2.2.2.2.2.2.2.2.2.2.1, s276.2.2.2.2.2.2.2.2.2.2.2.2.2.2.2.2.2.2.2.2.2.1, s276.2.2.2.2.2.2.2.2.2.2.2.2.2.2.2.2.2.2.2.2.2.2.1, s276.2.2.2.2.2.2.2.2.2.2.2.2.2.2.2.2.2.2.2.2.2.2.2.1, s276.2.2.2.2.2.2.2.2.2.2.2.2.2.2.2.2.2.2.2.2.2.2.2.2.1, s276.2.2.2.2.2.2.2.2.2.2.2.2.2.2.2.2.2.2.2.2.2.2.2.2.2.1, s276.2.2.2.2.2.2.2.2.2.2.2.2.2.2.2.2.2.2.2.2.2.2.2.2.2.2.1, s276.2.2.2.2.2.2.2.2.2.2.2.2.2.2.2.2.2.2.2.2.2.2.2.2.2.2.2.1, s276.2.2.2.2.2.2.2.2.2.2.2.2.2.2.2.2.2.2.2.2.2.2.2.2.2.2.2.2.1, s276.2.2.2.2.2.2.2.2.2.2.2.2.2.2.2.2.2.2.2.2.2.2.2.2.2.2.2.2.2.1, s276.2.2.2.2.2.2.2.2.2.2.2.2.2.2.2.2.2.2.2.2.2.2.2.2.2.2.2.2.2.2.1, s276.2.2.2.2.2.2.2.2.2.2.2.2.2.2.2.2.2.2.2.2.2.2.2.2.2.2.2.2.2.2.2.1, s276.2.2.2.2.2.2.2.2.2.2.2.2.2.2.2.2.2.2.2.2.2.2.2.2.2.2.2.2.2.2.2.2.1, s276.2.2.2.2.2.2.2.2.2.2.2.2.2.2.2.2.2.2.2.2.2.2.2.2.2.2.2.2.2.2.2.2.2.1, iEq y278.1 1, s276.2.2.2.2.2.2.2.2.2.2.2.2.2.2.2.2.2.2.2.2.2.2.2.2.2.2.2.2.2.2.2.2.2.2.2.1, s276.2.2.2.2.2.2.2.2.2.2.2.2.2.2.2.2.2.2.2.2.2.2.2.2.2.2.2.2.2.2.2.2.2.2.2.2.1, s276.2.2.2.2.2.2.2.2.2.2.2.2.2.2.2.2.2.2.2.2.2.2.2.2.2.2.2.2.2.2.2.2.2.2.2.2.2.1, s276.2.2.2.2.2.2.2.2.2.2.2.2.2.2.2.2.2.2.2.2.2.2.2.2.2.2.2.2.2.2.2.2.2.2.2.2.2.2.1, s276.2.2.2.2.2.2.2.2.2.2.2.2.2.2.2.2.2.2.2.2.2.2.2.2.2.2.2.2.2.2.2.2.2.2.2.2.2.2.2.1, ())))
 (some (.inl (s276.1, s276.2.2.1, s276.2.2.2.1, s276.2.2.2.2.1, s276.2.2.2.2.2.1, s276.2.2.2.2.2.2.1, s276.2.2.2.2.2.2.2.1, s276.2.2.2.2.2.2.2.2.1, s276.2.2.2.2.2.2.2.2.2.1, s276.2.2.2.2.2.2.2.2.2.2.1, s276.2.2.2.2.2.2.2.2.2.2.2.1, s276.2.2.2.2.2.2.2.2.2.2.2.2.1, s276.2.2.2.2.2.2.2.2.2.2.2.2.2.1, s276.2.2.2.2.2.2.2.2.2.2.2.2.2.2.1, s276.2.2.2.2.2.2.2.2.2.2.2.2.2.2.2.1, s276.2.2.2.2.2.2.2.2.2.2.2.2.2.2.2.2.1, s276.2.2.2.2.2.2.2.2.2.2.2.2.2.2.2.2.2.1, s276.2.2.2.2.2.2.2.2.2.2.2.2.2.2.2.2.2.2.1, s276.2.2.2.2.2.2.2.2.2.2.2.2.2.2.2.2.2.2.2.1, s276.2.2.2.2.2.2.2.2.2.2.2.2.2.2.2.2.2.2.2.2.1, s276.2.2.2.2.2.2.2.2.2.2.2.2.2.2.2.2.2.2.2.2.2.1, s276.2.2.2.2.2.2.2.2.2.2.2.2.2.2.2.2.2.2.2.2.2.2.1, s276.2.2.2.2.2.2.2.2.2.2.2.2.2.2.2.2.2.2.2.2.2.2.2.1, s276.2.2.2.2.2.2.2.2.2.2.2.2.2.2.2.2.2.2.2.2.2.2.2.2.1, s276.2.2.2.2.2.2.2.2.2.2.2.2.2.2.2.2.2.2.2.2.2.2.2.2.2.1, s276.2.2.2.2.2.2.2.2.2.2.2.2.2.2.2.2.2.2.2.2.2.2.2.2.2.2.1, s276.2.2.2.2.2.2.2.2.2.2.2.2.2.2.2.2.2.2.2.2.2.2.2.2.2.2.2.1, s276.2.2.2.2.2.2.2.2.2.2.2.2.2.2.2.2.2.2.2.2.2.2.2.2.2.2.2.2.1, s276.2.2.2.2.2.2.2.2.2.2.2.2.2.2.2.2.2.2.2.2.2.2.2.2.2.2.2.2.2.1, s276.2.2.2.2.2.2.2.2.2.2.2.2.2.2.2.2.2.2.2.2.2.2.2.2.2.2.2.2.2.2.1, s276.2.2.2.2.2.2.2.2.2.2.2.2.2.2.2.2.2.2.2.2.2.2.2.2.2.2.2.2.2.2.2.1, s276.2.2.2.2.2.2.2.2.2.2.2.2.2.2.2.2.2.2.2.2.2.2.2.2.2.2.2.2.2.2.2.2.1, s276.2.2.2.2.2.2.2.2.2.2.2.2.2.2.2.2.2.2.2.2.2.2.2.2.2.2.2.2.2.2.2.2.2.1, false, s276.2.2.2.2.2.2.2.2.2.2.2.2.2.2.2.2.2.2.2.2.2.2.2.2.2.2.2.2.2.2.2.2.2.2.2.1, s276.2.2.2.2.2.2.2.2.2.2.2.2.2.2.2.2.2.2.2.2.2.2.2.2.2.2.2.2.2.2.2.2.2.2.2.2.1, s276.2.2.2.2.2.2.2.2.2.2.2.2.2.2.2.2.2.2.2.2.2.2.2.2.2.2.2.2.2.2.2.2.2.2.2.2.2.1, s276.2.2.2.2.2.2.2.2.2.2.2.2.2.2.2.2.2.2.2.2.2.2.2.2.2.2.2.2.2.2.2.2.2.2.2.2.2.2.1, s276.2.2.2.2.2.2.2.2.2.2.2.2.2.2.2.2.2.2.2.2.2.2.2.2.2.2.2.2.2.2.2.2.2.2.2.2.2.2.2.1, ()))))))
 (j274.1, y275.1, y275.2.1, y275.2.2.1, j274.2.2.2.1, j274.2.2.2.2.1, j274.2.2.2.2.2.1, j274.2.2.2.2.2.2.1, j274.2.2.2.2.2.2.2.1, j274.2.2.2.2.2.2.2.2.1, j274.2.2.2.2.2.2.2.2.2.1, j274.2.2.2.2.2.2.2.2.2.2.1, j274.2.2.2.2.2.2.2.2.2.2.2.1, j274.2.2.2.2.2.2.2.2.2.2.2.2.1, j274.2.2.2.2.2.2.2.2.2.2.2.2.2.1, j274.2.2.2.2.2.2.2.2.2.2.2.2.2.2.1, j274.2.2.2.2.2.2.2.2.2.2.2.2.2.2.2.1, j274.2.2.2.2.2.2.2.2.2.2.2.2.2.2.2.2.1, j274.2.2.2.2.2.2.2.2.2.2.2.2.2.2.2.2.2.1, j274.2.2.2.2.2.2.2.2.2.2.2.2.2.2.2.2.2.2.1, j274.2.2.2.2.2.2.2.2.2.2.2.2.2.2.2.2.2.2.2.1, j274.2.2.2.2.2.2.2.2.2.2.2.2.2.2.2.2.2.2.2.2.1, j274.2.2.2.2.2.2.2.2.2.2.2.2.2.2.2.2.2.2.2.2.2.1, j274.2.2.2.2.2.2.2.2.2.2.2.2.2.2.2.2.2.2.2.2.2.2.1, j274.2.2.2.2.2.2.2.2.2.2.2.2.2.2.2.2.2.2.2.2.2.2.2.1, j274.2.2.2.2.2.2.2.2.2.2.2.2.2.2.2.2.2.2.2.2.2.2.2.2.1, j274.2.2.2.2.2.2.2.2.2.2.2.2.2.2.2.2.2.2.2.2.2.2.2.2.2.1, j274.2.2.2.2.2.2.2.2.2.2.2.2.2.2.2.2.2.2.2.2.2.2.2.2.2.2.1, j274.2.2.2.2.2.2.2.2.2.2.2.2.2.2.2.2.2.2.2.2.2.2.2.2.2.2.2.1, j274.2.2.2.2.2.2.2.2.2.2.2.2.2.2.2.2.2.2.2.2.2.2.2.2.2.2.2.2.1, j274.2.2.2.2.2.2.2.2.2.2.2.2.2.2.2.2.2.2.2.2.2.2.2.2.2.2.2.2.2.1, j274.2.2.2.2.2.2.2.2.2.2.2.2.2.2.2.2.2.2.2.2.2.2.2.2.2.2.2.2.2.2.1, j274.2.2.2.2.2.2.2.2.2.2.2.2.2.2.2.2.2.2.2.2.2.2.2.2.2.2.2.2.2.2.2.1, j274.2.2.2.2.2.2.2.2.2.2.2.2.2.2.2.2.2.2.2.2.2.2.2.2.2.2.2.2.2.2.2.2.1, j274.2.2.2.2.2.2.2.2.2.2.2.2.2.2.2.2.2.2.2.2.2.2.2.2.2.2.2.2.2.2.2.2.2.1, j274.2.2.2.2.2.2.2.2.2.2.2.2.2.2.2.2.2.2.2.2.2.2.2.2.2.2.2.2.2.2.2.2.2.2.1, j274.2.2.2.2.2.2.2.2.2.2.2.2.2.2.2.2.2.2.2.2.2.2.2.2.2.2.2.2.2.2.2.2.2.2.2.1, j274.2.2.2.2.2.2.2.2.2.2.2.2.2.2.2.2.2.2.2.2.2.2.2.2.2.2.2.2.2.2.2.2.2.2.2.2.1, ([] : List Int), j274.2.2.2.2.2.2.2.2.2.2.2.2.2.2.2.2.2.2.2.2.2.2.2.2.2.2.2.2.2.2.2.2.2.2.2.2.2.1, ()))))
 (some (.inl (j268.1, j268.2.1, j268.2.2.1, j268.2.2.2.1, j268.2.2.2.2.1, j268.2.2.2.2.2.1, j268.2.2.2.2.2.2.1, j268.2.2.2.2.2.2.2.1, j268.2.2.2.2.2.2.2.2.1, j268.2.2.2.2.2.2.2.2.2.1, j268.2.2.2.2.2.2.2.2.2.2.1, j268.2.2.2.2.2.2.2.2.2.2.2.1, j268.2.2.2.2.2.2.2.2.2.2.2.2.1, j268.2.2.2.2.2.2.2.2.2.2.2.2.2.1, j268.2.2.2.2.2.2.2.2.2.2.2.2.2.2.1, j268.2.2.2.2.2.2.2.2.2.2.2.2.2.2.2.1, j268.2.2.2.2.2.2.2.2.2.2.2.2.2.2.2.2.1, j268.2.2.2.2.2.2.2.2.2.2.2.2.2.2.2.2.2.1, j268.2.2.2.2.2.2.2.2.2.2.2.2.2.2.2.2.2.2.1, j268.2.2.2.2.2.2.2.2.2.2.2.2.2.2.2.2.2.2.2.1, j268.2.2.2.2.2.2.2.2.2.2.2.2.2.2.2.2.2.2.2.2.1, j268.2.2.2.2.2.2.2.2.2.2.2.2.2.2.2.2.2.2.2.2.2.1, j268.2.2.2.2.2.2.2.2.2.2.2.2.2.2.2.2.2.2.2.2.2.2.1, j268.2.2.2.2.2.2.2.2.2.2.2.2.2.2.2.2.2.2.2.2.2.2.2.1, j268.2.2.2.2.2.2.2.2.2.2.2.2.2.2.2.2.2.2.2.2.2.2.2.2.1, j268.2.2.2.2.2.2.2.2.2.2.2.2.2.2.2.2.2.2.2.2.2.2.2.2.2.1, j268.2.2.2.2.2.2.2.2.2.2.2.2.2.2.2.2.2.2.2.2.2.2.2.2.2.2.1, j268.2.2.2.2.2.2.2.2.2.2.2.2.2.2.2.2.2.2.2.2.2.2.2.2.2.2.2.1, j268.2.2.2.2.2.2.2.2.2.2.2.2.2.2.2.2.2.2.2.2.2.2.2.2.2.2.2.2.1, j268.2.2.2.2.2.2.2.2.2.2.2.2.2.2.2.2.2.2.2.2.2.2.2.2.2.2.2.2.2.1, j268.2.2.2.2.2.2.2.2.2.2.2.2.2.2.2.2.2.2.2.2.2.2.2.2.2.2.2.2.2.2.1, j268.2.2.2.2.2.2.2.2.2.2.2.2.2.2.2.2.2.2.2.2.2.2.2.2.2.2.2.2.2.2.2.1, j268.2.2.2.2.2.2.2.2.2.2.2.2.2.2.2.2.2.2.2.2.2.2.2.2.2.2.2.2.2.2.2.2.1, j268.2.2.2.2.2.2.2.2.2.2.2.2.2.2.2.2.2.2.2.2.2.2.2.2.2.2.2.2.2.2.2.2.2.1, j268.2.2.2.2.2.2.2.2.2.2.2.2.2.2.2.2.2.2.2.2.2.2.2.2.2.2.2.2.2.2.2.2.2.2.1, j268.2.2.2.2.2.2.2.2.2.2.2.2.2.2.2.2.2.2.2.2.2.2.2.2.2.2.2.2.2.2.2.2.2.2.2.1, j268.2.2.2.2.2.2.2.2.2.2.2.2.2.2.2.2.2.2.2.2.2.2.2.2.2.2.2.2.2.2.2.2.2.2.2.2.1, ([] : List Int), j268.2.2.2.2.2.2.2.2.2.2.2.2.2.2.2.2.2.2.2.2.2.2.2.2.2.2.2.2.2.2.2.2.2.2.2.2.2.1, ()))))
 (fun j279 =>
 cond (iEq j279.1 4)
 ((m27 2 j279.2.1 j279.2.2.1).bind fun y280 =>
 cond (iEq y280.1 1)
 ((m54 1000 y280.2.1 y280.2.2.1).bind fun y281 =>
 cond (iEq j279.1 5)
 ((m57 1 30 y281.2.1 y281.2.2.1).bind fun y282 =>
 some (j279.2.2.2.2.2.2.2.2.2.2.2.2.2.2.2.2.2.2.2.1, j279.2.2.2.2.2.2.2.2.2.2.2.2.2.2.2.2.2.2.2.2.1, j279.2.2.2.2.2.2.2.2.2.2.2.2.2.2.2.2.2.2.2.2.2.1, j279.2.2.2.2.2.2.2.2.2.2.2.2.2.2.2.2.2.2.2.2.2.2.1, j279.2.2.2.2.2.2.2.2.2.2.2.2.2.2.2.2.2.2.2.2.2.2.2.1, j279.2.2.2.2.2.2.2.2.2.2.2.2.2.2.2.2.2.2.2.2.2.2.2.2.1, j279.2.2.2.2.2.2.2.2.2.2.2.2.2.2.2.2.2.2.2.2.2.2.2.2.2.1, j279.2.2.2.2.2.2.2.2.2.2.2.2.2.2.2.2.2.2.2.2.2.2.2.2.2.2.1, j279.2.2.2.2.2.2.2.2.2.2.2.2.2.2.2.2.2.2.2.2.2.2.2.2.2.2.2.1, j279.2.2.2.2.2.2.2.2.2.2.2.2.2.2.2.2.2.2.2.2.2.2.2.2.2.2.2.2.1, y282.1, j279.2.2.2.2.2.2.2.2.2.2.2.2.2.2.2.2.2.2.2.2.2.2.2.2.2.2.2.2.2.2.1, j279.2.2.2.2.2.2.2.2.2.2.2.2.2.2.2.2.2.2.2.2.2.2.2.2.2.2.2.2.2.2.2.1, j279.2.2.2.2.2.2.2.2.2.2.2.2.2.2.2.2.2.2.2.2.2.2.2.2.2.2.2.2.2.2.2.2.1, j279.2.2.2.2.2.2.2.2.2.2.2.2.2.2.2.2.2.2.2.2.2.2.2.2.2.2.2.2.2.2.2.2.2.1, iAdd .i64 1 y281.1, y282.2.1, y282.2.2.1, j279.2.2.2.2.2.2.2.2.2.2.2.2.2.2.2.2.2.2.2.2.2.2.2.2.2.2.2.2.2.2.2.2.2.2.2.1, j279.2.2.2.2.2.2.2.2.2.2.2.2.2.2.2.2.2.2.2.2.2.2.2.2.2.2.2.2.2.2.2.2.2.2.2.2.1, j279.2.2.2.2.2.2.2.2.2.2.2.2.2.2.2.2.2.2.2.2.2.2.2.2.2.2.2.2.2.2.2.2.2.2.2.2.2.1, j279.2.2.2.2.2.2.2.2.2.2.2.2.2.2.2.2.2.2.2.2.2.2.2.2.2.2.2.2.2.2.2.2.2.2.2.2.2.2.1, ()))
 (some (j279.2.2.2.2.2.2.2.2.2.2.2.2.2.2.2.2.2.2.2.1, j279.2.2.2.2.2.2.2.2.2.2.2.2.2.2.2.2.2.2.2.2.1, j279.2.2.2.2.2.2.2.2.2.2.2.2.2.2.2.2.2.2.2.2.2.1, j279.2.2.2.2.2.2.2.2.2.2.2.2.2.2.2.2.2.2.2.2.2.2.1, j279.2.2.2.2.2.2.2.2.2.2.2.2.2.2.2.2.2.2.2.2.2.2.2.1, j279.2.2.2.2.2.2.2.2.2.2.2.2.2.2.2.2.2.2.2.2.2.2.2.2.1, j279.2.2.2.2.2.2.2.2.2.2.2.2.2.2.2.2.2.2.2.2.2.2.2.2.2.1, j279.2.2.2.2.2.2.2.2.2.2.2.2.2.2.2.2.2.2.2.2.2.2.2.2.2.2.1, j279.2.2.2.2.2.2.2.2.2.2.2.2.2.2.2.2.2.2.2.2.2.2.2.2.2.2.2.1, j279.2.2.2.2.2.2.2.2.2.2.2.2.2.2.2.2.2.2.2.2.2.2.2.2.2.2.2.2.1, j279.2.2.2.2.2.2.2.2.2.2.2.2.2.2.2.2.2.2.2.2.2.2.2.2.2.2.2.2.2.1, j279.2.2.2.2.2.2.2.2.2.2.2.2.2.2.2.2.2.2.2.2.2.2.2.2.2.2.2.2.2.2.1, j279.2.2.2.2.2.2.2.2.2.2.2.2.2.2.2.2.2.2.2.2.2.2.2.2.2.2.2.2.2.2.2.1, j279.2.2.2.2.2.2.2.2.2.2.2.2.2.2.2.2.2.2.2.2.2.2.2.2.2.2.2.2.2.2.2.2.1, j279.2.2.2.2.2.2.2.2.2.2.2.2.2.2.2.2.2.2.2.2.2.2.2.2.2.2.2.2.2.2.2.2.2.1, iAdd .i64 1 y281.1, y281.2.1, y281.2.2.1, j279.2.2.2.2.2.2.2.2.2.2.2.2.2.2.2.2.2.2.2.2.2.2.2.2.2.2.2.2.2.2.2.2.2.2.2.1, j279.2.2.2.2.2.2.2.2.2.2.2.2.2.2.2.2.2.2.2.2.2.2.2.2.2.2.2.2.2.2.2.2.2.2.2.2.1, j279.2.2.2.2.2.2.2.2.2.2.2.2.2.2.2.2.2.2.2.2.2.2.2.2.2.2.2.2.2.2.2.2.2.2.2.2.2.1, j279.2.2.2.2.2.2.2.2.2.2.2.2.2.2.2.2.2.2.2.2.2.2.2.2.2.2.2.2.2.2.2.2.2.2.2.2.2.2.1, ())))
 (cond (iEq j279.1 5)
 ((m57 1 30 y280.2.1 y280.2.2.1).bind fun y283 =>
 some (j279.2.2.2.2.2.2.2.2.2.2.2.2.2.2.2.2.2.2.2.1, j279.2.2.2.2.2.2.2.2.2.2.2.2.2.2.2.2.2.2.2.2.1, j279.2.2.2.2.2.2.2.2.2.2.2.2.2.2.2.2.2.2.2.2.2.1, j279.2.2.2.2.2.2.2.2.2.2.2.2.2.2.2.2.2.2.2.2.2.2.1, j279.2.2.2.2.2.2.2.2.2.2.2.2.2.2.2.2.2.2.2.2.2.2.2.1, j279.2.2.2.2.2.2.2.2.2.2.2.2.2.2.2.2.2.2.2.2.2.2.2.2.1, j279.2.2.2.2.2.2.2.2.2.2.2.2.2.2.2.2.2.2.2.2.2.2.2.2.2.1, j279.2.2.2.2.2.2.2.2.2.2.2.2.2.2.2.2.2.2.2.2.2.2.2.2.2.2.1, j279.2.2.2.2.2.2.2.2.2.2.2.2.2.2.2.2.2.2.2.2.2.2.2.2.2.2.2.1, j279.2.2.2.2.2.2.2.2.2.2.2.2.2.2.2.2.2.2.2.2.2.2.2.2.2.2.2.2.1, y283.1, j279.2.2.2.2.2.2.2.2.2.2.2.2.2.2.2.2.2.2.2.2.2.2.2.2.2.2.2.2.2.2.1, j279.2.2.2.2.2.2.2.2.2.2.2.2.2.2.2.2.2.2.2.2.2.2.2.2.2.2.2.2.2.2.2.1, j279.2.2.2.2.2.2.2.2.2.2.2.2.2.2.2.2.2.2.2.2.2.2.2.2.2.2.2.2.2.2.2.2.1, j279.2.2.2.2.2.2.2.2.2.2.2.2.2.2.2.2.2.2.2.2.2.2.2.2.2.2.2.2.2.2.2.2.2.1, j279.2.2.2.2.2.2.2.2.2.2.2.2.2.2.2.2.2.2.2.2.2.2.2.2.2.2.2.2.2.2.2.2.2.2.1, y283.2.1, y283.2.2.1, j279.2.2.2.2.2.2.2.2.2.2.2.2.2.2.2.2.2.2.2.2.2.2.2.2.2.2.2.2.2.2.2.2.2.2.2.1, j279.2.2.2.2.2.2.2.2.2.2.2.2.2.2.2.2.2.2.2.2.2.2.2.2.2.2.2.2.2.2.2.2.2.2.2.2.1, j279.2.2.2.2.2.2.2.2.2.2.2.2.2.2.2.2.2.2.2.2.2.2.2.2.2.2.2.2.2.2.2.2.2.2.2.2.2.1, j279.2.2.2.2.2.2.2.2.2.2.2.2.2.2.2.2.2.2.2.2.2.2.2.2.2.2.2.2.2.2.2.2.2.2.2.2.2.2.1, ()))
 (some (j279.2.2.2.2.2.2.2.2.2.2.2.2.2.2.2.2.2.2.2.1, j279.2.2.2.2.2.2.2.2.2.2.2.2.2.2.2.2.2.2.2.2.1, j279.2.2.2.2.2.2.2.2.2.2.2.2.2.2.2.2.2.2.2.2.2.1, j279.2.2.2.2.2.2.2.2.2.2.2.2.2.2.2.2.2.2.2.2.2.2.1, j279.2.2.2.2.2.2.2.2.2.2.2.2.2.2.2.2.2.2.2.2.2.2.2.1, j279.2.2.2.2.2.2.2.2.2.2.2.2.2.2.2.2.2.2.2.2.2.2.2.2.1, j279.2.2.2.2.2.2.2.2.2.2.2.2.2.2.2.2.2.2.2.2.2.2.2.2.2.1, j279.2.2.2.2.2.2.2.2.2.2.2.2.2.2.2.2.2.2.2.2.2.2.2.2.2.2.1, j279.2.2.2.2.2.2.2.2.2.2.2.2.2.2.2.2.2.2.2.2.2.2.2.2.2.2.2.1, j279.2.2.2.2.2.2.2.2.2.2.2.2.2.2.2.2.2.2.2.2.2.2.2.2.2.2.2.2.1, j279.2.2.2.2.2.2.2.2.2.2.2.2.2.2.2.2.2.2.2.2.2.2.2.2.2.2.2.2.2.1, j279.2.2.2.2.2.2.2.2.2.2.2.2.2.2.2.2.2.2.2.2.2.2.2.2.2.2.2.2.2.2.1, j279.2.2.2.2.2.2.2.2.2.2.2.2.2.2.2.2.2.2.2.2.2.2.2.2.2.2.2.2.2.2.2.1, j279.2.2.2.2.2.2.2.2.2.2.2.2.2.2.2.2.2.2.2.2.2.2.2.2.2.2.2.2.2.2.2.2.1, j279.2.2.2.2.2.2.2.2.2.2.2.2.2.2.2.2.2.2.2.2.2.2.2.2.2.2.2.2.2.2.2.2.2.1, j279.2.2.2.2.2.2.2.2.2.2.2.2.2.2.2.2.2.2.2.2.2.2.2.2.2.2.2.2.2.2.2.2.2.2.1, y280.2.1, y280.2.2.1, j279.2.2.2.2.2.2.2.2.2.2.2.2.2.2.2.2.2.2.2.2.2.2.2.2.2.2.2.2.2.2.2.2.2.2.2.1, j279.2.2.2.2.2.2.2.2.2.2.2.2.2.2.2.2.2.2.2.2.2.2.2.2.2.2.2.2.2.2.2.2.2.2.2.2.1, j279.2.2.2.2.2.2.2.2.2.2.2.2.2.2.2.2.2.2.2.2.2.2.2.2.2.2.2.2.2.2.2.2.2.2.2.2.2.1, j279.2.2.2.2.2.2.2.2.2.2.2.2.2.2.2.2.2.2.2.2.2.2.2.2.2.2.2.2.2.2.2.2.2.2.2.2.2.2.1, ()))))
 (cond (iEq j279.1 5)
 ((m57 1 30 j279.2.1 j279.2.2.1).bind fun y284 =>
 some (j279.2.2.2.2.2.2.2.2.2.2.2.2.2.2.2.2.2.2.2.1, j279.2.2.2.2.2.2.2.2.2.2.2.2.2.2.2.2.2.2.2.2.1, j279.2.2.2.2.2.2.2.2.2.2.2.2.2.2.2.2.2.2.2.2.2.1, j279.2.2.2.2.2.2.2.2.2.2.2.2.2.2.2.2.2.2.2.2.2.2.1, j279.2.2.2.2.2.2.2.2.2.2.2.2.2.2.2.2.2.2.2.2.2.2.2.1, j279.2.2.2.2.2.2.2.2.2.2.2.2.2.2.2.2.2.2.2.2.2.2.2.2.1, j279.2.2.2.2.2.2.2.2.2.2.2.2.2.2.2.2.2.2.2.2.2.2.2.2.2.1, j279.2.2.2.2.2.2.2.2.2.2.2.2.2.2.2.2.2.2.2.2.2.2.2.2.2.2.1, j279.2.2.2.2.2.2.2.2.2.2.2.2.2.2.2.2.2.2.2.2.2.2.2.2.2.2.2.1, j279.2.2.2.2.2.2.2.2.2.2.2.2.2.2.2.2.2.2.2.2.2.2.2.2.2.2.2.2.1, y284.1, j279.2.2.2.2.2.2.2.2.2.2.2.2.2.2.2.2.2.2.2.2.2.2.2.2.2.2.2.2.2.2.1, j279.2.2.2.2.2.2.2.2.2.2.2.2.2.2.2.2.2.2.2.2.2.2.2.2.2.2.2.2.2.2.2.1, j279.2.2.2.2.2.2.2.2.2.2.2.2.2.2.2.2.2.2.2.2.2.2.2.2.2.2.2.2.2.2.2.2.1, j279.2.2.2.2.2.2.2.2.2.2.2.2.2.2.2.2.2.2.2.2.2.2.2.2.2.2.2.2.2.2.2.2.2.1, j279.2.2.2.2.2.2.2.2.2.2.2.2.2.2.2.2.2.2.2.2.2.2.2.2.2.2.2.2.2.2.2.2.2.2.1, y284.2.1, y284.2.2.1, j279.2.2.2.2.2.2.2.2.2.2.2.2.2.2.2.2.2.2.2.2.2.2.2.2.2.2.2.2.2.2.2.2.2.2.2.1, j279.2.2.2.2.2.2.2.2.2.2.2.2.2.2.2.2.2.2.2.2.2.2.2.2.2.2.2.2.2.2.2.2.2.2.2.2.1, j279.2.2.2.2.2.2.2.2.2.2.2.2.2.2.2.2.2.2.2.2.2.2.2.2.2.2.2.2.2.2.2.2.2.2.2.2.2.1, j279.2.2.2.2.2.2.2.2.2.2.2.2.2.2.2.2.2.2.2.2.2.2.2.2.2.2.2.2.2.2.2.2.2.2.2.2.2.2.1, ()))
 (some (j279.2.2.2.2.2.2.2.2.2.2.2.2.2.2.2.2.2.2.2.1, j279.2.2.2.2.2.2.2.2.2.2.2.2.2.2.2.2.2.2.2.2.1, j279.2.2.2.2.2.2.2.2.2.2.2.2.2.2.2.2.2.2.2.2.2.1, j279.2.2.2.2.2.2.2.2.2.2.2.2.2.2.2.2.2.2.2.2.2.2.1, j279.2.2.2.2.2.2.2.2.2.2.2.2.2.2.2.2.2.2.2.2.2.2.2.1, j279.2.2.2.2.2.2.2.2.2.2.2.2.2.2.2.2.2.2.2.2.2.2.2.2.1, j279.2.2.2.2.2.2.2.2.2.2.2.2.2.2.2.2.2.2.2.2.2.2.2.2.2.1, j279.2.2.2.2.2.2.2.2.2.2.2.2.2.2.2.2.2.2.2.2.2.2.2.2.2.2.1, j279.2.2.2.2.2.2.2.2.2.2.2.2.2.2.2.2.2.2.2.2.2.2.2.2.2.2.2.1, j279.2.2.2.2.2.2.2.2.2.2.2.2.2.2.2.2.2.2.2.2.2.2.2.2.2.2.2.2.1, j279.2.2.2.2.2.2.2.2.2.2.2.2.2.2.2.2.2.2.2.2.2.2.2.2.2.2.2.2.2.1, j279.2.2.2.2.2.2.2.2.2.2.2.2.2.2.2.2.2.2.2.2.2.2.2.2.2.2.2.2.2.2.1, j279.2.2.2.2.2.2.2.2.2.2.2.2.2.2.2.2.2.2.2.2.2.2.2.2.2.2.2.2.2.2.2.1, j279.2.2.2.2.2.2.2.2.2.2.2.2.2.2.2.2.2.2.2.2.2.2.2.2.2.2.2.2.2.2.2.2.1, j279.2.2.2.2.2.2.2.2.2.2.2.2.2.2.2.2.2.2.2.2.2.2.2.2.2.2.2.2.2.2.2.2.2.1, j279.2.2.2.2.2.2.2.2.2.2.2.2.2.2.2.2.2.2.2.2.2.2.2.2.2.2.2.2.2.2.2.2.2.2.1, j279.2.1, j279.2.2.1, j279.2.2.2.2.2.2.2.2.2.2.2.2.2.2.2.2.2.2.2.2.2.2.2.2.2.2.2.2.2.2.2.2.2.2.2.1, j279.2.2.2.2.2.2.2.2.2.2.2.2.2.2.2.2.2.2.2.2.2.2.2.2.2.2.2.2.2.2.2.2.2.2.2.2.1, j279.2.2.2.2.2.2.2.2.2.2.2.2.2.2.2.2.2.2.2.2.2.2.2.2.2.2.2.2.2.2.2.2.2.2.2.2.2.1, j279.2.2.2.2.2.2.2.2.2.2.2.2.2.2.2.2.2.2.2.2.2.2.2.2.2.2.2.2.2.2.2.2.2.2.2.2.2.2.1, ())))))
noncomputable def cfg31 (G : GP) : Cfg := ⟨ttab, (gtab G), [], [h27, h30, h54, h55, h56, h57]⟩
def ish31 : Sh := ⟨3, [(1, (.int .i64)), (2, (.int .i64))], [(0, .ptr 0 0 0)], [.box 113 [.d (.list (.int .i64)), .d (.int .i64)]]⟩
def osh31 : Sh := ⟨1, [], [(0, .agg [.d (.int .i64), .d (.int .i64), .d (.int .i64), .d (.int .i64), .row 1, .row 2, .d (.int .i64), .d (.int .i64), .d (.int .i64), .d (.int .i64), .d (.int .i64), .d (.int .i64), .d (.int .i64), .d (.int .i64), .d (.int .i64), .d (.int .i64), .row 3, .d .bool, .d (.int .i64), .nil, .row 4])], [.box 113 [.d (.list (.int .i64)), .d (.int .i64)], .row 3 (.int .i64) false, .row 3 (.int .i64) false, .row 3 (.int .i64) false, .row 118 tS6 false]⟩
theorem eqn31 (G : GP) (x : Int × Int × (List Int) × Int × Unit) : xfunH (cfg31 G) x31 122 [.c 6 21 true] [.ghc 6 16 3 (.int .i64)] ish31 osh31 x = m31 x.1 x.2.1 x.2.2.1 x.2.2.2.1 := by kernel_rfl
noncomputable def h31 : HI := ⟨31, ish31, osh31, fun (x : Int × Int × (List Int) × Int × Unit) => m31 x.1 x.2.1 x.2.2.1 x.2.2.2.1⟩
theorem okh31 {G : GP} : HOk Tryd.prog (gx (gtab G)) h31 := hok mixed (cfg_h okh27 (cfg_h okh30 (cfg_h okh54 (cfg_h okh55 (cfg_h okh56 (cfg_h okh57 (cfg_nil _ _)))))) : CfgOk _ (cfg31 G)) F31 (eqn31 G)
def r29_0 : List Ins := [qI 2 (.mov (kI 0))]
def r29_1 : List Ins := [qI 3 (.mov 0), qI 4 (.call (.fn 27) [3, (kI 4)])]
def r29_2 : List Ins := [qI 6 (.bin .eql 4 (kI 0)), qI 5 (.mov 6)]
def r29_3 : List Ins := [qI 7 (.mov 0), qI 8 (.call (.fn 27) [7, (kI 4)]), qI 2 (.mov 8)]
def r29_4 : List Ins := [qI 10 (.bin .eql 4 (kI 1)), qI 9 (.mov 10)]
def r29_5 : List Ins := [qI 11 (.bin .eql 4 (kI 2)), qI 9 (.mov 11)]
def r29_6 : List Ins := [qI 12 (.mov 0), qI 13 (.call (.fn 27) [12, (kI 1000)]), qI 2 (.mov 13)]
def r29_7 : List Ins := [qI 14 (.mov 0), qI 15 (.call (.fn 27) [14, (kI 268435456)]), qI 2 (.mov 15)]
def x29 : XC := (.seq (.ops false r29_0) (.seq (.seq (.ops false r29_1) (.block 0 (.seq (.ops false r29_2) (.cond (.t 5) (.seq (.ops false r29_3) .ret) (.seq (.seq (.ops false r29_4) (.cond (.t 9) .skip (.ops false r29_5))) (.cond (.t 9) (.seq (.ops false r29_6) .ret) .skip)))))) (.seq (.ops false r29_7) .ret)))
theorem F29 : Fn Tryd.prog 29 16 x29.er [.t 2] := ⟨Tryd.f29, hcl, Tryd.func29, by kernel_rfl, by kernel_rfl, by kernel_rfl, by kernel_rfl⟩
noncomputable def m29 (a0 : List Int) (a1 : Int) : Option (Int × (List Int) × Int × Unit) :=
 (m27 4 a0 a1).bind fun y291 =>
 cond (iEq y291.1 0)
 ((m27 4 y291.2.1 y291.2.2.1).bind fun y292 =>
 some (y292.1, y292.2.1, y292.2.2.1, ()))
 (cond (iEq y291.1 1)
 ((m27 1000 y291.2.1 y291.2.2.1).bind fun y293 =>
 some (y293.1, y293.2.1, y293.2.2.1, ()))
 (cond (iEq y291.1 2)
 ((m27 1000 y291.2.1 y291.2.2.1).bind fun y294 =>
 some (y294.1, y294.2.1, y294.2.2.1, ()))
 ((m27 268435456 y291.2.1 y291.2.2.1).bind fun y295 =>
 some (y295.1, y295.2.1, y295.2.2.1, ()))))
noncomputable def cfg29 (G : GP) : Cfg := ⟨ttab, (gtab G), [], [h27]⟩
def ish29 : Sh := ⟨1, [], [(0, .ptr 0 0 0)], [.box 113 [.d (.list (.int .i64)), .d (.int .i64)]]⟩
def osh29 : Sh := ⟨1, [(0, (.int .i64))], [], [.box 113 [.d (.list (.int .i64)), .d (.int .i64)]]⟩
theorem eqn29 (G : GP) (x : (List Int) × Int × Unit) : xfunH (cfg29 G) x29 16 [.t 2] [] ish29 osh29 x = m29 x.1 x.2.1 := by kernel_rfl
noncomputable def h29 : HI := ⟨29, ish29, osh29, fun (x : (List Int) × Int × Unit) => m29 x.1 x.2.1⟩
theorem okh29 {G : GP} : HOk Tryd.prog (gx (gtab G)) h29 := hok mixed (cfg_h okh27 (cfg_nil _ _) : CfgOk _ (cfg29 G)) F29 (eqn29 G)
def r70_0 : List Ins := [qI 1 (.box 73 2 0), qI 2 (.mov (.k (.bool false)))]
def r70_1 : List Ins := [qI 3 (.faddr 0 1), qI 4 (.load 1 false 3), qI 5 (.bin .geq 4 (kI 0)), qI 6 (.mov 5), qT 7 6 (.faddr 0 1), qT 8 6 (.load 1 false 7), qT 9 6 (.faddr 1 1), qT 10 6 (.load 1 false 9), qT 11 6 (.bin .lss 8 10), qI 12 (.pick 6 11 (.k (.bool false))), qI 13 (.mov 12), qT 14 13 (.faddr 1 1), qT 15 13 (.load 1 false 14), qT 16 13 (.bin .leq 15 (kI 876600)), qI 17 (.pick 13 16 (.k (.bool false))), qI 2 (.mov 17)]
def x70 : XC := (.seq (.ops false r70_0) (.seq (.ops false r70_1) .ret))
theorem F70 : Fn Tryd.prog 70 18 x70.er [.t 2] := ⟨Tryd.f70, hcl, Tryd.func70, by kernel_rfl, by kernel_rfl, by kernel_rfl, by kernel_rfl⟩
noncomputable def m70 (a0 : DS6) : Option (Bool × Unit) :=
 some (cond (cond (iLe 0 a0.1) (iLt a0.1 a0.2.1) false) (iLe a0.2.1 876600) false, ())
noncomputable def cfg70 (G : GP) : Cfg := ⟨ttab, (gtab G), [], []⟩
theorem eqn70 (G : GP) (x : DS6 × Unit) : xfun (cfg70 G) x70 18 [.t 2] [tS6] [.bool] x = m70 x.1 := by kernel_rfl
noncomputable def i70 : PI := ⟨70, [tS6], [.bool], fun (x : DS6 × Unit) => m70 x.1⟩
theorem oki70 {G : GP} : POk Tryd.prog (gx (gtab G)) i70 := pok mixed (cfg_nil _ _ : CfgOk _ (cfg70 G)) F70 (eqn70 G)
def r58_0 : List Ins := [qI 2 (.box 73 2 0), qI 3 (.box 73 2 1), qI 4 (.alloc 73 (.agg #[.int .i64 0, .int .i64 0])), qI 5 (.mov (.k (.bool false)))]
def r58_1 : List Ins := [qI 7 (.faddr 0 2), qI 8 (.load 1 false 7), qI 9 (.faddr 0 3), qI 10 (.load 1 false 9), qI 11 (.max2 8 10), qI 12 (.faddr 1 2), qI 13 (.load 1 false 12), qI 14 (.faddr 1 3), qI 15 (.load 1 false 14), qI 16 (.min2 13 15), qI 17 (.build [.int .i64 0, .int .i64 0] [(0, 1, 11), (1, 1, 16)]), qI 6 (.alloc 73 (.agg #[.int .i64 0, .int .i64 0])), qN (.store 2 6 17)]
def r58_2 : List Ins := [qI 18 (.load 2 true 2), qI 19 (.call (.fn 70) [18]), qI 20 (.un .not 19), qI 21 (.mov 20), qF 22 21 (.load 2 true 3), qF 23 21 (.call (.fn 70) [22]), qF 24 21 (.un .not 23), qI 25 (.pick 21 (.k (.bool true)) 24), qI 26 (.mov 25), qF 27 26 (.faddr 0 6), qF 28 26 (.load 1 false 27), qF 29 26 (.faddr 1 6), qF 30 26 (.load 1 false 29), qF 31 26 (.bin .geq 28 30), qI 32 (.pick 26 (.k (.bool true)) 31)]
def r58_3 : List Ins := [qI 33 (.build [.int .i64 0, .int .i64 0] []), qN (.store 2 4 33), qI 5 (.mov (.k (.bool false)))]
def r58_4 : List Ins := [qI 34 (.load 2 true 6), qN (.store 2 4 34), qI 5 (.mov (.k (.bool true)))]
def x58 : XC := (.seq (.ops false r58_0) (.seq (.ops false r58_1) (.seq (.seq (.ops false r58_2) (.cond (.t 32) (.seq (.ops false r58_3) .ret) .skip)) (.seq (.ops false r58_4) .ret))))
theorem F58 : Fn Tryd.prog 58 35 x58.er [.c 4 2 true, .t 5] := ⟨Tryd.f58, hcl, Tryd.func58, by kernel_rfl, by kernel_rfl, by kernel_rfl, by kernel_rfl⟩
noncomputable def m58 (a0 : DS6) (a1 : DS6) : Option (DS6 × Bool × Unit) :=
 (m70 (a0.1, a0.2.1, ())).bind fun y322 =>
 cond (not y322.1)
 (some ((0, 0, ()), false, ()))
 ((m70 (a1.1, a1.2.1, ())).bind fun y323 =>
 cond (cond (not y323.1) true (iLe (iMin a0.2.1 a1.2.1) (iMax a0.1 a1.1)))
 (some ((0, 0, ()), false, ()))
 (some ((iMax a0.1 a1.1, iMin a0.2.1 a1.2.1, ()), true, ())))
noncomputable def cfg58 (G : GP) : Cfg := ⟨ttab, (gtab G), [i70], []⟩
theorem eqn58 (G : GP) (x : DS6 × DS6 × Unit) : xfun (cfg58 G) x58 35 [.c 4 2 true, .t 5] [tS6, tS6] [tS6, .bool] x = m58 x.1 x.2.1 := by kernel_rfl
noncomputable def i58 : PI := ⟨58, [tS6, tS6], [tS6, .bool], fun (x : DS6 × DS6 × Unit) => m58 x.1 x.2.1⟩
theorem oki58 {G : GP} : POk Tryd.prog (gx (gtab G)) i58 := pok mixed (cfg_p oki70 (cfg_nil _ _) : CfgOk _ (cfg58 G)) F58 (eqn58 G)
def r71_0 : List Ins := [qI 4 (.mov (.k (.bool false)))]
def r71_1 : List Ins := [qI 7 (.mov 0), qI 8 (.len 7), qI 9 (.mov (kI 0))]
def r71_2 : List Ins := [qI 10 (.bin .lss 9 8)]
def r71_3 : List Ins := [qI 11 (.iaddr 1 7 9), qI 12 (.load 1 false 11), qI 6 (.mov 12)]
def r71_4 : List Ins := [qI 13 (.mov 6), qI 14 (.mov 1), qI 15 (.bin .eql 13 14)]
def r71_5 : List Ins := [qI 4 (.mov (.k (.bool true)))]
def r71_6 : List Ins := [qI 16 (.bin .add 9 (kI 1)), qI 9 (.mov 16)]
def r71_7 : List Ins := [qI 4 (.mov (.k (.bool false)))]
def x71 : XC := (.seq (.ops false r71_0) (.seq (.seq (.ops false r71_1) (.block 0 (.loop [] ⟨17, [(1, (.int .i64)), (7, (.list (.int .i64))), (8, (.int .i64)), (9, (.int .i64))], [], []⟩ (.seq (.ops false r71_2) (.seq (.cond (.t 10) .skip (.exit 0)) (.seq (.block 1 (.seq (.ops false r71_3) (.seq (.ops false r71_4) (.cond (.t 15) (.seq (.ops false r71_5) .ret) .skip)))) (.ops false r71_6))))))) (.seq (.ops false r71_7) .ret)))
theorem F71 : Fn Tryd.prog 71 17 x71.er [.t 4] := ⟨Tryd.f71, hcl, Tryd.func71, by kernel_rfl, by kernel_rfl, by kernel_rfl, by kernel_rfl⟩
noncomputable def m71 (a0 : List Int) (a1 : Int) : Option (Bool × Unit) :=
 loopO (S := Int × (List Int) × Int × Int × Unit) (R := Bool × Unit) (fun s327 =>
 cond (iLt s327.2.2.2.1 s327.2.2.1)
 (cond (bnd s327.2.2.2.1 (lenI s327.2.1))
 (cond (iEq (atI s327.2.1 s327.2.2.2.1 0) s327.1)
 (some (.inr (true, ())))
 (some (.inl (s327.1, s327.2.1, s327.2.2.1, iAdd .i64 s327.2.2.2.1 1, ())))) none)
 (some (.inr (false, ()))))
 (a1, a0, lenI a0, 0, ())
noncomputable def cfg71 (G : GP) : Cfg := ⟨ttab, (gtab G), [], []⟩
theorem eqn71 (G : GP) (x : (List Int) × Int × Unit) : xfun (cfg71 G) x71 17 [.t 4] [(.list (.int .i64)), (.int .i64)] [.bool] x = m71 x.1 x.2.1 := by kernel_rfl
noncomputable def i71 : PI := ⟨71, [(.list (.int .i64)), (.int .i64)], [.bool], fun (x : (List Int) × Int × Unit) => m71 x.1 x.2.1⟩
theorem oki71 {G : GP} : POk Tryd.prog (gx (gtab G)) i71 := pok mixed (cfg_nil _ _ : CfgOk _ (cfg71 G)) F71 (eqn71 G)
def r59_0 : List Ins := [qI 4 (.mov (.k (.bool false)))]
def r59_1 : List Ins := [qI 7 (.mov 0), qI 8 (.len 7), qI 9 (.mov (kI 0))]
def r59_2 : List Ins := [qI 10 (.bin .lss 9 8)]
def r59_3 : List Ins := [qI 11 (.iaddr 1 7 9), qI 12 (.load 1 false 11), qI 6 (.mov 12)]
def r59_4 : List Ins := [qI 13 (.mov 1), qI 14 (.mov 6), qI 15 (.call (.fn 71) [13, 14])]
def r59_5 : List Ins := [qI 4 (.mov (.k (.bool true)))]
def r59_6 : List Ins := [qI 16 (.bin .add 9 (kI 1)), qI 9 (.mov 16)]
def r59_7 : List Ins := [qI 17 (.mov 0), qI 18 (.len 17), qI 19 (.bin .eql 18 (kI 0)), qI 20 (.mov 19), qF 21 20 (.mov 1), qF 22 20 (.len 21), qF 23 20 (.bin .eql 22 (kI 0)), qI 24 (.pick 20 (.k (.bool true)) 23), qI 4 (.mov 24)]
def x59 : XC := (.seq (.ops false r59_0) (.seq (.seq (.ops false r59_1) (.block 0 (.loop [] ⟨25, [(0, (.list (.int .i64))), (1, (.list (.int .i64))), (7, (.list (.int .i64))), (8, (.int .i64)), (9, (.int .i64))], [], []⟩ (.seq (.ops false r59_2) (.seq (.cond (.t 10) .skip (.exit 0)) (.seq (.block 1 (.seq (.ops false r59_3) (.seq (.ops false r59_4) (.cond (.t 15) (.seq (.ops false r59_5) .ret) .skip)))) (.ops false r59_6))))))) (.seq (.ops false r59_7) .ret)))
theorem F59 : Fn Tryd.prog 59 25 x59.er [.t 4] := ⟨Tryd.f59, hcl, Tryd.func59, by kernel_rfl, by kernel_rfl, by kernel_rfl, by kernel_rfl⟩
noncomputable def m59 (a0 : List Int) (a1 : List Int) : Option (Bool × Unit) :=
 loopO (S := (List Int) × (List Int) × (List Int) × Int × Int × Unit) (R := Bool × Unit) (fun s329 =>
 cond (iLt s329.2.2.2.2.1 s329.2.2.2.1)
 (cond (bnd s329.2.2.2.2.1 (lenI s329.2.2.1))
 ((m71 s329.2.1 (atI s329.2.2.1 s329.2.2.2.2.1 0)).bind fun y330 =>
 cond y330.1
 (some (.inr (true, ())))
 (some (.inl (s329.1, s329.2.1, s329.2.2.1, s329.2.2.2.1, iAdd .i64 s329.2.2.2.2.1 1, ())))) none)
 (some (.inr (cond (iEq (lenI s329.1) 0) true (iEq (lenI s329.2.1) 0), ()))))
 (a0, a1, a0, lenI a0, 0, ())
noncomputable def cfg59 (G : GP) : Cfg := ⟨ttab, (gtab G), [i71], []⟩
theorem eqn59 (G : GP) (x : (List Int) × (List Int) × Unit) : xfun (cfg59 G) x59 25 [.t 4] [(.list (.int .i64)), (.list (.int .i64))] [.bool] x = m59 x.1 x.2.1 := by kernel_rfl
noncomputable def i59 : PI := ⟨59, [(.list (.int .i64)), (.list (.int .i64))], [.bool], fun (x : (List Int) × (List Int) × Unit) => m59 x.1 x.2.1⟩
theorem oki59 {G : GP} : POk Tryd.prog (gx (gtab G)) i59 := pok mixed (cfg_p oki71 (cfg_nil _ _) : CfgOk _ (cfg59 G)) F59 (eqn59 G)
def r32_0 : List Ins := [qI 2 (.box 76 21 0), qI 3 (.box 76 21 1), qI 4 (.mov (.k (.bool false)))]
def r32_1 : List Ins := [qI 8 (.faddr 2 2), qI 9 (.load 2 true 8), qI 10 (.faddr 2 3), qI 11 (.load 2 true 10), qI 12 (.call (.fn 58) [9, 11]), qI 7 (.mov 12), qI 13 (.ext 0 7), qI 14 (.ext 1 7), qI 5 (.alloc 73 (.agg #[.int .i64 0, .int .i64 0])), qN (.store 2 5 13), qI 6 (.mov 14)]
def r32_2 : List Ins := [qI 15 (.mov 6), qI 16 (.mov 15), qT 17 16 (.faddr 4 2), qT 18 16 (.load 1 false 17), qT 19 16 (.faddr 4 3), qT 20 16 (.load 1 false 19), qT 21 16 (.call (.fn 59) [18, 20]), qI 22 (.pick 16 21 (.k (.bool false))), qI 23 (.mov 22), qT 24 23 (.faddr 5 2), qT 25 23 (.load 1 false 24), qT 26 23 (.faddr 5 3), qT 27 23 (.load 1 false 26), qT 28 23 (.call (.fn 59) [25, 27]), qI 29 (.pick 23 28 (.k (.bool false))), qI 30 (.mov 29), qT 31 30 (.faddr 1 2), qT 32 30 (.load 1 false 31), qT 33 30 (.bin .eql 32 (kI 3)), qT 34 30 (.mov 33), qT 35 34 (.faddr 1 3), qT 36 34 (.load 1 false 35), qT 37 34 (.bin .eql 36 (kI 3)), qT 38 30 (.pick 34 37 (.k (.bool false))), qT 39 30 (.mov 38), qT 40 39 (.faddr 6 2), qT 41 39 (.load 1 false 40), qT 42 39 (.faddr 6 3), qT 43 39 (.load 1 false 42), qT 44 39 (.bin .neq 41 43), qT 45 30 (.pick 39 44 (.k (.bool false))), qT 46 30 (.un .not 45), qI 47 (.pick 30 46 (.k (.bool false))), qI 4 (.mov 47)]
def x32 : XC := (.seq (.ops false r32_0) (.seq (.ops false r32_1) (.seq (.ops false r32_2) .ret)))
theorem F32 : Fn Tryd.prog 32 48 x32.er [.t 4] := ⟨Tryd.f32, hcl, Tryd.func32, by kernel_rfl, by kernel_rfl, by kernel_rfl, by kernel_rfl⟩
noncomputable def m32 (a0 : DS7) (a1 : DS7) : Option (Bool × Unit) :=
 (m58 (a0.2.2.1.1, a0.2.2.1.2.1, ()) (a1.2.2.1.1, a1.2.2.1.2.1, ())).bind fun y324 =>
 cond y324.2.1
 ((m59 a0.2.2.2.1 a1.2.2.2.1).bind fun y331 =>
 cond y331.1
 ((m59 a0.2.2.2.2.1 a1.2.2.2.2.1).bind fun y332 =>
 cond y332.1
 (some (not (cond (cond (iEq a0.2.1 3) (iEq a1.2.1 3) false) (iNe a0.2.2.2.2.2.1 a1.2.2.2.2.2.1) false), ()))
 (some (false, ())))
 (some (false, ())))
 (some (false, ()))
noncomputable def cfg32 (G : GP) : Cfg := ⟨ttab, (gtab G), [i58, i59], []⟩
theorem eqn32 (G : GP) (x : DS7 × DS7 × Unit) : xfun (cfg32 G) x32 48 [.t 4] [tS7, tS7] [.bool] x = m32 x.1 x.2.1 := by kernel_rfl
noncomputable def i32 : PI := ⟨32, [tS7, tS7], [.bool], fun (x : DS7 × DS7 × Unit) => m32 x.1 x.2.1⟩
theorem oki32 {G : GP} : POk Tryd.prog (gx (gtab G)) i32 := pok mixed (cfg_p oki58 (cfg_p oki59 (cfg_nil _ _)) : CfgOk _ (cfg32 G)) F32 (eqn32 G)
end Abs
end Go.Proofs.YtfjhljjginlobaaDoor
