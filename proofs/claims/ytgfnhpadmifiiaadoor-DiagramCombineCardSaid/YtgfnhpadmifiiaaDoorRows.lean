/-
  NARROWER THAN 'FOR EVERY INPUT', by the rows' own cells (each row's printed sentence says how): DiagramTest: laid · DiagramLeast: laid · DiagramCount: laid · DiagramInvalid: laid · DiagramValid: laid · DiagramCombine: laid · DiagramCanonical: laid · DiagramRun: laid.
  DERIVED. THE GIVEN ROWS OF THIS SEAT. 8 by the template 'for every input the law returns true; each argument reads behind the call as it read before'; 0 by the template 'total and deterministic' (their statements: YtgfnhpadmifiiaaDoorTotals.lean).
  GIVEN WITH THE SEED: the statements are not yours to turn. If you find one false, say at which input.
  Laid BY PROGRAM, IN A SANDBOX (cutbox-rows.mjs): the forced cells as the released guide's own fill.sh prints them over the translation e2a49ad906d5c48b… (all of the seat's roots in one cut). By AI agents, Wed Nov 11 2026. No macro, syntax, notation, axiom, sorry.
-/
import Derived.Test.YtgfnhpadmifiiaaDoorChecked
import GoSem.Claim
import GoSem.ClaimJoined
import GoSem.ClaimMapViews
import Derived.JoinedTies
import Derived.KernelRfl
namespace Go.Proofs.YtgfnhpadmifiiaaDoor
/- THE CELL 'sum', in the pinned program and in every row, IS THE sha256 OF THE DUMP (.gsa) THAT YtgfnhpadmifiiaaDoorProg.lean LOADS. Nothing in Lean hashes anything: it is a label: what it is worth is what the hold of that sum in a sandbox is worth. -/
noncomputable def Tryd.pinned : Pinned := { name := "ytgfnhpadmifiiaadoor", sum := "e2a49ad906d5c48b7f5d111f75f9a54d0479e39f0e835043a9ac35f6789c308d", checked := Tryd.checked }
namespace Rows
def none {H : Type} : Left H := { results := [], args := [] }

/- WHAT THE LISTED PACKAGE-LEVEL VARIABLES READ AS WHEN THE CALL BEGINS. Each datum BY PROGRAM (the guide's laid-datum.mjs) off the statement by which the dump's own 'gosem.cut.vars' lays the variable. In a bare row this is a premise. The card (YtgfnhpadmifiiaaDoorCards.lean) ties it to the program's text. -/
def laid_math_bits_deBruijn32tab {H : Type} : DataW H := .agg [.lit (.int .u8 0), .lit (.int .u8 1), .lit (.int .u8 28), .lit (.int .u8 2), .lit (.int .u8 29), .lit (.int .u8 14), .lit (.int .u8 24), .lit (.int .u8 3), .lit (.int .u8 30), .lit (.int .u8 22), .lit (.int .u8 20), .lit (.int .u8 15), .lit (.int .u8 25), .lit (.int .u8 17), .lit (.int .u8 4), .lit (.int .u8 8), .lit (.int .u8 31), .lit (.int .u8 27), .lit (.int .u8 13), .lit (.int .u8 23), .lit (.int .u8 21), .lit (.int .u8 19), .lit (.int .u8 16), .lit (.int .u8 7), .lit (.int .u8 26), .lit (.int .u8 12), .lit (.int .u8 18), .lit (.int .u8 6), .lit (.int .u8 11), .lit (.int .u8 5), .lit (.int .u8 10), .lit (.int .u8 9)]
def laid_math_bits_deBruijn64tab {H : Type} : DataW H := .agg [.lit (.int .u8 0), .lit (.int .u8 1), .lit (.int .u8 56), .lit (.int .u8 2), .lit (.int .u8 57), .lit (.int .u8 49), .lit (.int .u8 28), .lit (.int .u8 3), .lit (.int .u8 61), .lit (.int .u8 58), .lit (.int .u8 42), .lit (.int .u8 50), .lit (.int .u8 38), .lit (.int .u8 29), .lit (.int .u8 17), .lit (.int .u8 4), .lit (.int .u8 62), .lit (.int .u8 47), .lit (.int .u8 59), .lit (.int .u8 36), .lit (.int .u8 45), .lit (.int .u8 43), .lit (.int .u8 51), .lit (.int .u8 22), .lit (.int .u8 53), .lit (.int .u8 39), .lit (.int .u8 33), .lit (.int .u8 30), .lit (.int .u8 24), .lit (.int .u8 18), .lit (.int .u8 12), .lit (.int .u8 5), .lit (.int .u8 63), .lit (.int .u8 55), .lit (.int .u8 48), .lit (.int .u8 27), .lit (.int .u8 60), .lit (.int .u8 41), .lit (.int .u8 37), .lit (.int .u8 16), .lit (.int .u8 46), .lit (.int .u8 35), .lit (.int .u8 44), .lit (.int .u8 21), .lit (.int .u8 52), .lit (.int .u8 32), .lit (.int .u8 23), .lit (.int .u8 11), .lit (.int .u8 54), .lit (.int .u8 26), .lit (.int .u8 40), .lit (.int .u8 15), .lit (.int .u8 34), .lit (.int .u8 20), .lit (.int .u8 31), .lit (.int .u8 10), .lit (.int .u8 25), .lit (.int .u8 14), .lit (.int .u8 19), .lit (.int .u8 9), .lit (.int .u8 13), .lit (.int .u8 8), .lit (.int .u8 7), .lit (.int .u8 6)]
def laid_internal_strconv_uint64pow10 {H : Type} : DataW H := .agg [.lit (.int .u64 1), .lit (.int .u64 10), .lit (.int .u64 100), .lit (.int .u64 1000), .lit (.int .u64 10000), .lit (.int .u64 100000), .lit (.int .u64 1000000), .lit (.int .u64 10000000), .lit (.int .u64 100000000), .lit (.int .u64 1000000000), .lit (.int .u64 10000000000), .lit (.int .u64 100000000000), .lit (.int .u64 1000000000000), .lit (.int .u64 10000000000000), .lit (.int .u64 100000000000000), .lit (.int .u64 1000000000000000), .lit (.int .u64 10000000000000000), .lit (.int .u64 100000000000000000), .lit (.int .u64 1000000000000000000), .lit (.int .u64 10000000000000000000)]

/-- 'treatylaw13.DiagramTest': WHATEVER THE INPUT: true; the input reads as it did. -/
def diagramTestSpec : ChangeSpec := { name := "diagramTest", fn := fun _ => fun
  | [d1, d2, d3, d4, d5, d6, d7] => { results := [.lit (.bool true)], args := [d1, d2, d3, d4, d5, d6, d7] }
  | _ => none }
def diagramTestRow : OpenClaim := { program := "ytgfnhpadmifiiaadoor", sum := "e2a49ad906d5c48b7f5d111f75f9a54d0479e39f0e835043a9ac35f6789c308d", func := "treaty/treatylaw13.DiagramTest", spec := "diagramTest", unfollowed := true, recurses := true, named := ["internal/strconv.uint64pow10", "math/bits.deBruijn32tab", "math/bits.deBruijn64tab"], plainKeys := false, apart := false, laid := [("math/bits.deBruijn32tab", laid_math_bits_deBruijn32tab), ("math/bits.deBruijn64tab", laid_math_bits_deBruijn64tab), ("internal/strconv.uint64pow10", laid_internal_strconv_uint64pow10)] }
def DiagramTestSaid : Prop := diagramTestRow.holds Tryd.pinned (OpenSpec.ofChange diagramTestSpec)

/-- ITS FALSE NEIGHBOUR: 'it returns false'. Refute it at one input. -/
def diagramTestWrong : ChangeSpec := { name := "diagramTest", fn := fun _ => fun
  | [d1, d2, d3, d4, d5, d6, d7] => { results := [.lit (.bool false)], args := [d1, d2, d3, d4, d5, d6, d7] }
  | _ => none }
def DiagramTestWrongFalsely : Prop := diagramTestRow.holds Tryd.pinned (OpenSpec.ofChange diagramTestWrong)

/-- 'treatylaw13.DiagramLeast': WHATEVER THE INPUT: true; the input reads as it did. -/
def diagramLeastSpec : ChangeSpec := { name := "diagramLeast", fn := fun _ => fun
  | [d1, d2, d3, d4] => { results := [.lit (.bool true)], args := [d1, d2, d3, d4] }
  | _ => none }
def diagramLeastRow : OpenClaim := { program := "ytgfnhpadmifiiaadoor", sum := "e2a49ad906d5c48b7f5d111f75f9a54d0479e39f0e835043a9ac35f6789c308d", func := "treaty/treatylaw13.DiagramLeast", spec := "diagramLeast", unfollowed := true, recurses := true, named := ["internal/strconv.uint64pow10", "math/bits.deBruijn32tab", "math/bits.deBruijn64tab"], plainKeys := false, apart := false, laid := [("math/bits.deBruijn32tab", laid_math_bits_deBruijn32tab), ("math/bits.deBruijn64tab", laid_math_bits_deBruijn64tab), ("internal/strconv.uint64pow10", laid_internal_strconv_uint64pow10)] }
def DiagramLeastSaid : Prop := diagramLeastRow.holds Tryd.pinned (OpenSpec.ofChange diagramLeastSpec)

/-- ITS FALSE NEIGHBOUR: 'it returns false'. Refute it at one input. -/
def diagramLeastWrong : ChangeSpec := { name := "diagramLeast", fn := fun _ => fun
  | [d1, d2, d3, d4] => { results := [.lit (.bool false)], args := [d1, d2, d3, d4] }
  | _ => none }
def DiagramLeastWrongFalsely : Prop := diagramLeastRow.holds Tryd.pinned (OpenSpec.ofChange diagramLeastWrong)

/-- 'treatylaw13.DiagramCount': WHATEVER THE INPUT: true; the input reads as it did. -/
def diagramCountSpec : ChangeSpec := { name := "diagramCount", fn := fun _ => fun
  | [d1, d2, d3] => { results := [.lit (.bool true)], args := [d1, d2, d3] }
  | _ => none }
def diagramCountRow : OpenClaim := { program := "ytgfnhpadmifiiaadoor", sum := "e2a49ad906d5c48b7f5d111f75f9a54d0479e39f0e835043a9ac35f6789c308d", func := "treaty/treatylaw13.DiagramCount", spec := "diagramCount", unfollowed := true, recurses := true, named := ["internal/strconv.uint64pow10", "math/bits.deBruijn32tab", "math/bits.deBruijn64tab"], plainKeys := false, apart := false, laid := [("math/bits.deBruijn32tab", laid_math_bits_deBruijn32tab), ("math/bits.deBruijn64tab", laid_math_bits_deBruijn64tab), ("internal/strconv.uint64pow10", laid_internal_strconv_uint64pow10)] }
def DiagramCountSaid : Prop := diagramCountRow.holds Tryd.pinned (OpenSpec.ofChange diagramCountSpec)

/-- ITS FALSE NEIGHBOUR: 'it returns false'. Refute it at one input. -/
def diagramCountWrong : ChangeSpec := { name := "diagramCount", fn := fun _ => fun
  | [d1, d2, d3] => { results := [.lit (.bool false)], args := [d1, d2, d3] }
  | _ => none }
def DiagramCountWrongFalsely : Prop := diagramCountRow.holds Tryd.pinned (OpenSpec.ofChange diagramCountWrong)

/-- 'treatylaw13.DiagramInvalid': WHATEVER THE INPUT: true; the input reads as it did. -/
def diagramInvalidSpec : ChangeSpec := { name := "diagramInvalid", fn := fun _ => fun
  | [d1, d2, d3, d4, d5] => { results := [.lit (.bool true)], args := [d1, d2, d3, d4, d5] }
  | _ => none }
def diagramInvalidRow : OpenClaim := { program := "ytgfnhpadmifiiaadoor", sum := "e2a49ad906d5c48b7f5d111f75f9a54d0479e39f0e835043a9ac35f6789c308d", func := "treaty/treatylaw13.DiagramInvalid", spec := "diagramInvalid", unfollowed := true, recurses := true, named := ["internal/strconv.uint64pow10", "math/bits.deBruijn32tab", "math/bits.deBruijn64tab"], plainKeys := false, apart := false, laid := [("math/bits.deBruijn32tab", laid_math_bits_deBruijn32tab), ("math/bits.deBruijn64tab", laid_math_bits_deBruijn64tab), ("internal/strconv.uint64pow10", laid_internal_strconv_uint64pow10)] }
def DiagramInvalidSaid : Prop := diagramInvalidRow.holds Tryd.pinned (OpenSpec.ofChange diagramInvalidSpec)

/-- ITS FALSE NEIGHBOUR: 'it returns false'. Refute it at one input. -/
def diagramInvalidWrong : ChangeSpec := { name := "diagramInvalid", fn := fun _ => fun
  | [d1, d2, d3, d4, d5] => { results := [.lit (.bool false)], args := [d1, d2, d3, d4, d5] }
  | _ => none }
def DiagramInvalidWrongFalsely : Prop := diagramInvalidRow.holds Tryd.pinned (OpenSpec.ofChange diagramInvalidWrong)

/-- 'treatylaw13.DiagramValid': WHATEVER THE INPUT: true; the input reads as it did. -/
def diagramValidSpec : ChangeSpec := { name := "diagramValid", fn := fun _ => fun
  | [d1, d2, d3, d4, d5] => { results := [.lit (.bool true)], args := [d1, d2, d3, d4, d5] }
  | _ => none }
def diagramValidRow : OpenClaim := { program := "ytgfnhpadmifiiaadoor", sum := "e2a49ad906d5c48b7f5d111f75f9a54d0479e39f0e835043a9ac35f6789c308d", func := "treaty/treatylaw13.DiagramValid", spec := "diagramValid", unfollowed := true, recurses := true, named := ["internal/strconv.uint64pow10", "math/bits.deBruijn32tab", "math/bits.deBruijn64tab"], plainKeys := false, apart := false, laid := [("math/bits.deBruijn32tab", laid_math_bits_deBruijn32tab), ("math/bits.deBruijn64tab", laid_math_bits_deBruijn64tab), ("internal/strconv.uint64pow10", laid_internal_strconv_uint64pow10)] }
def DiagramValidSaid : Prop := diagramValidRow.holds Tryd.pinned (OpenSpec.ofChange diagramValidSpec)

/-- ITS FALSE NEIGHBOUR: 'it returns false'. Refute it at one input. -/
def diagramValidWrong : ChangeSpec := { name := "diagramValid", fn := fun _ => fun
  | [d1, d2, d3, d4, d5] => { results := [.lit (.bool false)], args := [d1, d2, d3, d4, d5] }
  | _ => none }
def DiagramValidWrongFalsely : Prop := diagramValidRow.holds Tryd.pinned (OpenSpec.ofChange diagramValidWrong)

/-- 'treatylaw13.DiagramCombine': WHATEVER THE INPUT: true; the input reads as it did. -/
def diagramCombineSpec : ChangeSpec := { name := "diagramCombine", fn := fun _ => fun
  | [d1, d2, d3, d4, d5] => { results := [.lit (.bool true)], args := [d1, d2, d3, d4, d5] }
  | _ => none }
def diagramCombineRow : OpenClaim := { program := "ytgfnhpadmifiiaadoor", sum := "e2a49ad906d5c48b7f5d111f75f9a54d0479e39f0e835043a9ac35f6789c308d", func := "treaty/treatylaw13.DiagramCombine", spec := "diagramCombine", unfollowed := true, recurses := true, named := ["internal/strconv.uint64pow10", "math/bits.deBruijn32tab", "math/bits.deBruijn64tab"], plainKeys := false, apart := false, laid := [("math/bits.deBruijn32tab", laid_math_bits_deBruijn32tab), ("math/bits.deBruijn64tab", laid_math_bits_deBruijn64tab), ("internal/strconv.uint64pow10", laid_internal_strconv_uint64pow10)] }
def DiagramCombineSaid : Prop := diagramCombineRow.holds Tryd.pinned (OpenSpec.ofChange diagramCombineSpec)

/-- ITS FALSE NEIGHBOUR: 'it returns false'. Refute it at one input. -/
def diagramCombineWrong : ChangeSpec := { name := "diagramCombine", fn := fun _ => fun
  | [d1, d2, d3, d4, d5] => { results := [.lit (.bool false)], args := [d1, d2, d3, d4, d5] }
  | _ => none }
def DiagramCombineWrongFalsely : Prop := diagramCombineRow.holds Tryd.pinned (OpenSpec.ofChange diagramCombineWrong)

/-- 'treatylaw13.DiagramCanonical': WHATEVER THE INPUT: true; the input reads as it did. -/
def diagramCanonicalSpec : ChangeSpec := { name := "diagramCanonical", fn := fun _ => fun
  | [d1, d2] => { results := [.lit (.bool true)], args := [d1, d2] }
  | _ => none }
def diagramCanonicalRow : OpenClaim := { program := "ytgfnhpadmifiiaadoor", sum := "e2a49ad906d5c48b7f5d111f75f9a54d0479e39f0e835043a9ac35f6789c308d", func := "treaty/treatylaw13.DiagramCanonical", spec := "diagramCanonical", unfollowed := true, recurses := true, named := ["internal/strconv.uint64pow10", "math/bits.deBruijn32tab", "math/bits.deBruijn64tab"], plainKeys := false, apart := false, laid := [("math/bits.deBruijn32tab", laid_math_bits_deBruijn32tab), ("math/bits.deBruijn64tab", laid_math_bits_deBruijn64tab), ("internal/strconv.uint64pow10", laid_internal_strconv_uint64pow10)] }
def DiagramCanonicalSaid : Prop := diagramCanonicalRow.holds Tryd.pinned (OpenSpec.ofChange diagramCanonicalSpec)

/-- ITS FALSE NEIGHBOUR: 'it returns false'. Refute it at one input. -/
def diagramCanonicalWrong : ChangeSpec := { name := "diagramCanonical", fn := fun _ => fun
  | [d1, d2] => { results := [.lit (.bool false)], args := [d1, d2] }
  | _ => none }
def DiagramCanonicalWrongFalsely : Prop := diagramCanonicalRow.holds Tryd.pinned (OpenSpec.ofChange diagramCanonicalWrong)

/-- 'treatylaw13.DiagramRun': WHATEVER THE INPUT: true; the input reads as it did. -/
def diagramRunSpec : ChangeSpec := { name := "diagramRun", fn := fun _ => fun
  | [d1, d2, d3, d4, d5, d6] => { results := [.lit (.bool true)], args := [d1, d2, d3, d4, d5, d6] }
  | _ => none }
def diagramRunRow : OpenClaim := { program := "ytgfnhpadmifiiaadoor", sum := "e2a49ad906d5c48b7f5d111f75f9a54d0479e39f0e835043a9ac35f6789c308d", func := "treaty/treatylaw13.DiagramRun", spec := "diagramRun", unfollowed := true, recurses := true, named := ["internal/strconv.uint64pow10", "math/bits.deBruijn32tab", "math/bits.deBruijn64tab"], plainKeys := false, apart := false, laid := [("math/bits.deBruijn32tab", laid_math_bits_deBruijn32tab), ("math/bits.deBruijn64tab", laid_math_bits_deBruijn64tab), ("internal/strconv.uint64pow10", laid_internal_strconv_uint64pow10)] }
def DiagramRunSaid : Prop := diagramRunRow.holds Tryd.pinned (OpenSpec.ofChange diagramRunSpec)

/-- ITS FALSE NEIGHBOUR: 'it returns false'. Refute it at one input. -/
def diagramRunWrong : ChangeSpec := { name := "diagramRun", fn := fun _ => fun
  | [d1, d2, d3, d4, d5, d6] => { results := [.lit (.bool false)], args := [d1, d2, d3, d4, d5, d6] }
  | _ => none }
def DiagramRunWrongFalsely : Prop := diagramRunRow.holds Tryd.pinned (OpenSpec.ofChange diagramRunWrong)

/- THE SECOND FORM. 'bulk': how many values and letters a reading holds, each counted each time it is reached (what is shared counts as often as it is met; a slice's spare places count too). A statement '..UptoSaid' is the law's where the arguments, and the package variables that the reading takes, are together of bulk at most 1048576: NARROWER than '..Said'. Prove '..Said' where nothing that the law and all that it calls make is longer than what came in: it says more and counts as full. Else prove '..UptoSaid'. A law counts once. -/
mutual
def uptoBulk {H : Type} : DataW H → Nat
  | .lit (.string bytes) => bytes.length + 1
  | .lit _ => 1
  | .nil => 1
  | .ptr d => uptoBulk d + 1
  | .slice elems spare => uptoBulkAll elems + uptoBulkAll spare + 1
  | .agg parts => uptoBulkAll parts + 1
  | .iface _ d => uptoBulk d + 1
  | .map entries => uptoBulkEntries entries + 1
  | .held _ => 1
def uptoBulkAll {H : Type} : List (DataW H) → Nat
  | [] => 0
  | d :: r => uptoBulk d + uptoBulkAll r
def uptoBulkEntries {H : Type} : List (Lit × DataW H) → Nat
  | [] => 0
  | x :: r => uptoBulkEntry x + uptoBulkEntries r
def uptoBulkEntry {H : Type} : Lit × DataW H → Nat
  | (.string bytes, d) => bytes.length + uptoBulk d + 1
  | (_, d) => uptoBulk d + 1
 end
def uptoSmall : (H : Type) → List (DataW H) → Bool := fun _ ds => decide (uptoBulkAll ds ≤ 1048576)
def OpenSpec.upto (s : _root_.Go.ChangeSpec) : _root_.Go.OpenSpec := { _root_.Go.OpenSpec.ofChange s with cond := some uptoSmall }

/-- 'treatylaw13.DiagramTest', WHERE WHAT IT READS IS OF BULK AT MOST 1048576: true; the input reads as it did. -/
def diagramTestUptoRow : OpenClaim := { program := "ytgfnhpadmifiiaadoor", sum := "e2a49ad906d5c48b7f5d111f75f9a54d0479e39f0e835043a9ac35f6789c308d", func := "treaty/treatylaw13.DiagramTest", spec := "diagramTest", unfollowed := true, recurses := true, named := ["internal/strconv.uint64pow10", "math/bits.deBruijn32tab", "math/bits.deBruijn64tab"], plainKeys := false, apart := false, laid := [("math/bits.deBruijn32tab", laid_math_bits_deBruijn32tab), ("math/bits.deBruijn64tab", laid_math_bits_deBruijn64tab), ("internal/strconv.uint64pow10", laid_internal_strconv_uint64pow10)], narrowed := true }
def DiagramTestUptoSaid : Prop := diagramTestUptoRow.holds Tryd.pinned (OpenSpec.upto diagramTestSpec)

/-- 'treatylaw13.DiagramLeast', WHERE WHAT IT READS IS OF BULK AT MOST 1048576: true; the input reads as it did. -/
def diagramLeastUptoRow : OpenClaim := { program := "ytgfnhpadmifiiaadoor", sum := "e2a49ad906d5c48b7f5d111f75f9a54d0479e39f0e835043a9ac35f6789c308d", func := "treaty/treatylaw13.DiagramLeast", spec := "diagramLeast", unfollowed := true, recurses := true, named := ["internal/strconv.uint64pow10", "math/bits.deBruijn32tab", "math/bits.deBruijn64tab"], plainKeys := false, apart := false, laid := [("math/bits.deBruijn32tab", laid_math_bits_deBruijn32tab), ("math/bits.deBruijn64tab", laid_math_bits_deBruijn64tab), ("internal/strconv.uint64pow10", laid_internal_strconv_uint64pow10)], narrowed := true }
def DiagramLeastUptoSaid : Prop := diagramLeastUptoRow.holds Tryd.pinned (OpenSpec.upto diagramLeastSpec)

/-- 'treatylaw13.DiagramCount', WHERE WHAT IT READS IS OF BULK AT MOST 1048576: true; the input reads as it did. -/
def diagramCountUptoRow : OpenClaim := { program := "ytgfnhpadmifiiaadoor", sum := "e2a49ad906d5c48b7f5d111f75f9a54d0479e39f0e835043a9ac35f6789c308d", func := "treaty/treatylaw13.DiagramCount", spec := "diagramCount", unfollowed := true, recurses := true, named := ["internal/strconv.uint64pow10", "math/bits.deBruijn32tab", "math/bits.deBruijn64tab"], plainKeys := false, apart := false, laid := [("math/bits.deBruijn32tab", laid_math_bits_deBruijn32tab), ("math/bits.deBruijn64tab", laid_math_bits_deBruijn64tab), ("internal/strconv.uint64pow10", laid_internal_strconv_uint64pow10)], narrowed := true }
def DiagramCountUptoSaid : Prop := diagramCountUptoRow.holds Tryd.pinned (OpenSpec.upto diagramCountSpec)

/-- 'treatylaw13.DiagramInvalid', WHERE WHAT IT READS IS OF BULK AT MOST 1048576: true; the input reads as it did. -/
def diagramInvalidUptoRow : OpenClaim := { program := "ytgfnhpadmifiiaadoor", sum := "e2a49ad906d5c48b7f5d111f75f9a54d0479e39f0e835043a9ac35f6789c308d", func := "treaty/treatylaw13.DiagramInvalid", spec := "diagramInvalid", unfollowed := true, recurses := true, named := ["internal/strconv.uint64pow10", "math/bits.deBruijn32tab", "math/bits.deBruijn64tab"], plainKeys := false, apart := false, laid := [("math/bits.deBruijn32tab", laid_math_bits_deBruijn32tab), ("math/bits.deBruijn64tab", laid_math_bits_deBruijn64tab), ("internal/strconv.uint64pow10", laid_internal_strconv_uint64pow10)], narrowed := true }
def DiagramInvalidUptoSaid : Prop := diagramInvalidUptoRow.holds Tryd.pinned (OpenSpec.upto diagramInvalidSpec)

/-- 'treatylaw13.DiagramValid', WHERE WHAT IT READS IS OF BULK AT MOST 1048576: true; the input reads as it did. -/
def diagramValidUptoRow : OpenClaim := { program := "ytgfnhpadmifiiaadoor", sum := "e2a49ad906d5c48b7f5d111f75f9a54d0479e39f0e835043a9ac35f6789c308d", func := "treaty/treatylaw13.DiagramValid", spec := "diagramValid", unfollowed := true, recurses := true, named := ["internal/strconv.uint64pow10", "math/bits.deBruijn32tab", "math/bits.deBruijn64tab"], plainKeys := false, apart := false, laid := [("math/bits.deBruijn32tab", laid_math_bits_deBruijn32tab), ("math/bits.deBruijn64tab", laid_math_bits_deBruijn64tab), ("internal/strconv.uint64pow10", laid_internal_strconv_uint64pow10)], narrowed := true }
def DiagramValidUptoSaid : Prop := diagramValidUptoRow.holds Tryd.pinned (OpenSpec.upto diagramValidSpec)

/-- 'treatylaw13.DiagramCombine', WHERE WHAT IT READS IS OF BULK AT MOST 1048576: true; the input reads as it did. -/
def diagramCombineUptoRow : OpenClaim := { program := "ytgfnhpadmifiiaadoor", sum := "e2a49ad906d5c48b7f5d111f75f9a54d0479e39f0e835043a9ac35f6789c308d", func := "treaty/treatylaw13.DiagramCombine", spec := "diagramCombine", unfollowed := true, recurses := true, named := ["internal/strconv.uint64pow10", "math/bits.deBruijn32tab", "math/bits.deBruijn64tab"], plainKeys := false, apart := false, laid := [("math/bits.deBruijn32tab", laid_math_bits_deBruijn32tab), ("math/bits.deBruijn64tab", laid_math_bits_deBruijn64tab), ("internal/strconv.uint64pow10", laid_internal_strconv_uint64pow10)], narrowed := true }
def DiagramCombineUptoSaid : Prop := diagramCombineUptoRow.holds Tryd.pinned (OpenSpec.upto diagramCombineSpec)

/-- 'treatylaw13.DiagramCanonical', WHERE WHAT IT READS IS OF BULK AT MOST 1048576: true; the input reads as it did. -/
def diagramCanonicalUptoRow : OpenClaim := { program := "ytgfnhpadmifiiaadoor", sum := "e2a49ad906d5c48b7f5d111f75f9a54d0479e39f0e835043a9ac35f6789c308d", func := "treaty/treatylaw13.DiagramCanonical", spec := "diagramCanonical", unfollowed := true, recurses := true, named := ["internal/strconv.uint64pow10", "math/bits.deBruijn32tab", "math/bits.deBruijn64tab"], plainKeys := false, apart := false, laid := [("math/bits.deBruijn32tab", laid_math_bits_deBruijn32tab), ("math/bits.deBruijn64tab", laid_math_bits_deBruijn64tab), ("internal/strconv.uint64pow10", laid_internal_strconv_uint64pow10)], narrowed := true }
def DiagramCanonicalUptoSaid : Prop := diagramCanonicalUptoRow.holds Tryd.pinned (OpenSpec.upto diagramCanonicalSpec)

/-- 'treatylaw13.DiagramRun', WHERE WHAT IT READS IS OF BULK AT MOST 1048576: true; the input reads as it did. -/
def diagramRunUptoRow : OpenClaim := { program := "ytgfnhpadmifiiaadoor", sum := "e2a49ad906d5c48b7f5d111f75f9a54d0479e39f0e835043a9ac35f6789c308d", func := "treaty/treatylaw13.DiagramRun", spec := "diagramRun", unfollowed := true, recurses := true, named := ["internal/strconv.uint64pow10", "math/bits.deBruijn32tab", "math/bits.deBruijn64tab"], plainKeys := false, apart := false, laid := [("math/bits.deBruijn32tab", laid_math_bits_deBruijn32tab), ("math/bits.deBruijn64tab", laid_math_bits_deBruijn64tab), ("internal/strconv.uint64pow10", laid_internal_strconv_uint64pow10)], narrowed := true }
def DiagramRunUptoSaid : Prop := diagramRunUptoRow.holds Tryd.pinned (OpenSpec.upto diagramRunSpec)

end Rows
end Go.Proofs.YtgfnhpadmifiiaaDoor
