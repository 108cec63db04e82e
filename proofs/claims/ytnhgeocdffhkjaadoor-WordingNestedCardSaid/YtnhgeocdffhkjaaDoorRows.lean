/-
  NARROWER THAN 'FOR EVERY INPUT', by the rows' own cells (each row's printed sentence says how): WordingNested: laid.
  DERIVED. THE GIVEN ROWS OF THIS SEAT. 1 by the template 'for every input the law returns true; each argument reads behind the call as it read before'; 0 by the template 'total and deterministic' (their statements: YtnhgeocdffhkjaaDoorTotals.lean).
  GIVEN WITH THE SEED: the statements are not yours to turn. If you find one false, say at which input.
  Laid BY PROGRAM, IN A SANDBOX (cutbox-rows.mjs): the forced cells as the released guide's own fill.sh prints them over the translation b1efe19d64718e50… (all of the seat's roots in one cut). By AI agents, Wed Nov 11 2026. No macro, syntax, notation, axiom, sorry.
-/
import Derived.Test.YtnhgeocdffhkjaaDoorChecked
import GoSem.Claim
import GoSem.ClaimJoined
import GoSem.ClaimMapViews
import Derived.JoinedTies
import Derived.KernelRfl
namespace Go.Proofs.YtnhgeocdffhkjaaDoor
/- THE CELL 'sum', in the pinned program and in every row, IS THE sha256 OF THE DUMP (.gsa) THAT YtnhgeocdffhkjaaDoorProg.lean LOADS. Nothing in Lean hashes anything: it is a label: what it is worth is what the hold of that sum in a sandbox is worth. -/
noncomputable def Tryd.pinned : Pinned := { name := "ytnhgeocdffhkjaadoor", sum := "b1efe19d64718e50b082f5e860e05ab83a773263a0719ebb24584937950aeb31", checked := Tryd.checked }
namespace Rows
def none {H : Type} : Left H := { results := [], args := [] }

/- WHAT THE LISTED PACKAGE-LEVEL VARIABLES READ AS WHEN THE CALL BEGINS. Each datum BY PROGRAM (the guide's laid-datum.mjs) off the statement by which the dump's own 'gosem.cut.vars' lays the variable. In a bare row this is a premise. The card (YtnhgeocdffhkjaaDoorCards.lean) ties it to the program's text. -/
def laid_treaty_calendar_lengths {H : Type} : DataW H := .agg [.lit (.int .i64 31), .lit (.int .i64 28), .lit (.int .i64 31), .lit (.int .i64 30), .lit (.int .i64 31), .lit (.int .i64 30), .lit (.int .i64 31), .lit (.int .i64 31), .lit (.int .i64 30), .lit (.int .i64 31), .lit (.int .i64 30), .lit (.int .i64 31)]
def laid_treaty_syntax_operators {H : Type} : DataW H := .agg [.agg [.lit (.string []), .lit (.bool false), .lit (.int .i64 0), .lit (.int .i64 0), .lit (.int .i64 0)], .agg [.lit (.string [116, 114, 117, 101]), .lit (.bool false), .lit (.int .i64 0), .lit (.int .i64 0), .lit (.int .i64 0)], .agg [.lit (.string [102, 97, 108, 115, 101]), .lit (.bool false), .lit (.int .i64 0), .lit (.int .i64 0), .lit (.int .i64 0)], .agg [.lit (.string []), .lit (.bool true), .lit (.int .i64 0), .lit (.int .i64 0), .lit (.int .i64 0)], .agg [.lit (.string [105, 110]), .lit (.bool true), .lit (.int .i64 0), .lit (.int .i64 0), .lit (.int .i64 0)], .agg [.lit (.string [102, 114, 111, 109]), .lit (.bool true), .lit (.int .i64 0), .lit (.int .i64 0), .lit (.int .i64 0)], .agg [.lit (.string [110, 111, 116]), .lit (.bool false), .lit (.int .i64 1), .lit (.int .i64 1), .lit (.int .i64 3)], .agg [.lit (.string [97, 110, 100]), .lit (.bool false), .lit (.int .i64 2), .lit (.int .i64 300), .lit (.int .i64 2)], .agg [.lit (.string [111, 114]), .lit (.bool false), .lit (.int .i64 2), .lit (.int .i64 300), .lit (.int .i64 1)]]

/-- 'treatylaw08.WordingNested': WHATEVER THE INPUT: true; the input reads as it did. -/
def wordingNestedSpec : ChangeSpec := { name := "wordingNested", fn := fun _ => fun
  | [d1, d2] => { results := [.lit (.bool true)], args := [d1, d2] }
  | _ => none }
def wordingNestedRow : OpenClaim := { program := "ytnhgeocdffhkjaadoor", sum := "b1efe19d64718e50b082f5e860e05ab83a773263a0719ebb24584937950aeb31", func := "treaty/treatylaw08.WordingNested", spec := "wordingNested", unfollowed := true, recurses := true, named := ["treaty/calendar.lengths", "treaty/syntax.operators"], apart := false, laid := [("treaty/calendar.lengths", laid_treaty_calendar_lengths), ("treaty/syntax.operators", laid_treaty_syntax_operators)] }
def WordingNestedSaid : Prop := wordingNestedRow.holds Tryd.pinned (OpenSpec.ofChange wordingNestedSpec)

/-- ITS FALSE NEIGHBOUR: 'it returns false'. Refute it at one input. -/
def wordingNestedWrong : ChangeSpec := { name := "wordingNested", fn := fun _ => fun
  | [d1, d2] => { results := [.lit (.bool false)], args := [d1, d2] }
  | _ => none }
def WordingNestedWrongFalsely : Prop := wordingNestedRow.holds Tryd.pinned (OpenSpec.ofChange wordingNestedWrong)

/- THE SECOND FORM. 'bulk': how many values and letters a reading holds, each counted each time it is reached (what is shared counts as often as it is met; a slice's spare places count too). A statement '..UptoSaid' is the law's where the arguments, and the package variables that the reading takes, are together of bulk at most 1048576: NARROWER than '..Said'. Prove '..Said' where nothing that the law and all that it calls make is longer than what came in: it says more and counts as full. Else prove '..UptoSaid'. A law counts once. -/
mutual
def uptoBulk {H : Type} : DataW H → Nat
  | .lit (.string bytes) => bytes.length + 1
  | .lit _ => 1
  | .nil => 1
  | .ptr d => uptoBulk d + 1
  | .slice elems spare => uptoBulkAll elems + uptoBulkAll spare + 1
  | .agg parts => uptoBulkAll parts + 1
  | .iface _ d => uptoBulk d + 1
  | .map entries => uptoBulkEntries entries + 1
  | .held _ => 1
def uptoBulkAll {H : Type} : List (DataW H) → Nat
  | [] => 0
  | d :: r => uptoBulk d + uptoBulkAll r
def uptoBulkEntries {H : Type} : List (Lit × DataW H) → Nat
  | [] => 0
  | x :: r => uptoBulkEntry x + uptoBulkEntries r
def uptoBulkEntry {H : Type} : Lit × DataW H → Nat
  | (.string bytes, d) => bytes.length + uptoBulk d + 1
  | (_, d) => uptoBulk d + 1
 end
def uptoSmall : (H : Type) → List (DataW H) → Bool := fun _ ds => decide (uptoBulkAll ds ≤ 1048576)
def OpenSpec.upto (s : _root_.Go.ChangeSpec) : _root_.Go.OpenSpec := { _root_.Go.OpenSpec.ofChange s with cond := some uptoSmall }

/-- 'treatylaw08.WordingNested', WHERE WHAT IT READS IS OF BULK AT MOST 1048576: true; the input reads as it did. -/
def wordingNestedUptoRow : OpenClaim := { program := "ytnhgeocdffhkjaadoor", sum := "b1efe19d64718e50b082f5e860e05ab83a773263a0719ebb24584937950aeb31", func := "treaty/treatylaw08.WordingNested", spec := "wordingNested", unfollowed := true, recurses := true, named := ["treaty/calendar.lengths", "treaty/syntax.operators"], apart := false, laid := [("treaty/calendar.lengths", laid_treaty_calendar_lengths), ("treaty/syntax.operators", laid_treaty_syntax_operators)], narrowed := true }
def WordingNestedUptoSaid : Prop := wordingNestedUptoRow.holds Tryd.pinned (OpenSpec.upto wordingNestedSpec)

end Rows
end Go.Proofs.YtnhgeocdffhkjaaDoor
