/-
  No cell of these rows narrows 'for every input' (looked for: loops, veiled, ifaces, maps, wideKeys, modest, calm, conditions, laid).
  DERIVED. THE GIVEN ROWS OF THIS SEAT. 4 by the template 'for every input the law returns true; each argument reads behind the call as it read before'; 0 by the template 'total and deterministic' (their statements: YtpffhaligaebaaaTotals.lean).
  GIVEN WITH THE SEED: the statements are not yours to turn. If you find one false, say at which input.
  Laid BY PROGRAM, IN A SANDBOX (cutbox-rows.mjs): the forced cells as the released guide's own fill.sh prints them over the translation f4966b9d6f63421c… (all of the seat's roots in one cut). By AI agents, Wed Nov 11 2026. No macro, syntax, notation, axiom, sorry.
-/
import Derived.Test.YtpffhaligaebaaaChecked
import GoSem.Claim
import GoSem.ClaimJoined
import GoSem.ClaimMapViews
import Derived.JoinedTies
import Derived.KernelRfl
namespace Go.Proofs.Ytpffhaligaebaaa
/- THE CELL 'sum', in the pinned program and in every row, IS THE sha256 OF THE DUMP (.gsa) THAT YtpffhaligaebaaaProg.lean LOADS. Nothing in Lean hashes anything: it is a label: what it is worth is what the hold of that sum in a sandbox is worth. -/
noncomputable def Try.pinned : Pinned := { name := "ytpffhaligaebaaa", sum := "f4966b9d6f63421c413dc03797d84d12172bc400221ec3153f24e8e74673ef41", checked := Try.checked }
namespace Rows
def none {H : Type} : Left H := { results := [], args := [] }

/-- 'treatylaw41.JournalFrame': WHATEVER THE INPUT: true; the input reads as it did. -/
def journalFrameSpec : ChangeSpec := { name := "journalFrame", fn := fun _ => fun
  | [d1, d2, d3] => { results := [.lit (.bool true)], args := [d1, d2, d3] }
  | _ => none }
def journalFrameRow : OpenClaim := { program := "ytpffhaligaebaaa", sum := "f4966b9d6f63421c413dc03797d84d12172bc400221ec3153f24e8e74673ef41", func := "treaty/treatylaw41.JournalFrame", spec := "journalFrame", apart := false }
def JournalFrameSaid : Prop := journalFrameRow.holds Try.pinned (OpenSpec.ofChange journalFrameSpec)

/-- ITS FALSE NEIGHBOUR: 'it returns false'. Refute it at one input. -/
def journalFrameWrong : ChangeSpec := { name := "journalFrame", fn := fun _ => fun
  | [d1, d2, d3] => { results := [.lit (.bool false)], args := [d1, d2, d3] }
  | _ => none }
def JournalFrameWrongFalsely : Prop := journalFrameRow.holds Try.pinned (OpenSpec.ofChange journalFrameWrong)

/-- 'treatylaw41.JournalGrows': WHATEVER THE INPUT: true; the input reads as it did. -/
def journalGrowsSpec : ChangeSpec := { name := "journalGrows", fn := fun _ => fun
  | [d1, d2] => { results := [.lit (.bool true)], args := [d1, d2] }
  | _ => none }
def journalGrowsRow : OpenClaim := { program := "ytpffhaligaebaaa", sum := "f4966b9d6f63421c413dc03797d84d12172bc400221ec3153f24e8e74673ef41", func := "treaty/treatylaw41.JournalGrows", spec := "journalGrows", apart := false }
def JournalGrowsSaid : Prop := journalGrowsRow.holds Try.pinned (OpenSpec.ofChange journalGrowsSpec)

/-- ITS FALSE NEIGHBOUR: 'it returns false'. Refute it at one input. -/
def journalGrowsWrong : ChangeSpec := { name := "journalGrows", fn := fun _ => fun
  | [d1, d2] => { results := [.lit (.bool false)], args := [d1, d2] }
  | _ => none }
def JournalGrowsWrongFalsely : Prop := journalGrowsRow.holds Try.pinned (OpenSpec.ofChange journalGrowsWrong)

/-- 'treatylaw41.JournalRecords': WHATEVER THE INPUT: true; the input reads as it did. -/
def journalRecordsSpec : ChangeSpec := { name := "journalRecords", fn := fun _ => fun
  | [d1, d2, d3, d4, d5, d6] => { results := [.lit (.bool true)], args := [d1, d2, d3, d4, d5, d6] }
  | _ => none }
def journalRecordsRow : OpenClaim := { program := "ytpffhaligaebaaa", sum := "f4966b9d6f63421c413dc03797d84d12172bc400221ec3153f24e8e74673ef41", func := "treaty/treatylaw41.JournalRecords", spec := "journalRecords", apart := false }
def JournalRecordsSaid : Prop := journalRecordsRow.holds Try.pinned (OpenSpec.ofChange journalRecordsSpec)

/-- ITS FALSE NEIGHBOUR: 'it returns false'. Refute it at one input. -/
def journalRecordsWrong : ChangeSpec := { name := "journalRecords", fn := fun _ => fun
  | [d1, d2, d3, d4, d5, d6] => { results := [.lit (.bool false)], args := [d1, d2, d3, d4, d5, d6] }
  | _ => none }
def JournalRecordsWrongFalsely : Prop := journalRecordsRow.holds Try.pinned (OpenSpec.ofChange journalRecordsWrong)

/-- 'treatylaw41.JournalKeeps': WHATEVER THE INPUT: true; the input reads as it did. -/
def journalKeepsSpec : ChangeSpec := { name := "journalKeeps", fn := fun _ => fun
  | [d1, d2, d3, d4] => { results := [.lit (.bool true)], args := [d1, d2, d3, d4] }
  | _ => none }
def journalKeepsRow : OpenClaim := { program := "ytpffhaligaebaaa", sum := "f4966b9d6f63421c413dc03797d84d12172bc400221ec3153f24e8e74673ef41", func := "treaty/treatylaw41.JournalKeeps", spec := "journalKeeps", apart := false }
def JournalKeepsSaid : Prop := journalKeepsRow.holds Try.pinned (OpenSpec.ofChange journalKeepsSpec)

/-- ITS FALSE NEIGHBOUR: 'it returns false'. Refute it at one input. -/
def journalKeepsWrong : ChangeSpec := { name := "journalKeeps", fn := fun _ => fun
  | [d1, d2, d3, d4] => { results := [.lit (.bool false)], args := [d1, d2, d3, d4] }
  | _ => none }
def JournalKeepsWrongFalsely : Prop := journalKeepsRow.holds Try.pinned (OpenSpec.ofChange journalKeepsWrong)

/- THE SECOND FORM. 'bulk': how many values and letters a reading holds, each counted each time it is reached (what is shared counts as often as it is met; a slice's spare places count too). A statement '..UptoSaid' is the law's where the arguments, and the package variables that the reading takes, are together of bulk at most 1048576: NARROWER than '..Said'. Prove '..Said' where nothing that the law and all that it calls make is longer than what came in: it says more and counts as full. Else prove '..UptoSaid'. A law counts once. -/
mutual
def uptoBulk {H : Type} : DataW H → Nat
  | .lit (.string bytes) => bytes.length + 1
  | .lit _ => 1
  | .nil => 1
  | .ptr d => uptoBulk d + 1
  | .slice elems spare => uptoBulkAll elems + uptoBulkAll spare + 1
  | .agg parts => uptoBulkAll parts + 1
  | .iface _ d => uptoBulk d + 1
  | .map entries => uptoBulkEntries entries + 1
  | .held _ => 1
def uptoBulkAll {H : Type} : List (DataW H) → Nat
  | [] => 0
  | d :: r => uptoBulk d + uptoBulkAll r
def uptoBulkEntries {H : Type} : List (Lit × DataW H) → Nat
  | [] => 0
  | x :: r => uptoBulkEntry x + uptoBulkEntries r
def uptoBulkEntry {H : Type} : Lit × DataW H → Nat
  | (.string bytes, d) => bytes.length + uptoBulk d + 1
  | (_, d) => uptoBulk d + 1
 end
def uptoSmall : (H : Type) → List (DataW H) → Bool := fun _ ds => decide (uptoBulkAll ds ≤ 1048576)
def OpenSpec.upto (s : _root_.Go.ChangeSpec) : _root_.Go.OpenSpec := { _root_.Go.OpenSpec.ofChange s with cond := some uptoSmall }

/-- 'treatylaw41.JournalFrame', WHERE WHAT IT READS IS OF BULK AT MOST 1048576: true; the input reads as it did. -/
def journalFrameUptoRow : OpenClaim := { program := "ytpffhaligaebaaa", sum := "f4966b9d6f63421c413dc03797d84d12172bc400221ec3153f24e8e74673ef41", func := "treaty/treatylaw41.JournalFrame", spec := "journalFrame", apart := false, narrowed := true }
def JournalFrameUptoSaid : Prop := journalFrameUptoRow.holds Try.pinned (OpenSpec.upto journalFrameSpec)

/-- 'treatylaw41.JournalGrows', WHERE WHAT IT READS IS OF BULK AT MOST 1048576: true; the input reads as it did. -/
def journalGrowsUptoRow : OpenClaim := { program := "ytpffhaligaebaaa", sum := "f4966b9d6f63421c413dc03797d84d12172bc400221ec3153f24e8e74673ef41", func := "treaty/treatylaw41.JournalGrows", spec := "journalGrows", apart := false, narrowed := true }
def JournalGrowsUptoSaid : Prop := journalGrowsUptoRow.holds Try.pinned (OpenSpec.upto journalGrowsSpec)

/-- 'treatylaw41.JournalRecords', WHERE WHAT IT READS IS OF BULK AT MOST 1048576: true; the input reads as it did. -/
def journalRecordsUptoRow : OpenClaim := { program := "ytpffhaligaebaaa", sum := "f4966b9d6f63421c413dc03797d84d12172bc400221ec3153f24e8e74673ef41", func := "treaty/treatylaw41.JournalRecords", spec := "journalRecords", apart := false, narrowed := true }
def JournalRecordsUptoSaid : Prop := journalRecordsUptoRow.holds Try.pinned (OpenSpec.upto journalRecordsSpec)

/-- 'treatylaw41.JournalKeeps', WHERE WHAT IT READS IS OF BULK AT MOST 1048576: true; the input reads as it did. -/
def journalKeepsUptoRow : OpenClaim := { program := "ytpffhaligaebaaa", sum := "f4966b9d6f63421c413dc03797d84d12172bc400221ec3153f24e8e74673ef41", func := "treaty/treatylaw41.JournalKeeps", spec := "journalKeeps", apart := false, narrowed := true }
def JournalKeepsUptoSaid : Prop := journalKeepsUptoRow.holds Try.pinned (OpenSpec.upto journalKeepsSpec)

end Rows
end Go.Proofs.Ytpffhaligaebaaa
