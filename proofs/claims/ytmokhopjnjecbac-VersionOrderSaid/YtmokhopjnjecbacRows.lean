/-
  NARROWER THAN 'FOR EVERY INPUT', by the rows' own cells (each row's printed sentence says how): MsgTurned: loops · VersionOrder: loops · VersionMerges: loops · MsgBack: loops · MerkleMakes: loops.
  DERIVED. THE GIVEN ROWS OF THIS SEAT. 10 by the template 'for every input the law returns true; each argument reads behind the call as it read before'; 0 by the template 'total and deterministic' (their statements: YtmokhopjnjecbacTotals.lean).
  GIVEN WITH THE SEED: the statements are not yours to turn. If you find one false, say at which input.
  Laid BY PROGRAM, IN A SANDBOX (cutbox-rows.mjs): the forced cells as the released guide's own fill.sh prints them over the translation 1efca5679dbdabc8… (all of the seat's roots in one cut). By AI agents, Wed Nov 11 2026. No macro, syntax, notation, axiom, sorry.
-/
import Derived.Test.YtmokhopjnjecbacChecked
import GoSem.Claim
import GoSem.ClaimJoined
import GoSem.ClaimMapViews
import Derived.JoinedTies
import Derived.KernelRfl
namespace Go.Proofs.Ytmokhopjnjecbac
/- THE CELL 'sum', in the pinned program and in every row, IS THE sha256 OF THE DUMP (.gsa) THAT YtmokhopjnjecbacProg.lean LOADS. Nothing in Lean hashes anything: it is a label: what it is worth is what the hold of that sum in a sandbox is worth. -/
noncomputable def Try.pinned : Pinned := { name := "ytmokhopjnjecbac", sum := "1efca5679dbdabc89584803f294161aea0c608bc9fe3bc40cbf8da528133e5c9", checked := Try.checked }
namespace Rows
def none {H : Type} : Left H := { results := [], args := [] }

/-- 'pedlarlaw06.StampKnows': WHATEVER THE INPUT: true; the input reads as it did. -/
def stampKnowsSpec : ChangeSpec := { name := "stampKnows", fn := fun _ => fun
  | [d] => { results := [.lit (.bool true)], args := [d] }
  | _ => none }
def stampKnowsRow : OpenClaim := { program := "ytmokhopjnjecbac", sum := "1efca5679dbdabc89584803f294161aea0c608bc9fe3bc40cbf8da528133e5c9", func := "pedlar/pedlarlaw06.StampKnows", spec := "stampKnows", recurses := true, apart := false }
def StampKnowsSaid : Prop := stampKnowsRow.holds Try.pinned (OpenSpec.ofChange stampKnowsSpec)

/-- ITS FALSE NEIGHBOUR: 'it returns false'. Refute it at one input. -/
def stampKnowsWrong : ChangeSpec := { name := "stampKnows", fn := fun _ => fun
  | [d] => { results := [.lit (.bool false)], args := [d] }
  | _ => none }
def StampKnowsWrongFalsely : Prop := stampKnowsRow.holds Try.pinned (OpenSpec.ofChange stampKnowsWrong)

/-- 'pedlarlaw09.JournalOdd': WHATEVER THE INPUT: true; the input reads as it did. -/
def journalOddSpec : ChangeSpec := { name := "journalOdd", fn := fun _ => fun
  | [d1, d2, d3] => { results := [.lit (.bool true)], args := [d1, d2, d3] }
  | _ => none }
def journalOddRow : OpenClaim := { program := "ytmokhopjnjecbac", sum := "1efca5679dbdabc89584803f294161aea0c608bc9fe3bc40cbf8da528133e5c9", func := "pedlar/pedlarlaw09.JournalOdd", spec := "journalOdd", apart := false }
def JournalOddSaid : Prop := journalOddRow.holds Try.pinned (OpenSpec.ofChange journalOddSpec)

/-- ITS FALSE NEIGHBOUR: 'it returns false'. Refute it at one input. -/
def journalOddWrong : ChangeSpec := { name := "journalOdd", fn := fun _ => fun
  | [d1, d2, d3] => { results := [.lit (.bool false)], args := [d1, d2, d3] }
  | _ => none }
def JournalOddWrongFalsely : Prop := journalOddRow.holds Try.pinned (OpenSpec.ofChange journalOddWrong)

/-- 'pedlarlaw09.JournalKeeps': WHATEVER THE INPUT: true; the input reads as it did. -/
def journalKeepsSpec : ChangeSpec := { name := "journalKeeps", fn := fun _ => fun
  | [d1, d2, d3] => { results := [.lit (.bool true)], args := [d1, d2, d3] }
  | _ => none }
def journalKeepsRow : OpenClaim := { program := "ytmokhopjnjecbac", sum := "1efca5679dbdabc89584803f294161aea0c608bc9fe3bc40cbf8da528133e5c9", func := "pedlar/pedlarlaw09.JournalKeeps", spec := "journalKeeps", apart := false }
def JournalKeepsSaid : Prop := journalKeepsRow.holds Try.pinned (OpenSpec.ofChange journalKeepsSpec)

/-- ITS FALSE NEIGHBOUR: 'it returns false'. Refute it at one input. -/
def journalKeepsWrong : ChangeSpec := { name := "journalKeeps", fn := fun _ => fun
  | [d1, d2, d3] => { results := [.lit (.bool false)], args := [d1, d2, d3] }
  | _ => none }
def JournalKeepsWrongFalsely : Prop := journalKeepsRow.holds Try.pinned (OpenSpec.ofChange journalKeepsWrong)

/-- 'pedlarlaw09.JournalCrashes': WHATEVER THE INPUT: true; the input reads as it did. -/
def journalCrashesSpec : ChangeSpec := { name := "journalCrashes", fn := fun _ => fun
  | [d1, d2, d3, d4, d5] => { results := [.lit (.bool true)], args := [d1, d2, d3, d4, d5] }
  | _ => none }
def journalCrashesRow : OpenClaim := { program := "ytmokhopjnjecbac", sum := "1efca5679dbdabc89584803f294161aea0c608bc9fe3bc40cbf8da528133e5c9", func := "pedlar/pedlarlaw09.JournalCrashes", spec := "journalCrashes", apart := false }
def JournalCrashesSaid : Prop := journalCrashesRow.holds Try.pinned (OpenSpec.ofChange journalCrashesSpec)

/-- ITS FALSE NEIGHBOUR: 'it returns false'. Refute it at one input. -/
def journalCrashesWrong : ChangeSpec := { name := "journalCrashes", fn := fun _ => fun
  | [d1, d2, d3, d4, d5] => { results := [.lit (.bool false)], args := [d1, d2, d3, d4, d5] }
  | _ => none }
def JournalCrashesWrongFalsely : Prop := journalCrashesRow.holds Try.pinned (OpenSpec.ofChange journalCrashesWrong)

/-- 'pedlarlaw18.MsgHears': WHATEVER THE INPUT: true; the input reads as it did. -/
def msgHearsSpec : ChangeSpec := { name := "msgHears", fn := fun _ => fun
  | [d1, d2] => { results := [.lit (.bool true)], args := [d1, d2] }
  | _ => none }
def msgHearsRow : OpenClaim := { program := "ytmokhopjnjecbac", sum := "1efca5679dbdabc89584803f294161aea0c608bc9fe3bc40cbf8da528133e5c9", func := "pedlar/pedlarlaw18.MsgHears", spec := "msgHears", unfollowed := true, recurses := true, apart := false }
def MsgHearsSaid : Prop := msgHearsRow.holds Try.pinned (OpenSpec.ofChange msgHearsSpec)

/-- ITS FALSE NEIGHBOUR: 'it returns false'. Refute it at one input. -/
def msgHearsWrong : ChangeSpec := { name := "msgHears", fn := fun _ => fun
  | [d1, d2] => { results := [.lit (.bool false)], args := [d1, d2] }
  | _ => none }
def MsgHearsWrongFalsely : Prop := msgHearsRow.holds Try.pinned (OpenSpec.ofChange msgHearsWrong)

/-- 'pedlarlaw18.MsgTurned': WHATEVER THE INPUT: true; the input reads as it did. -/
def msgTurnedSpec : ChangeSpec := { name := "msgTurned", fn := fun _ => fun
  | [d1, d2, d3, d4] => { results := [.lit (.bool true)], args := [d1, d2, d3, d4] }
  | _ => none }
def msgTurnedRow : OpenClaim := { program := "ytmokhopjnjecbac", sum := "1efca5679dbdabc89584803f294161aea0c608bc9fe3bc40cbf8da528133e5c9", func := "pedlar/pedlarlaw18.MsgTurned", spec := "msgTurned", unfollowed := true, recurses := true, loops := true, apart := false }
def MsgTurnedSaid : Prop := msgTurnedRow.holds Try.pinned (OpenSpec.ofChange msgTurnedSpec)

/-- ITS FALSE NEIGHBOUR: 'it returns false'. Refute it at one input. -/
def msgTurnedWrong : ChangeSpec := { name := "msgTurned", fn := fun _ => fun
  | [d1, d2, d3, d4] => { results := [.lit (.bool false)], args := [d1, d2, d3, d4] }
  | _ => none }
def MsgTurnedWrongFalsely : Prop := msgTurnedRow.holds Try.pinned (OpenSpec.ofChange msgTurnedWrong)

/-- 'pedlarlaw07.VersionOrder': WHATEVER THE INPUT: true; the input reads as it did. -/
def versionOrderSpec : ChangeSpec := { name := "versionOrder", fn := fun _ => fun
  | [d1, d2] => { results := [.lit (.bool true)], args := [d1, d2] }
  | _ => none }
def versionOrderRow : OpenClaim := { program := "ytmokhopjnjecbac", sum := "1efca5679dbdabc89584803f294161aea0c608bc9fe3bc40cbf8da528133e5c9", func := "pedlar/pedlarlaw07.VersionOrder", spec := "versionOrder", unfollowed := true, recurses := true, loops := true, apart := false }
def VersionOrderSaid : Prop := versionOrderRow.holds Try.pinned (OpenSpec.ofChange versionOrderSpec)

/-- ITS FALSE NEIGHBOUR: 'it returns false'. Refute it at one input. -/
def versionOrderWrong : ChangeSpec := { name := "versionOrder", fn := fun _ => fun
  | [d1, d2] => { results := [.lit (.bool false)], args := [d1, d2] }
  | _ => none }
def VersionOrderWrongFalsely : Prop := versionOrderRow.holds Try.pinned (OpenSpec.ofChange versionOrderWrong)

/-- 'pedlarlaw07.VersionMerges': WHATEVER THE INPUT: true; the input reads as it did. -/
def versionMergesSpec : ChangeSpec := { name := "versionMerges", fn := fun _ => fun
  | [d] => { results := [.lit (.bool true)], args := [d] }
  | _ => none }
def versionMergesRow : OpenClaim := { program := "ytmokhopjnjecbac", sum := "1efca5679dbdabc89584803f294161aea0c608bc9fe3bc40cbf8da528133e5c9", func := "pedlar/pedlarlaw07.VersionMerges", spec := "versionMerges", unfollowed := true, recurses := true, loops := true, apart := false }
def VersionMergesSaid : Prop := versionMergesRow.holds Try.pinned (OpenSpec.ofChange versionMergesSpec)

/-- ITS FALSE NEIGHBOUR: 'it returns false'. Refute it at one input. -/
def versionMergesWrong : ChangeSpec := { name := "versionMerges", fn := fun _ => fun
  | [d] => { results := [.lit (.bool false)], args := [d] }
  | _ => none }
def VersionMergesWrongFalsely : Prop := versionMergesRow.holds Try.pinned (OpenSpec.ofChange versionMergesWrong)

/-- 'pedlarlaw18.MsgBack': WHATEVER THE INPUT: true; the input reads as it did. -/
def msgBackSpec : ChangeSpec := { name := "msgBack", fn := fun _ => fun
  | [d] => { results := [.lit (.bool true)], args := [d] }
  | _ => none }
def msgBackRow : OpenClaim := { program := "ytmokhopjnjecbac", sum := "1efca5679dbdabc89584803f294161aea0c608bc9fe3bc40cbf8da528133e5c9", func := "pedlar/pedlarlaw18.MsgBack", spec := "msgBack", unfollowed := true, recurses := true, loops := true, apart := false }
def MsgBackSaid : Prop := msgBackRow.holds Try.pinned (OpenSpec.ofChange msgBackSpec)

/-- ITS FALSE NEIGHBOUR: 'it returns false'. Refute it at one input. -/
def msgBackWrong : ChangeSpec := { name := "msgBack", fn := fun _ => fun
  | [d] => { results := [.lit (.bool false)], args := [d] }
  | _ => none }
def MsgBackWrongFalsely : Prop := msgBackRow.holds Try.pinned (OpenSpec.ofChange msgBackWrong)

/-- 'pedlarlaw17.MerkleMakes': WHATEVER THE INPUT: true; the input reads as it did. -/
def merkleMakesSpec : ChangeSpec := { name := "merkleMakes", fn := fun _ => fun
  | [d1, d2] => { results := [.lit (.bool true)], args := [d1, d2] }
  | _ => none }
def merkleMakesRow : OpenClaim := { program := "ytmokhopjnjecbac", sum := "1efca5679dbdabc89584803f294161aea0c608bc9fe3bc40cbf8da528133e5c9", func := "pedlar/pedlarlaw17.MerkleMakes", spec := "merkleMakes", unfollowed := true, recurses := true, loops := true, apart := false }
def MerkleMakesSaid : Prop := merkleMakesRow.holds Try.pinned (OpenSpec.ofChange merkleMakesSpec)

/-- ITS FALSE NEIGHBOUR: 'it returns false'. Refute it at one input. -/
def merkleMakesWrong : ChangeSpec := { name := "merkleMakes", fn := fun _ => fun
  | [d1, d2] => { results := [.lit (.bool false)], args := [d1, d2] }
  | _ => none }
def MerkleMakesWrongFalsely : Prop := merkleMakesRow.holds Try.pinned (OpenSpec.ofChange merkleMakesWrong)

/- THE SECOND FORM. 'bulk': how many values and letters a reading holds, each counted each time it is reached (what is shared counts as often as it is met; a slice's spare places count too). A statement '..UptoSaid' is the law's where the arguments, and the package variables that the reading takes, are together of bulk at most 1048576: NARROWER than '..Said'. Prove '..Said' where nothing that the law and all that it calls make is longer than what came in: it says more and counts as full. Else prove '..UptoSaid'. A law counts once. -/
mutual
def uptoBulk {H : Type} : DataW H → Nat
  | .lit (.string bytes) => bytes.length + 1
  | .lit _ => 1
  | .nil => 1
  | .ptr d => uptoBulk d + 1
  | .slice elems spare => uptoBulkAll elems + uptoBulkAll spare + 1
  | .agg parts => uptoBulkAll parts + 1
  | .iface _ d => uptoBulk d + 1
  | .map entries => uptoBulkEntries entries + 1
  | .held _ => 1
def uptoBulkAll {H : Type} : List (DataW H) → Nat
  | [] => 0
  | d :: r => uptoBulk d + uptoBulkAll r
def uptoBulkEntries {H : Type} : List (Lit × DataW H) → Nat
  | [] => 0
  | x :: r => uptoBulkEntry x + uptoBulkEntries r
def uptoBulkEntry {H : Type} : Lit × DataW H → Nat
  | (.string bytes, d) => bytes.length + uptoBulk d + 1
  | (_, d) => uptoBulk d + 1
 end
def uptoSmall : (H : Type) → List (DataW H) → Bool := fun _ ds => decide (uptoBulkAll ds ≤ 1048576)
def OpenSpec.upto (s : _root_.Go.ChangeSpec) : _root_.Go.OpenSpec := { _root_.Go.OpenSpec.ofChange s with cond := some uptoSmall }

/-- 'pedlarlaw06.StampKnows', WHERE WHAT IT READS IS OF BULK AT MOST 1048576: true; the input reads as it did. -/
def stampKnowsUptoRow : OpenClaim := { program := "ytmokhopjnjecbac", sum := "1efca5679dbdabc89584803f294161aea0c608bc9fe3bc40cbf8da528133e5c9", func := "pedlar/pedlarlaw06.StampKnows", spec := "stampKnows", recurses := true, apart := false, narrowed := true }
def StampKnowsUptoSaid : Prop := stampKnowsUptoRow.holds Try.pinned (OpenSpec.upto stampKnowsSpec)

/-- 'pedlarlaw09.JournalOdd', WHERE WHAT IT READS IS OF BULK AT MOST 1048576: true; the input reads as it did. -/
def journalOddUptoRow : OpenClaim := { program := "ytmokhopjnjecbac", sum := "1efca5679dbdabc89584803f294161aea0c608bc9fe3bc40cbf8da528133e5c9", func := "pedlar/pedlarlaw09.JournalOdd", spec := "journalOdd", apart := false, narrowed := true }
def JournalOddUptoSaid : Prop := journalOddUptoRow.holds Try.pinned (OpenSpec.upto journalOddSpec)

/-- 'pedlarlaw09.JournalKeeps', WHERE WHAT IT READS IS OF BULK AT MOST 1048576: true; the input reads as it did. -/
def journalKeepsUptoRow : OpenClaim := { program := "ytmokhopjnjecbac", sum := "1efca5679dbdabc89584803f294161aea0c608bc9fe3bc40cbf8da528133e5c9", func := "pedlar/pedlarlaw09.JournalKeeps", spec := "journalKeeps", apart := false, narrowed := true }
def JournalKeepsUptoSaid : Prop := journalKeepsUptoRow.holds Try.pinned (OpenSpec.upto journalKeepsSpec)

/-- 'pedlarlaw09.JournalCrashes', WHERE WHAT IT READS IS OF BULK AT MOST 1048576: true; the input reads as it did. -/
def journalCrashesUptoRow : OpenClaim := { program := "ytmokhopjnjecbac", sum := "1efca5679dbdabc89584803f294161aea0c608bc9fe3bc40cbf8da528133e5c9", func := "pedlar/pedlarlaw09.JournalCrashes", spec := "journalCrashes", apart := false, narrowed := true }
def JournalCrashesUptoSaid : Prop := journalCrashesUptoRow.holds Try.pinned (OpenSpec.upto journalCrashesSpec)

/-- 'pedlarlaw18.MsgHears', WHERE WHAT IT READS IS OF BULK AT MOST 1048576: true; the input reads as it did. -/
def msgHearsUptoRow : OpenClaim := { program := "ytmokhopjnjecbac", sum := "1efca5679dbdabc89584803f294161aea0c608bc9fe3bc40cbf8da528133e5c9", func := "pedlar/pedlarlaw18.MsgHears", spec := "msgHears", unfollowed := true, recurses := true, apart := false, narrowed := true }
def MsgHearsUptoSaid : Prop := msgHearsUptoRow.holds Try.pinned (OpenSpec.upto msgHearsSpec)

/-- 'pedlarlaw18.MsgTurned', WHERE WHAT IT READS IS OF BULK AT MOST 1048576: true; the input reads as it did. -/
def msgTurnedUptoRow : OpenClaim := { program := "ytmokhopjnjecbac", sum := "1efca5679dbdabc89584803f294161aea0c608bc9fe3bc40cbf8da528133e5c9", func := "pedlar/pedlarlaw18.MsgTurned", spec := "msgTurned", unfollowed := true, recurses := true, loops := true, apart := false, narrowed := true }
def MsgTurnedUptoSaid : Prop := msgTurnedUptoRow.holds Try.pinned (OpenSpec.upto msgTurnedSpec)

/-- 'pedlarlaw07.VersionOrder', WHERE WHAT IT READS IS OF BULK AT MOST 1048576: true; the input reads as it did. -/
def versionOrderUptoRow : OpenClaim := { program := "ytmokhopjnjecbac", sum := "1efca5679dbdabc89584803f294161aea0c608bc9fe3bc40cbf8da528133e5c9", func := "pedlar/pedlarlaw07.VersionOrder", spec := "versionOrder", unfollowed := true, recurses := true, loops := true, apart := false, narrowed := true }
def VersionOrderUptoSaid : Prop := versionOrderUptoRow.holds Try.pinned (OpenSpec.upto versionOrderSpec)

/-- 'pedlarlaw07.VersionMerges', WHERE WHAT IT READS IS OF BULK AT MOST 1048576: true; the input reads as it did. -/
def versionMergesUptoRow : OpenClaim := { program := "ytmokhopjnjecbac", sum := "1efca5679dbdabc89584803f294161aea0c608bc9fe3bc40cbf8da528133e5c9", func := "pedlar/pedlarlaw07.VersionMerges", spec := "versionMerges", unfollowed := true, recurses := true, loops := true, apart := false, narrowed := true }
def VersionMergesUptoSaid : Prop := versionMergesUptoRow.holds Try.pinned (OpenSpec.upto versionMergesSpec)

/-- 'pedlarlaw18.MsgBack', WHERE WHAT IT READS IS OF BULK AT MOST 1048576: true; the input reads as it did. -/
def msgBackUptoRow : OpenClaim := { program := "ytmokhopjnjecbac", sum := "1efca5679dbdabc89584803f294161aea0c608bc9fe3bc40cbf8da528133e5c9", func := "pedlar/pedlarlaw18.MsgBack", spec := "msgBack", unfollowed := true, recurses := true, loops := true, apart := false, narrowed := true }
def MsgBackUptoSaid : Prop := msgBackUptoRow.holds Try.pinned (OpenSpec.upto msgBackSpec)

/-- 'pedlarlaw17.MerkleMakes', WHERE WHAT IT READS IS OF BULK AT MOST 1048576: true; the input reads as it did. -/
def merkleMakesUptoRow : OpenClaim := { program := "ytmokhopjnjecbac", sum := "1efca5679dbdabc89584803f294161aea0c608bc9fe3bc40cbf8da528133e5c9", func := "pedlar/pedlarlaw17.MerkleMakes", spec := "merkleMakes", unfollowed := true, recurses := true, loops := true, apart := false, narrowed := true }
def MerkleMakesUptoSaid : Prop := merkleMakesUptoRow.holds Try.pinned (OpenSpec.upto merkleMakesSpec)

end Rows
end Go.Proofs.Ytmokhopjnjecbac
