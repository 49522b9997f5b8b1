/-
  NARROWER THAN 'FOR EVERY INPUT', by the rows' own cells (each row's printed sentence says how): IdentTells: loops · VersionBehind: loops · IdentJoins: loops · VersionSeen: loops.
  DERIVED. THE GIVEN ROWS OF THIS SEAT. 12 by the template 'for every input the law returns true; each argument reads behind the call as it read before'; 0 by the template 'total and deterministic' (their statements: YtmokhopjnjecbaaTotals.lean).
  GIVEN WITH THE SEED: the statements are not yours to turn. If you find one false, say at which input.
  Laid BY PROGRAM, IN A SANDBOX (cutbox-rows.mjs): the forced cells as the released guide's own fill.sh prints them over the translation 22a4ba73d8575b96… (all of the seat's roots in one cut). By AI agents, Wed Nov 11 2026. No macro, syntax, notation, axiom, sorry.
-/
import Derived.Test.YtmokhopjnjecbaaChecked
import GoSem.Claim
import GoSem.ClaimJoined
import GoSem.ClaimMapViews
import Derived.JoinedTies
import Derived.KernelRfl
namespace Go.Proofs.Ytmokhopjnjecbaa
/- THE CELL 'sum', in the pinned program and in every row, IS THE sha256 OF THE DUMP (.gsa) THAT YtmokhopjnjecbaaProg.lean LOADS. Nothing in Lean hashes anything: it is a label: what it is worth is what the hold of that sum in a sandbox is worth. -/
noncomputable def Try.pinned : Pinned := { name := "ytmokhopjnjecbaa", sum := "22a4ba73d8575b9674dd4ec0352c88fed592ca6d4a379b8c420f5c7a0577df70", checked := Try.checked }
namespace Rows
def none {H : Type} : Left H := { results := [], args := [] }

/-- 'pedlarlaw02.SumIs': WHATEVER THE INPUT: true; the input reads as it did. -/
def sumIsSpec : ChangeSpec := { name := "sumIs", fn := fun _ => fun
  | [d] => { results := [.lit (.bool true)], args := [d] }
  | _ => none }
def sumIsRow : OpenClaim := { program := "ytmokhopjnjecbaa", sum := "22a4ba73d8575b9674dd4ec0352c88fed592ca6d4a379b8c420f5c7a0577df70", func := "pedlar/pedlarlaw02.SumIs", spec := "sumIs", apart := false }
def SumIsSaid : Prop := sumIsRow.holds Try.pinned (OpenSpec.ofChange sumIsSpec)

/-- ITS FALSE NEIGHBOUR: 'it returns false'. Refute it at one input. -/
def sumIsWrong : ChangeSpec := { name := "sumIs", fn := fun _ => fun
  | [d] => { results := [.lit (.bool false)], args := [d] }
  | _ => none }
def SumIsWrongFalsely : Prop := sumIsRow.holds Try.pinned (OpenSpec.ofChange sumIsWrong)

/-- 'pedlarlaw02.SumMixes': WHATEVER THE INPUT: true; the input reads as it did. -/
def sumMixesSpec : ChangeSpec := { name := "sumMixes", fn := fun _ => fun
  | [d1, d2] => { results := [.lit (.bool true)], args := [d1, d2] }
  | _ => none }
def sumMixesRow : OpenClaim := { program := "ytmokhopjnjecbaa", sum := "22a4ba73d8575b9674dd4ec0352c88fed592ca6d4a379b8c420f5c7a0577df70", func := "pedlar/pedlarlaw02.SumMixes", spec := "sumMixes", apart := false }
def SumMixesSaid : Prop := sumMixesRow.holds Try.pinned (OpenSpec.ofChange sumMixesSpec)

/-- ITS FALSE NEIGHBOUR: 'it returns false'. Refute it at one input. -/
def sumMixesWrong : ChangeSpec := { name := "sumMixes", fn := fun _ => fun
  | [d1, d2] => { results := [.lit (.bool false)], args := [d1, d2] }
  | _ => none }
def SumMixesWrongFalsely : Prop := sumMixesRow.holds Try.pinned (OpenSpec.ofChange sumMixesWrong)

/-- 'pedlarlaw03.FrameBack': WHATEVER THE INPUT: true; the input reads as it did. -/
def frameBackSpec : ChangeSpec := { name := "frameBack", fn := fun _ => fun
  | [d] => { results := [.lit (.bool true)], args := [d] }
  | _ => none }
def frameBackRow : OpenClaim := { program := "ytmokhopjnjecbaa", sum := "22a4ba73d8575b9674dd4ec0352c88fed592ca6d4a379b8c420f5c7a0577df70", func := "pedlar/pedlarlaw03.FrameBack", spec := "frameBack", apart := false }
def FrameBackSaid : Prop := frameBackRow.holds Try.pinned (OpenSpec.ofChange frameBackSpec)

/-- ITS FALSE NEIGHBOUR: 'it returns false'. Refute it at one input. -/
def frameBackWrong : ChangeSpec := { name := "frameBack", fn := fun _ => fun
  | [d] => { results := [.lit (.bool false)], args := [d] }
  | _ => none }
def FrameBackWrongFalsely : Prop := frameBackRow.holds Try.pinned (OpenSpec.ofChange frameBackWrong)

/-- 'pedlarlaw03.FrameScans': WHATEVER THE INPUT: true; the input reads as it did. -/
def frameScansSpec : ChangeSpec := { name := "frameScans", fn := fun _ => fun
  | [d1, d2] => { results := [.lit (.bool true)], args := [d1, d2] }
  | _ => none }
def frameScansRow : OpenClaim := { program := "ytmokhopjnjecbaa", sum := "22a4ba73d8575b9674dd4ec0352c88fed592ca6d4a379b8c420f5c7a0577df70", func := "pedlar/pedlarlaw03.FrameScans", spec := "frameScans", apart := false }
def FrameScansSaid : Prop := frameScansRow.holds Try.pinned (OpenSpec.ofChange frameScansSpec)

/-- ITS FALSE NEIGHBOUR: 'it returns false'. Refute it at one input. -/
def frameScansWrong : ChangeSpec := { name := "frameScans", fn := fun _ => fun
  | [d1, d2] => { results := [.lit (.bool false)], args := [d1, d2] }
  | _ => none }
def FrameScansWrongFalsely : Prop := frameScansRow.holds Try.pinned (OpenSpec.ofChange frameScansWrong)

/-- 'pedlarlaw04.IdentTells': WHATEVER THE INPUT: true; the input reads as it did. -/
def identTellsSpec : ChangeSpec := { name := "identTells", fn := fun _ => fun
  | [d1, d2, d3] => { results := [.lit (.bool true)], args := [d1, d2, d3] }
  | _ => none }
def identTellsRow : OpenClaim := { program := "ytmokhopjnjecbaa", sum := "22a4ba73d8575b9674dd4ec0352c88fed592ca6d4a379b8c420f5c7a0577df70", func := "pedlar/pedlarlaw04.IdentTells", spec := "identTells", recurses := true, loops := true, apart := false }
def IdentTellsSaid : Prop := identTellsRow.holds Try.pinned (OpenSpec.ofChange identTellsSpec)

/-- ITS FALSE NEIGHBOUR: 'it returns false'. Refute it at one input. -/
def identTellsWrong : ChangeSpec := { name := "identTells", fn := fun _ => fun
  | [d1, d2, d3] => { results := [.lit (.bool false)], args := [d1, d2, d3] }
  | _ => none }
def IdentTellsWrongFalsely : Prop := identTellsRow.holds Try.pinned (OpenSpec.ofChange identTellsWrong)

/-- 'pedlarlaw01.CodecTakes': WHATEVER THE INPUT: true; the input reads as it did. -/
def codecTakesSpec : ChangeSpec := { name := "codecTakes", fn := fun _ => fun
  | [d1, d2, d3] => { results := [.lit (.bool true)], args := [d1, d2, d3] }
  | _ => none }
def codecTakesRow : OpenClaim := { program := "ytmokhopjnjecbaa", sum := "22a4ba73d8575b9674dd4ec0352c88fed592ca6d4a379b8c420f5c7a0577df70", func := "pedlar/pedlarlaw01.CodecTakes", spec := "codecTakes", apart := false }
def CodecTakesSaid : Prop := codecTakesRow.holds Try.pinned (OpenSpec.ofChange codecTakesSpec)

/-- ITS FALSE NEIGHBOUR: 'it returns false'. Refute it at one input. -/
def codecTakesWrong : ChangeSpec := { name := "codecTakes", fn := fun _ => fun
  | [d1, d2, d3] => { results := [.lit (.bool false)], args := [d1, d2, d3] }
  | _ => none }
def CodecTakesWrongFalsely : Prop := codecTakesRow.holds Try.pinned (OpenSpec.ofChange codecTakesWrong)

/-- 'pedlarlaw07.VersionBehind': WHATEVER THE INPUT: true; the input reads as it did. -/
def versionBehindSpec : ChangeSpec := { name := "versionBehind", fn := fun _ => fun
  | [d1, d2] => { results := [.lit (.bool true)], args := [d1, d2] }
  | _ => none }
def versionBehindRow : OpenClaim := { program := "ytmokhopjnjecbaa", sum := "22a4ba73d8575b9674dd4ec0352c88fed592ca6d4a379b8c420f5c7a0577df70", func := "pedlar/pedlarlaw07.VersionBehind", spec := "versionBehind", recurses := true, loops := true, apart := false }
def VersionBehindSaid : Prop := versionBehindRow.holds Try.pinned (OpenSpec.ofChange versionBehindSpec)

/-- ITS FALSE NEIGHBOUR: 'it returns false'. Refute it at one input. -/
def versionBehindWrong : ChangeSpec := { name := "versionBehind", fn := fun _ => fun
  | [d1, d2] => { results := [.lit (.bool false)], args := [d1, d2] }
  | _ => none }
def VersionBehindWrongFalsely : Prop := versionBehindRow.holds Try.pinned (OpenSpec.ofChange versionBehindWrong)

/-- 'pedlarlaw19.NetPlays': WHATEVER THE INPUT: true; the input reads as it did. -/
def netPlaysSpec : ChangeSpec := { name := "netPlays", fn := fun _ => fun
  | [d] => { results := [.lit (.bool true)], args := [d] }
  | _ => none }
def netPlaysRow : OpenClaim := { program := "ytmokhopjnjecbaa", sum := "22a4ba73d8575b9674dd4ec0352c88fed592ca6d4a379b8c420f5c7a0577df70", func := "pedlar/pedlarlaw19.NetPlays", spec := "netPlays", apart := false }
def NetPlaysSaid : Prop := netPlaysRow.holds Try.pinned (OpenSpec.ofChange netPlaysSpec)

/-- ITS FALSE NEIGHBOUR: 'it returns false'. Refute it at one input. -/
def netPlaysWrong : ChangeSpec := { name := "netPlays", fn := fun _ => fun
  | [d] => { results := [.lit (.bool false)], args := [d] }
  | _ => none }
def NetPlaysWrongFalsely : Prop := netPlaysRow.holds Try.pinned (OpenSpec.ofChange netPlaysWrong)

/-- 'pedlarlaw04.IdentJoins': WHATEVER THE INPUT: true; the input reads as it did. -/
def identJoinsSpec : ChangeSpec := { name := "identJoins", fn := fun _ => fun
  | [d1, d2] => { results := [.lit (.bool true)], args := [d1, d2] }
  | _ => none }
def identJoinsRow : OpenClaim := { program := "ytmokhopjnjecbaa", sum := "22a4ba73d8575b9674dd4ec0352c88fed592ca6d4a379b8c420f5c7a0577df70", func := "pedlar/pedlarlaw04.IdentJoins", spec := "identJoins", recurses := true, loops := true, apart := false }
def IdentJoinsSaid : Prop := identJoinsRow.holds Try.pinned (OpenSpec.ofChange identJoinsSpec)

/-- ITS FALSE NEIGHBOUR: 'it returns false'. Refute it at one input. -/
def identJoinsWrong : ChangeSpec := { name := "identJoins", fn := fun _ => fun
  | [d1, d2] => { results := [.lit (.bool false)], args := [d1, d2] }
  | _ => none }
def IdentJoinsWrongFalsely : Prop := identJoinsRow.holds Try.pinned (OpenSpec.ofChange identJoinsWrong)

/-- 'pedlarlaw01.CodecNil': WHATEVER THE INPUT: true; the input reads as it did. -/
def codecNilSpec : ChangeSpec := { name := "codecNil", fn := fun _ => fun
  | [d] => { results := [.lit (.bool true)], args := [d] }
  | _ => none }
def codecNilRow : OpenClaim := { program := "ytmokhopjnjecbaa", sum := "22a4ba73d8575b9674dd4ec0352c88fed592ca6d4a379b8c420f5c7a0577df70", func := "pedlar/pedlarlaw01.CodecNil", spec := "codecNil", apart := false }
def CodecNilSaid : Prop := codecNilRow.holds Try.pinned (OpenSpec.ofChange codecNilSpec)

/-- ITS FALSE NEIGHBOUR: 'it returns false'. Refute it at one input. -/
def codecNilWrong : ChangeSpec := { name := "codecNil", fn := fun _ => fun
  | [d] => { results := [.lit (.bool false)], args := [d] }
  | _ => none }
def CodecNilWrongFalsely : Prop := codecNilRow.holds Try.pinned (OpenSpec.ofChange codecNilWrong)

/-- 'pedlarlaw01.CodecBack': WHATEVER THE INPUT: true; the input reads as it did. -/
def codecBackSpec : ChangeSpec := { name := "codecBack", fn := fun _ => fun
  | [d] => { results := [.lit (.bool true)], args := [d] }
  | _ => none }
def codecBackRow : OpenClaim := { program := "ytmokhopjnjecbaa", sum := "22a4ba73d8575b9674dd4ec0352c88fed592ca6d4a379b8c420f5c7a0577df70", func := "pedlar/pedlarlaw01.CodecBack", spec := "codecBack", apart := false }
def CodecBackSaid : Prop := codecBackRow.holds Try.pinned (OpenSpec.ofChange codecBackSpec)

/-- ITS FALSE NEIGHBOUR: 'it returns false'. Refute it at one input. -/
def codecBackWrong : ChangeSpec := { name := "codecBack", fn := fun _ => fun
  | [d] => { results := [.lit (.bool false)], args := [d] }
  | _ => none }
def CodecBackWrongFalsely : Prop := codecBackRow.holds Try.pinned (OpenSpec.ofChange codecBackWrong)

/-- 'pedlarlaw07.VersionSeen': WHATEVER THE INPUT: true; the input reads as it did. -/
def versionSeenSpec : ChangeSpec := { name := "versionSeen", fn := fun _ => fun
  | [d] => { results := [.lit (.bool true)], args := [d] }
  | _ => none }
def versionSeenRow : OpenClaim := { program := "ytmokhopjnjecbaa", sum := "22a4ba73d8575b9674dd4ec0352c88fed592ca6d4a379b8c420f5c7a0577df70", func := "pedlar/pedlarlaw07.VersionSeen", spec := "versionSeen", recurses := true, loops := true, apart := false }
def VersionSeenSaid : Prop := versionSeenRow.holds Try.pinned (OpenSpec.ofChange versionSeenSpec)

/-- ITS FALSE NEIGHBOUR: 'it returns false'. Refute it at one input. -/
def versionSeenWrong : ChangeSpec := { name := "versionSeen", fn := fun _ => fun
  | [d] => { results := [.lit (.bool false)], args := [d] }
  | _ => none }
def VersionSeenWrongFalsely : Prop := versionSeenRow.holds Try.pinned (OpenSpec.ofChange versionSeenWrong)

/- THE SECOND FORM. 'bulk': how many values and letters a reading holds, each counted each time it is reached (what is shared counts as often as it is met; a slice's spare places count too). A statement '..UptoSaid' is the law's where the arguments, and the package variables that the reading takes, are together of bulk at most 1048576: NARROWER than '..Said'. Prove '..Said' where nothing that the law and all that it calls make is longer than what came in: it says more and counts as full. Else prove '..UptoSaid'. A law counts once. -/
mutual
def uptoBulk {H : Type} : DataW H → Nat
  | .lit (.string bytes) => bytes.length + 1
  | .lit _ => 1
  | .nil => 1
  | .ptr d => uptoBulk d + 1
  | .slice elems spare => uptoBulkAll elems + uptoBulkAll spare + 1
  | .agg parts => uptoBulkAll parts + 1
  | .iface _ d => uptoBulk d + 1
  | .map entries => uptoBulkEntries entries + 1
  | .held _ => 1
def uptoBulkAll {H : Type} : List (DataW H) → Nat
  | [] => 0
  | d :: r => uptoBulk d + uptoBulkAll r
def uptoBulkEntries {H : Type} : List (Lit × DataW H) → Nat
  | [] => 0
  | x :: r => uptoBulkEntry x + uptoBulkEntries r
def uptoBulkEntry {H : Type} : Lit × DataW H → Nat
  | (.string bytes, d) => bytes.length + uptoBulk d + 1
  | (_, d) => uptoBulk d + 1
 end
def uptoSmall : (H : Type) → List (DataW H) → Bool := fun _ ds => decide (uptoBulkAll ds ≤ 1048576)
def OpenSpec.upto (s : _root_.Go.ChangeSpec) : _root_.Go.OpenSpec := { _root_.Go.OpenSpec.ofChange s with cond := some uptoSmall }

/-- 'pedlarlaw02.SumIs', WHERE WHAT IT READS IS OF BULK AT MOST 1048576: true; the input reads as it did. -/
def sumIsUptoRow : OpenClaim := { program := "ytmokhopjnjecbaa", sum := "22a4ba73d8575b9674dd4ec0352c88fed592ca6d4a379b8c420f5c7a0577df70", func := "pedlar/pedlarlaw02.SumIs", spec := "sumIs", apart := false, narrowed := true }
def SumIsUptoSaid : Prop := sumIsUptoRow.holds Try.pinned (OpenSpec.upto sumIsSpec)

/-- 'pedlarlaw02.SumMixes', WHERE WHAT IT READS IS OF BULK AT MOST 1048576: true; the input reads as it did. -/
def sumMixesUptoRow : OpenClaim := { program := "ytmokhopjnjecbaa", sum := "22a4ba73d8575b9674dd4ec0352c88fed592ca6d4a379b8c420f5c7a0577df70", func := "pedlar/pedlarlaw02.SumMixes", spec := "sumMixes", apart := false, narrowed := true }
def SumMixesUptoSaid : Prop := sumMixesUptoRow.holds Try.pinned (OpenSpec.upto sumMixesSpec)

/-- 'pedlarlaw03.FrameBack', WHERE WHAT IT READS IS OF BULK AT MOST 1048576: true; the input reads as it did. -/
def frameBackUptoRow : OpenClaim := { program := "ytmokhopjnjecbaa", sum := "22a4ba73d8575b9674dd4ec0352c88fed592ca6d4a379b8c420f5c7a0577df70", func := "pedlar/pedlarlaw03.FrameBack", spec := "frameBack", apart := false, narrowed := true }
def FrameBackUptoSaid : Prop := frameBackUptoRow.holds Try.pinned (OpenSpec.upto frameBackSpec)

/-- 'pedlarlaw03.FrameScans', WHERE WHAT IT READS IS OF BULK AT MOST 1048576: true; the input reads as it did. -/
def frameScansUptoRow : OpenClaim := { program := "ytmokhopjnjecbaa", sum := "22a4ba73d8575b9674dd4ec0352c88fed592ca6d4a379b8c420f5c7a0577df70", func := "pedlar/pedlarlaw03.FrameScans", spec := "frameScans", apart := false, narrowed := true }
def FrameScansUptoSaid : Prop := frameScansUptoRow.holds Try.pinned (OpenSpec.upto frameScansSpec)

/-- 'pedlarlaw04.IdentTells', WHERE WHAT IT READS IS OF BULK AT MOST 1048576: true; the input reads as it did. -/
def identTellsUptoRow : OpenClaim := { program := "ytmokhopjnjecbaa", sum := "22a4ba73d8575b9674dd4ec0352c88fed592ca6d4a379b8c420f5c7a0577df70", func := "pedlar/pedlarlaw04.IdentTells", spec := "identTells", recurses := true, loops := true, apart := false, narrowed := true }
def IdentTellsUptoSaid : Prop := identTellsUptoRow.holds Try.pinned (OpenSpec.upto identTellsSpec)

/-- 'pedlarlaw01.CodecTakes', WHERE WHAT IT READS IS OF BULK AT MOST 1048576: true; the input reads as it did. -/
def codecTakesUptoRow : OpenClaim := { program := "ytmokhopjnjecbaa", sum := "22a4ba73d8575b9674dd4ec0352c88fed592ca6d4a379b8c420f5c7a0577df70", func := "pedlar/pedlarlaw01.CodecTakes", spec := "codecTakes", apart := false, narrowed := true }
def CodecTakesUptoSaid : Prop := codecTakesUptoRow.holds Try.pinned (OpenSpec.upto codecTakesSpec)

/-- 'pedlarlaw07.VersionBehind', WHERE WHAT IT READS IS OF BULK AT MOST 1048576: true; the input reads as it did. -/
def versionBehindUptoRow : OpenClaim := { program := "ytmokhopjnjecbaa", sum := "22a4ba73d8575b9674dd4ec0352c88fed592ca6d4a379b8c420f5c7a0577df70", func := "pedlar/pedlarlaw07.VersionBehind", spec := "versionBehind", recurses := true, loops := true, apart := false, narrowed := true }
def VersionBehindUptoSaid : Prop := versionBehindUptoRow.holds Try.pinned (OpenSpec.upto versionBehindSpec)

/-- 'pedlarlaw19.NetPlays', WHERE WHAT IT READS IS OF BULK AT MOST 1048576: true; the input reads as it did. -/
def netPlaysUptoRow : OpenClaim := { program := "ytmokhopjnjecbaa", sum := "22a4ba73d8575b9674dd4ec0352c88fed592ca6d4a379b8c420f5c7a0577df70", func := "pedlar/pedlarlaw19.NetPlays", spec := "netPlays", apart := false, narrowed := true }
def NetPlaysUptoSaid : Prop := netPlaysUptoRow.holds Try.pinned (OpenSpec.upto netPlaysSpec)

/-- 'pedlarlaw04.IdentJoins', WHERE WHAT IT READS IS OF BULK AT MOST 1048576: true; the input reads as it did. -/
def identJoinsUptoRow : OpenClaim := { program := "ytmokhopjnjecbaa", sum := "22a4ba73d8575b9674dd4ec0352c88fed592ca6d4a379b8c420f5c7a0577df70", func := "pedlar/pedlarlaw04.IdentJoins", spec := "identJoins", recurses := true, loops := true, apart := false, narrowed := true }
def IdentJoinsUptoSaid : Prop := identJoinsUptoRow.holds Try.pinned (OpenSpec.upto identJoinsSpec)

/-- 'pedlarlaw01.CodecNil', WHERE WHAT IT READS IS OF BULK AT MOST 1048576: true; the input reads as it did. -/
def codecNilUptoRow : OpenClaim := { program := "ytmokhopjnjecbaa", sum := "22a4ba73d8575b9674dd4ec0352c88fed592ca6d4a379b8c420f5c7a0577df70", func := "pedlar/pedlarlaw01.CodecNil", spec := "codecNil", apart := false, narrowed := true }
def CodecNilUptoSaid : Prop := codecNilUptoRow.holds Try.pinned (OpenSpec.upto codecNilSpec)

/-- 'pedlarlaw01.CodecBack', WHERE WHAT IT READS IS OF BULK AT MOST 1048576: true; the input reads as it did. -/
def codecBackUptoRow : OpenClaim := { program := "ytmokhopjnjecbaa", sum := "22a4ba73d8575b9674dd4ec0352c88fed592ca6d4a379b8c420f5c7a0577df70", func := "pedlar/pedlarlaw01.CodecBack", spec := "codecBack", apart := false, narrowed := true }
def CodecBackUptoSaid : Prop := codecBackUptoRow.holds Try.pinned (OpenSpec.upto codecBackSpec)

/-- 'pedlarlaw07.VersionSeen', WHERE WHAT IT READS IS OF BULK AT MOST 1048576: true; the input reads as it did. -/
def versionSeenUptoRow : OpenClaim := { program := "ytmokhopjnjecbaa", sum := "22a4ba73d8575b9674dd4ec0352c88fed592ca6d4a379b8c420f5c7a0577df70", func := "pedlar/pedlarlaw07.VersionSeen", spec := "versionSeen", recurses := true, loops := true, apart := false, narrowed := true }
def VersionSeenUptoSaid : Prop := versionSeenUptoRow.holds Try.pinned (OpenSpec.upto versionSeenSpec)

end Rows
end Go.Proofs.Ytmokhopjnjecbaa
