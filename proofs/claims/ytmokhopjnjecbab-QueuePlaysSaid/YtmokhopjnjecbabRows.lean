/-
  NARROWER THAN 'FOR EVERY INPUT', by the rows' own cells (each row's printed sentence says how): IdentSplits: loops · QueuePlays: loops · EventMore: loops · EventJoins: loops · VersionBytes: loops · EventBytes: loops · StampBytes: loops · StampRefuses: loops.
  DERIVED. THE GIVEN ROWS OF THIS SEAT. 10 by the template 'for every input the law returns true; each argument reads behind the call as it read before'; 0 by the template 'total and deterministic' (their statements: YtmokhopjnjecbabTotals.lean).
  GIVEN WITH THE SEED: the statements are not yours to turn. If you find one false, say at which input.
  Laid BY PROGRAM, IN A SANDBOX (cutbox-rows.mjs): the forced cells as the released guide's own fill.sh prints them over the translation 25d06c16ac1be57d… (all of the seat's roots in one cut). By AI agents, Wed Nov 11 2026. No macro, syntax, notation, axiom, sorry.
-/
import Derived.Test.YtmokhopjnjecbabChecked
import GoSem.Claim
import GoSem.ClaimJoined
import GoSem.ClaimMapViews
import Derived.JoinedTies
import Derived.KernelRfl
namespace Go.Proofs.Ytmokhopjnjecbab
/- THE CELL 'sum', in the pinned program and in every row, IS THE sha256 OF THE DUMP (.gsa) THAT YtmokhopjnjecbabProg.lean LOADS. Nothing in Lean hashes anything: it is a label: what it is worth is what the hold of that sum in a sandbox is worth. -/
noncomputable def Try.pinned : Pinned := { name := "ytmokhopjnjecbab", sum := "25d06c16ac1be57d4de6c9c53cde719e6ec8e087c36af79898c7677f25628abc", checked := Try.checked }
namespace Rows
def none {H : Type} : Left H := { results := [], args := [] }

/-- 'pedlarlaw04.IdentSplits': WHATEVER THE INPUT: true; the input reads as it did. -/
def identSplitsSpec : ChangeSpec := { name := "identSplits", fn := fun _ => fun
  | [d] => { results := [.lit (.bool true)], args := [d] }
  | _ => none }
def identSplitsRow : OpenClaim := { program := "ytmokhopjnjecbab", sum := "25d06c16ac1be57d4de6c9c53cde719e6ec8e087c36af79898c7677f25628abc", func := "pedlar/pedlarlaw04.IdentSplits", spec := "identSplits", recurses := true, loops := true, apart := false }
def IdentSplitsSaid : Prop := identSplitsRow.holds Try.pinned (OpenSpec.ofChange identSplitsSpec)

/-- ITS FALSE NEIGHBOUR: 'it returns false'. Refute it at one input. -/
def identSplitsWrong : ChangeSpec := { name := "identSplits", fn := fun _ => fun
  | [d] => { results := [.lit (.bool false)], args := [d] }
  | _ => none }
def IdentSplitsWrongFalsely : Prop := identSplitsRow.holds Try.pinned (OpenSpec.ofChange identSplitsWrong)

/-- 'pedlarlaw11.QueuePlays': WHATEVER THE INPUT: true; the input reads as it did. -/
def queuePlaysSpec : ChangeSpec := { name := "queuePlays", fn := fun _ => fun
  | [d1, d2] => { results := [.lit (.bool true)], args := [d1, d2] }
  | _ => none }
def queuePlaysRow : OpenClaim := { program := "ytmokhopjnjecbab", sum := "25d06c16ac1be57d4de6c9c53cde719e6ec8e087c36af79898c7677f25628abc", func := "pedlar/pedlarlaw11.QueuePlays", spec := "queuePlays", unfollowed := true, recurses := true, loops := true, apart := false }
def QueuePlaysSaid : Prop := queuePlaysRow.holds Try.pinned (OpenSpec.ofChange queuePlaysSpec)

/-- ITS FALSE NEIGHBOUR: 'it returns false'. Refute it at one input. -/
def queuePlaysWrong : ChangeSpec := { name := "queuePlays", fn := fun _ => fun
  | [d1, d2] => { results := [.lit (.bool false)], args := [d1, d2] }
  | _ => none }
def QueuePlaysWrongFalsely : Prop := queuePlaysRow.holds Try.pinned (OpenSpec.ofChange queuePlaysWrong)

/-- 'pedlarlaw05.EventMore': WHATEVER THE INPUT: true; the input reads as it did. -/
def eventMoreSpec : ChangeSpec := { name := "eventMore", fn := fun _ => fun
  | [d1, d2] => { results := [.lit (.bool true)], args := [d1, d2] }
  | _ => none }
def eventMoreRow : OpenClaim := { program := "ytmokhopjnjecbab", sum := "25d06c16ac1be57d4de6c9c53cde719e6ec8e087c36af79898c7677f25628abc", func := "pedlar/pedlarlaw05.EventMore", spec := "eventMore", recurses := true, loops := true, apart := false }
def EventMoreSaid : Prop := eventMoreRow.holds Try.pinned (OpenSpec.ofChange eventMoreSpec)

/-- ITS FALSE NEIGHBOUR: 'it returns false'. Refute it at one input. -/
def eventMoreWrong : ChangeSpec := { name := "eventMore", fn := fun _ => fun
  | [d1, d2] => { results := [.lit (.bool false)], args := [d1, d2] }
  | _ => none }
def EventMoreWrongFalsely : Prop := eventMoreRow.holds Try.pinned (OpenSpec.ofChange eventMoreWrong)

/-- 'pedlarlaw05.EventJoins': WHATEVER THE INPUT: true; the input reads as it did. -/
def eventJoinsSpec : ChangeSpec := { name := "eventJoins", fn := fun _ => fun
  | [d1, d2] => { results := [.lit (.bool true)], args := [d1, d2] }
  | _ => none }
def eventJoinsRow : OpenClaim := { program := "ytmokhopjnjecbab", sum := "25d06c16ac1be57d4de6c9c53cde719e6ec8e087c36af79898c7677f25628abc", func := "pedlar/pedlarlaw05.EventJoins", spec := "eventJoins", recurses := true, loops := true, apart := false }
def EventJoinsSaid : Prop := eventJoinsRow.holds Try.pinned (OpenSpec.ofChange eventJoinsSpec)

/-- ITS FALSE NEIGHBOUR: 'it returns false'. Refute it at one input. -/
def eventJoinsWrong : ChangeSpec := { name := "eventJoins", fn := fun _ => fun
  | [d1, d2] => { results := [.lit (.bool false)], args := [d1, d2] }
  | _ => none }
def EventJoinsWrongFalsely : Prop := eventJoinsRow.holds Try.pinned (OpenSpec.ofChange eventJoinsWrong)

/-- 'pedlarlaw07.VersionBytes': WHATEVER THE INPUT: true; the input reads as it did. -/
def versionBytesSpec : ChangeSpec := { name := "versionBytes", fn := fun _ => fun
  | [d1, d2, d3] => { results := [.lit (.bool true)], args := [d1, d2, d3] }
  | _ => none }
def versionBytesRow : OpenClaim := { program := "ytmokhopjnjecbab", sum := "25d06c16ac1be57d4de6c9c53cde719e6ec8e087c36af79898c7677f25628abc", func := "pedlar/pedlarlaw07.VersionBytes", spec := "versionBytes", recurses := true, loops := true, apart := false }
def VersionBytesSaid : Prop := versionBytesRow.holds Try.pinned (OpenSpec.ofChange versionBytesSpec)

/-- ITS FALSE NEIGHBOUR: 'it returns false'. Refute it at one input. -/
def versionBytesWrong : ChangeSpec := { name := "versionBytes", fn := fun _ => fun
  | [d1, d2, d3] => { results := [.lit (.bool false)], args := [d1, d2, d3] }
  | _ => none }
def VersionBytesWrongFalsely : Prop := versionBytesRow.holds Try.pinned (OpenSpec.ofChange versionBytesWrong)

/-- 'pedlarlaw14.RingLists': WHATEVER THE INPUT: true; the input reads as it did. -/
def ringListsSpec : ChangeSpec := { name := "ringLists", fn := fun _ => fun
  | [d1, d2, d3, d4] => { results := [.lit (.bool true)], args := [d1, d2, d3, d4] }
  | _ => none }
def ringListsRow : OpenClaim := { program := "ytmokhopjnjecbab", sum := "25d06c16ac1be57d4de6c9c53cde719e6ec8e087c36af79898c7677f25628abc", func := "pedlar/pedlarlaw14.RingLists", spec := "ringLists", unfollowed := true, recurses := true, apart := false }
def RingListsSaid : Prop := ringListsRow.holds Try.pinned (OpenSpec.ofChange ringListsSpec)

/-- ITS FALSE NEIGHBOUR: 'it returns false'. Refute it at one input. -/
def ringListsWrong : ChangeSpec := { name := "ringLists", fn := fun _ => fun
  | [d1, d2, d3, d4] => { results := [.lit (.bool false)], args := [d1, d2, d3, d4] }
  | _ => none }
def RingListsWrongFalsely : Prop := ringListsRow.holds Try.pinned (OpenSpec.ofChange ringListsWrong)

/-- 'pedlarlaw05.EventBytes': WHATEVER THE INPUT: true; the input reads as it did. -/
def eventBytesSpec : ChangeSpec := { name := "eventBytes", fn := fun _ => fun
  | [d1, d2] => { results := [.lit (.bool true)], args := [d1, d2] }
  | _ => none }
def eventBytesRow : OpenClaim := { program := "ytmokhopjnjecbab", sum := "25d06c16ac1be57d4de6c9c53cde719e6ec8e087c36af79898c7677f25628abc", func := "pedlar/pedlarlaw05.EventBytes", spec := "eventBytes", recurses := true, loops := true, apart := false }
def EventBytesSaid : Prop := eventBytesRow.holds Try.pinned (OpenSpec.ofChange eventBytesSpec)

/-- ITS FALSE NEIGHBOUR: 'it returns false'. Refute it at one input. -/
def eventBytesWrong : ChangeSpec := { name := "eventBytes", fn := fun _ => fun
  | [d1, d2] => { results := [.lit (.bool false)], args := [d1, d2] }
  | _ => none }
def EventBytesWrongFalsely : Prop := eventBytesRow.holds Try.pinned (OpenSpec.ofChange eventBytesWrong)

/-- 'pedlarlaw06.StampBytes': WHATEVER THE INPUT: true; the input reads as it did. -/
def stampBytesSpec : ChangeSpec := { name := "stampBytes", fn := fun _ => fun
  | [d1, d2] => { results := [.lit (.bool true)], args := [d1, d2] }
  | _ => none }
def stampBytesRow : OpenClaim := { program := "ytmokhopjnjecbab", sum := "25d06c16ac1be57d4de6c9c53cde719e6ec8e087c36af79898c7677f25628abc", func := "pedlar/pedlarlaw06.StampBytes", spec := "stampBytes", recurses := true, loops := true, apart := false }
def StampBytesSaid : Prop := stampBytesRow.holds Try.pinned (OpenSpec.ofChange stampBytesSpec)

/-- ITS FALSE NEIGHBOUR: 'it returns false'. Refute it at one input. -/
def stampBytesWrong : ChangeSpec := { name := "stampBytes", fn := fun _ => fun
  | [d1, d2] => { results := [.lit (.bool false)], args := [d1, d2] }
  | _ => none }
def StampBytesWrongFalsely : Prop := stampBytesRow.holds Try.pinned (OpenSpec.ofChange stampBytesWrong)

/-- 'pedlarlaw10.CacheNil': WHATEVER THE INPUT: true; the input reads as it did. -/
def cacheNilSpec : ChangeSpec := { name := "cacheNil", fn := fun _ => fun
  | [d] => { results := [.lit (.bool true)], args := [d] }
  | _ => none }
def cacheNilRow : OpenClaim := { program := "ytmokhopjnjecbab", sum := "25d06c16ac1be57d4de6c9c53cde719e6ec8e087c36af79898c7677f25628abc", func := "pedlar/pedlarlaw10.CacheNil", spec := "cacheNil", unfollowed := true, recurses := true, apart := false }
def CacheNilSaid : Prop := cacheNilRow.holds Try.pinned (OpenSpec.ofChange cacheNilSpec)

/-- ITS FALSE NEIGHBOUR: 'it returns false'. Refute it at one input. -/
def cacheNilWrong : ChangeSpec := { name := "cacheNil", fn := fun _ => fun
  | [d] => { results := [.lit (.bool false)], args := [d] }
  | _ => none }
def CacheNilWrongFalsely : Prop := cacheNilRow.holds Try.pinned (OpenSpec.ofChange cacheNilWrong)

/-- 'pedlarlaw06.StampRefuses': WHATEVER THE INPUT: true; the input reads as it did. -/
def stampRefusesSpec : ChangeSpec := { name := "stampRefuses", fn := fun _ => fun
  | [d1, d2] => { results := [.lit (.bool true)], args := [d1, d2] }
  | _ => none }
def stampRefusesRow : OpenClaim := { program := "ytmokhopjnjecbab", sum := "25d06c16ac1be57d4de6c9c53cde719e6ec8e087c36af79898c7677f25628abc", func := "pedlar/pedlarlaw06.StampRefuses", spec := "stampRefuses", recurses := true, loops := true, apart := false }
def StampRefusesSaid : Prop := stampRefusesRow.holds Try.pinned (OpenSpec.ofChange stampRefusesSpec)

/-- ITS FALSE NEIGHBOUR: 'it returns false'. Refute it at one input. -/
def stampRefusesWrong : ChangeSpec := { name := "stampRefuses", fn := fun _ => fun
  | [d1, d2] => { results := [.lit (.bool false)], args := [d1, d2] }
  | _ => none }
def StampRefusesWrongFalsely : Prop := stampRefusesRow.holds Try.pinned (OpenSpec.ofChange stampRefusesWrong)

/- THE SECOND FORM. 'bulk': how many values and letters a reading holds, each counted each time it is reached (what is shared counts as often as it is met; a slice's spare places count too). A statement '..UptoSaid' is the law's where the arguments, and the package variables that the reading takes, are together of bulk at most 1048576: NARROWER than '..Said'. Prove '..Said' where nothing that the law and all that it calls make is longer than what came in: it says more and counts as full. Else prove '..UptoSaid'. A law counts once. -/
mutual
def uptoBulk {H : Type} : DataW H → Nat
  | .lit (.string bytes) => bytes.length + 1
  | .lit _ => 1
  | .nil => 1
  | .ptr d => uptoBulk d + 1
  | .slice elems spare => uptoBulkAll elems + uptoBulkAll spare + 1
  | .agg parts => uptoBulkAll parts + 1
  | .iface _ d => uptoBulk d + 1
  | .map entries => uptoBulkEntries entries + 1
  | .held _ => 1
def uptoBulkAll {H : Type} : List (DataW H) → Nat
  | [] => 0
  | d :: r => uptoBulk d + uptoBulkAll r
def uptoBulkEntries {H : Type} : List (Lit × DataW H) → Nat
  | [] => 0
  | x :: r => uptoBulkEntry x + uptoBulkEntries r
def uptoBulkEntry {H : Type} : Lit × DataW H → Nat
  | (.string bytes, d) => bytes.length + uptoBulk d + 1
  | (_, d) => uptoBulk d + 1
 end
def uptoSmall : (H : Type) → List (DataW H) → Bool := fun _ ds => decide (uptoBulkAll ds ≤ 1048576)
def OpenSpec.upto (s : _root_.Go.ChangeSpec) : _root_.Go.OpenSpec := { _root_.Go.OpenSpec.ofChange s with cond := some uptoSmall }

/-- 'pedlarlaw04.IdentSplits', WHERE WHAT IT READS IS OF BULK AT MOST 1048576: true; the input reads as it did. -/
def identSplitsUptoRow : OpenClaim := { program := "ytmokhopjnjecbab", sum := "25d06c16ac1be57d4de6c9c53cde719e6ec8e087c36af79898c7677f25628abc", func := "pedlar/pedlarlaw04.IdentSplits", spec := "identSplits", recurses := true, loops := true, apart := false, narrowed := true }
def IdentSplitsUptoSaid : Prop := identSplitsUptoRow.holds Try.pinned (OpenSpec.upto identSplitsSpec)

/-- 'pedlarlaw11.QueuePlays', WHERE WHAT IT READS IS OF BULK AT MOST 1048576: true; the input reads as it did. -/
def queuePlaysUptoRow : OpenClaim := { program := "ytmokhopjnjecbab", sum := "25d06c16ac1be57d4de6c9c53cde719e6ec8e087c36af79898c7677f25628abc", func := "pedlar/pedlarlaw11.QueuePlays", spec := "queuePlays", unfollowed := true, recurses := true, loops := true, apart := false, narrowed := true }
def QueuePlaysUptoSaid : Prop := queuePlaysUptoRow.holds Try.pinned (OpenSpec.upto queuePlaysSpec)

/-- 'pedlarlaw05.EventMore', WHERE WHAT IT READS IS OF BULK AT MOST 1048576: true; the input reads as it did. -/
def eventMoreUptoRow : OpenClaim := { program := "ytmokhopjnjecbab", sum := "25d06c16ac1be57d4de6c9c53cde719e6ec8e087c36af79898c7677f25628abc", func := "pedlar/pedlarlaw05.EventMore", spec := "eventMore", recurses := true, loops := true, apart := false, narrowed := true }
def EventMoreUptoSaid : Prop := eventMoreUptoRow.holds Try.pinned (OpenSpec.upto eventMoreSpec)

/-- 'pedlarlaw05.EventJoins', WHERE WHAT IT READS IS OF BULK AT MOST 1048576: true; the input reads as it did. -/
def eventJoinsUptoRow : OpenClaim := { program := "ytmokhopjnjecbab", sum := "25d06c16ac1be57d4de6c9c53cde719e6ec8e087c36af79898c7677f25628abc", func := "pedlar/pedlarlaw05.EventJoins", spec := "eventJoins", recurses := true, loops := true, apart := false, narrowed := true }
def EventJoinsUptoSaid : Prop := eventJoinsUptoRow.holds Try.pinned (OpenSpec.upto eventJoinsSpec)

/-- 'pedlarlaw07.VersionBytes', WHERE WHAT IT READS IS OF BULK AT MOST 1048576: true; the input reads as it did. -/
def versionBytesUptoRow : OpenClaim := { program := "ytmokhopjnjecbab", sum := "25d06c16ac1be57d4de6c9c53cde719e6ec8e087c36af79898c7677f25628abc", func := "pedlar/pedlarlaw07.VersionBytes", spec := "versionBytes", recurses := true, loops := true, apart := false, narrowed := true }
def VersionBytesUptoSaid : Prop := versionBytesUptoRow.holds Try.pinned (OpenSpec.upto versionBytesSpec)

/-- 'pedlarlaw14.RingLists', WHERE WHAT IT READS IS OF BULK AT MOST 1048576: true; the input reads as it did. -/
def ringListsUptoRow : OpenClaim := { program := "ytmokhopjnjecbab", sum := "25d06c16ac1be57d4de6c9c53cde719e6ec8e087c36af79898c7677f25628abc", func := "pedlar/pedlarlaw14.RingLists", spec := "ringLists", unfollowed := true, recurses := true, apart := false, narrowed := true }
def RingListsUptoSaid : Prop := ringListsUptoRow.holds Try.pinned (OpenSpec.upto ringListsSpec)

/-- 'pedlarlaw05.EventBytes', WHERE WHAT IT READS IS OF BULK AT MOST 1048576: true; the input reads as it did. -/
def eventBytesUptoRow : OpenClaim := { program := "ytmokhopjnjecbab", sum := "25d06c16ac1be57d4de6c9c53cde719e6ec8e087c36af79898c7677f25628abc", func := "pedlar/pedlarlaw05.EventBytes", spec := "eventBytes", recurses := true, loops := true, apart := false, narrowed := true }
def EventBytesUptoSaid : Prop := eventBytesUptoRow.holds Try.pinned (OpenSpec.upto eventBytesSpec)

/-- 'pedlarlaw06.StampBytes', WHERE WHAT IT READS IS OF BULK AT MOST 1048576: true; the input reads as it did. -/
def stampBytesUptoRow : OpenClaim := { program := "ytmokhopjnjecbab", sum := "25d06c16ac1be57d4de6c9c53cde719e6ec8e087c36af79898c7677f25628abc", func := "pedlar/pedlarlaw06.StampBytes", spec := "stampBytes", recurses := true, loops := true, apart := false, narrowed := true }
def StampBytesUptoSaid : Prop := stampBytesUptoRow.holds Try.pinned (OpenSpec.upto stampBytesSpec)

/-- 'pedlarlaw10.CacheNil', WHERE WHAT IT READS IS OF BULK AT MOST 1048576: true; the input reads as it did. -/
def cacheNilUptoRow : OpenClaim := { program := "ytmokhopjnjecbab", sum := "25d06c16ac1be57d4de6c9c53cde719e6ec8e087c36af79898c7677f25628abc", func := "pedlar/pedlarlaw10.CacheNil", spec := "cacheNil", unfollowed := true, recurses := true, apart := false, narrowed := true }
def CacheNilUptoSaid : Prop := cacheNilUptoRow.holds Try.pinned (OpenSpec.upto cacheNilSpec)

/-- 'pedlarlaw06.StampRefuses', WHERE WHAT IT READS IS OF BULK AT MOST 1048576: true; the input reads as it did. -/
def stampRefusesUptoRow : OpenClaim := { program := "ytmokhopjnjecbab", sum := "25d06c16ac1be57d4de6c9c53cde719e6ec8e087c36af79898c7677f25628abc", func := "pedlar/pedlarlaw06.StampRefuses", spec := "stampRefuses", recurses := true, loops := true, apart := false, narrowed := true }
def StampRefusesUptoSaid : Prop := stampRefusesUptoRow.holds Try.pinned (OpenSpec.upto stampRefusesSpec)

end Rows
end Go.Proofs.Ytmokhopjnjecbab
