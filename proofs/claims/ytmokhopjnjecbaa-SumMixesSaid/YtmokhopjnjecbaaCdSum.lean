/- The functions' bodies, compiled; printed by a program of mine (gen.py); that they are is checked here. -/
import Derived.Test.YtmokhopjnjecbaaRows
import Derived.Test.YtmokhopjnjecbaaEvP
import Derived.Eval
import Derived.KernelRfl
namespace Go.Proofs.Ytmokhopjnjecbaa
open Go.Ev
set_option maxRecDepth 100000

/-- pedlar/sum.add: parameters [24, 5], calls [] -/
def c79_l0 : Cd := (.seq (.reg [⟨(some 11), none, (.bin .lss), [.t 10, .c (.int .i64 8)]⟩]) (.seq (.cond (.t 11) .skip (.exit 0)) (.seq (.blk 1 (.seq (.reg [⟨(some 12), none, .mv, [.t 0]⟩, ⟨(some 13), none, (.bin .and), [.t 12, .c (.int .u32 1)]⟩, ⟨(some 14), none, (.bin .eql), [.t 13, .c (.int .u32 1)]⟩, ⟨(some 5), none, .mv, [.t 14]⟩]) (.seq (.reg [⟨(some 15), none, .mv, [.t 0]⟩, ⟨(some 16), none, (.bin .shr), [.t 15, .c (.int .u64 1)]⟩, ⟨(some 0), none, .mv, [.t 16]⟩]) (.seq (.reg [⟨(some 17), none, .mv, [.t 5]⟩]) (.cond (.t 17) (.reg [⟨(some 18), none, .mv, [.t 0]⟩, ⟨(some 19), none, (.bin .xor), [.t 18, .c (.int .u32 2197175160)]⟩, ⟨(some 0), none, .mv, [.t 19]⟩]) .skip))))) (.reg [⟨(some 20), none, (.bin .add), [.t 10, .c (.int .i64 1)]⟩, ⟨(some 10), none, .mv, [.t 20]⟩]))))
def c79_k0 : Cd := (.seq (.reg [⟨(some 21), none, .mv, [.t 0]⟩, ⟨(some 4), none, .mv, [.t 21]⟩]) .ret)
def c79 : Cd := (.seq (.reg [⟨(some 4), none, .mv, [.c (.int .u32 0)]⟩]) (.seq (.reg [⟨(some 6), none, .mv, [.t 0]⟩, ⟨(some 7), none, .mv, [.t 1]⟩, ⟨(some 8), none, (.conv .u32), [.t 7]⟩, ⟨(some 9), none, (.bin .xor), [.t 6, .t 8]⟩, ⟨(some 0), none, .mv, [.t 9]⟩]) (.seq (.seq (.reg [⟨(some 10), none, .mv, [.c (.int .i64 0)]⟩]) (.blk 0 (.loop c79_l0))) c79_k0)))
theorem comp79 : compF Try.prog (mset [] []) (cset [] []) Try.f79 = some c79 := by kernel_rfl
theorem ok79 : fnOk Try.prog 79 = true := by kernel_rfl
theorem calls79 {args : List AV} {r : AV} (h : RunsX Try.prog 0 (Gives [4] r) [.c c79] (args ++ List.replicate (22 - args.length) (.tup [])) [] 0) : PCalls Try.prog 79 args r :=
  pcallsF Try.checked.mixed Try.func79 ok79 comp79 rfl (rs := [4]) rfl h
theorem hcalls79 {args : List AV} {Hin Hout : Heap} {nx nx2 : Nat} {r : AV} (φ : Nat) (ks : List (Nat × Nat)) (h : RunsX Try.prog φ (GivesH ks [4] r Hout nx2) [.c c79] (args ++ List.replicate (22 - args.length) (.tup [])) Hin nx) : HCalls Try.prog 79 args Hin nx r Hout nx2 :=
  hcallsF Try.checked.mixed Try.func79 ok79 comp79 rfl (rs := [4]) rfl φ ks h

/-- pedlar/sum.CRC: parameters [22], calls [79] -/
def c16_l0 : Cd := (.seq (.reg [⟨(some 9), none, (.bin .lss), [.t 8, .t 7]⟩]) (.seq (.cond (.t 9) .skip (.exit 0)) (.seq (.blk 1 (.seq (.reg [⟨(some 10), none, (.ixS 1), [.t 6, .t 8]⟩, ⟨(some 11), none, .ld1, [.t 10]⟩, ⟨(some 5), none, .mv, [.t 11]⟩]) (.reg [⟨(some 12), none, .mv, [.t 3]⟩, ⟨(some 13), none, .mv, [.t 5]⟩, ⟨(some 14), none, (.call 79 0), [.t 12, .t 13]⟩, ⟨(some 3), none, .mv, [.t 14]⟩]))) (.reg [⟨(some 15), none, (.bin .add), [.t 8, .c (.int .i64 1)]⟩, ⟨(some 8), none, .mv, [.t 15]⟩]))))
def c16_k0 : Cd := (.seq (.reg [⟨(some 16), none, .mv, [.t 3]⟩, ⟨(some 17), none, (.bin .xor), [.t 16, .c (.int .u32 4294967295)]⟩, ⟨(some 2), none, .mv, [.t 17]⟩]) .ret)
def c16 : Cd := (.seq (.reg [⟨(some 2), none, .mv, [.c (.int .u32 0)]⟩]) (.seq (.reg [⟨(some 3), none, .mv, [.c (.int .u32 4294967295)]⟩]) (.seq (.seq (.reg [⟨(some 6), none, .mv, [.t 0]⟩, ⟨(some 7), none, .len, [.t 6]⟩, ⟨(some 8), none, .mv, [.c (.int .i64 0)]⟩]) (.blk 0 (.loop c16_l0))) c16_k0)))
theorem comp16 : compF Try.prog (mset [] []) (cset [] []) Try.f16 = some c16 := by kernel_rfl
theorem ok16 : fnOk Try.prog 16 = true := by kernel_rfl
theorem calls16 {args : List AV} {r : AV} (h : RunsX Try.prog 0 (Gives [2] r) [.c c16] (args ++ List.replicate (18 - args.length) (.tup [])) [] 0) : PCalls Try.prog 16 args r :=
  pcallsF Try.checked.mixed Try.func16 ok16 comp16 rfl (rs := [2]) rfl h
theorem hcalls16 {args : List AV} {Hin Hout : Heap} {nx nx2 : Nat} {r : AV} (φ : Nat) (ks : List (Nat × Nat)) (h : RunsX Try.prog φ (GivesH ks [2] r Hout nx2) [.c c16] (args ++ List.replicate (18 - args.length) (.tup [])) Hin nx) : HCalls Try.prog 16 args Hin nx r Hout nx2 :=
  hcallsF Try.checked.mixed Try.func16 ok16 comp16 rfl (rs := [2]) rfl φ ks h

/-- pedlar/pedlarref01.CRC: parameters [22], calls [] -/
def c17_l0 : Cd := (.seq (.reg [⟨(some 13), none, (.bin .lss), [.t 12, .c (.int .i64 8)]⟩]) (.seq (.cond (.t 13) .skip (.exit 2)) (.seq (.blk 3 (.seq (.reg [⟨(some 14), none, .mv, [.t 12]⟩, ⟨(some 5), none, .mv, [.t 14]⟩]) (.seq (.reg [⟨(some 15), none, .mv, [.t 3]⟩, ⟨(some 16), none, (.bin .rem), [.t 15, .c (.int .u64 2)]⟩, ⟨(some 17), none, .mv, [.t 0]⟩, ⟨(some 18), none, .mv, [.t 4]⟩, ⟨(some 19), none, (.ixS 1), [.t 17, .t 18]⟩, ⟨(some 20), none, .ld1, [.t 19]⟩, ⟨(some 21), none, .mv, [.t 5]⟩, ⟨(some 22), none, (.conv .u64), [.t 21]⟩, ⟨(some 23), none, (.bin .shr), [.t 20, .t 22]⟩, ⟨(some 24), none, (.bin .and), [.t 23, .c (.int .u8 1)]⟩, ⟨(some 25), none, (.conv .u64), [.t 24]⟩, ⟨(some 26), none, (.bin .xor), [.t 16, .t 25]⟩, ⟨(some 6), none, .mv, [.t 26]⟩]) (.seq (.reg [⟨(some 27), none, .mv, [.t 3]⟩, ⟨(some 28), none, (.bin .quo), [.t 27, .c (.int .u64 2)]⟩, ⟨(some 3), none, .mv, [.t 28]⟩]) (.seq (.reg [⟨(some 29), none, .mv, [.t 6]⟩, ⟨(some 30), none, (.bin .eql), [.t 29, .c (.int .u64 1)]⟩]) (.cond (.t 30) (.reg [⟨(some 31), none, .mv, [.t 3]⟩, ⟨(some 32), none, (.bin .xor), [.t 31, .c (.int .u64 2197175160)]⟩, ⟨(some 3), none, .mv, [.t 32]⟩]) .skip)))))) (.reg [⟨(some 33), none, (.bin .add), [.t 12, .c (.int .i64 1)]⟩, ⟨(some 12), none, .mv, [.t 33]⟩]))))
def c17_k0 : Cd := (.reg [⟨(some 34), none, (.bin .add), [.t 9, .c (.int .i64 1)]⟩, ⟨(some 9), none, .mv, [.t 34]⟩])
def c17_l1 : Cd := (.seq (.reg [⟨(some 10), none, (.bin .lss), [.t 9, .t 8]⟩]) (.seq (.cond (.t 10) .skip (.exit 0)) (.seq (.blk 1 (.seq (.reg [⟨(some 11), none, .mv, [.t 9]⟩, ⟨(some 4), none, .mv, [.t 11]⟩]) (.seq (.reg [⟨(some 12), none, .mv, [.c (.int .i64 0)]⟩]) (.blk 2 (.loop c17_l0))))) c17_k0)))
def c17_k1 : Cd := (.seq (.reg [⟨(some 35), none, .mv, [.t 3]⟩, ⟨(some 36), none, (.bin .xor), [.t 35, .c (.int .u64 4294967295)]⟩, ⟨(some 37), none, (.conv .u32), [.t 36]⟩, ⟨(some 2), none, .mv, [.t 37]⟩]) .ret)
def c17 : Cd := (.seq (.reg [⟨(some 2), none, .mv, [.c (.int .u32 0)]⟩]) (.seq (.reg [⟨(some 3), none, .mv, [.c (.int .u64 4294967295)]⟩]) (.seq (.seq (.reg [⟨(some 7), none, .mv, [.t 0]⟩, ⟨(some 8), none, .len, [.t 7]⟩, ⟨(some 9), none, .mv, [.c (.int .i64 0)]⟩]) (.blk 0 (.loop c17_l1))) c17_k1)))
theorem comp17 : compF Try.prog (mset [] []) (cset [] []) Try.f17 = some c17 := by kernel_rfl
theorem ok17 : fnOk Try.prog 17 = true := by kernel_rfl
theorem calls17 {args : List AV} {r : AV} (h : RunsX Try.prog 0 (Gives [2] r) [.c c17] (args ++ List.replicate (38 - args.length) (.tup [])) [] 0) : PCalls Try.prog 17 args r :=
  pcallsF Try.checked.mixed Try.func17 ok17 comp17 rfl (rs := [2]) rfl h
theorem hcalls17 {args : List AV} {Hin Hout : Heap} {nx nx2 : Nat} {r : AV} (φ : Nat) (ks : List (Nat × Nat)) (h : RunsX Try.prog φ (GivesH ks [2] r Hout nx2) [.c c17] (args ++ List.replicate (38 - args.length) (.tup [])) Hin nx) : HCalls Try.prog 17 args Hin nx r Hout nx2 :=
  hcallsF Try.checked.mixed Try.func17 ok17 comp17 rfl (rs := [2]) rfl φ ks h

/-- pedlar/pedlarlaw02.awake: parameters [], calls [16] -/
def c15 : Cd := (.seq (.reg [⟨(some 0), none, .mv, [.c (.bool false)]⟩]) (.seq (.reg [⟨(some 1), none, (.litm 1 9 1), [.c (.int .u8 49), .c (.int .u8 50), .c (.int .u8 51), .c (.int .u8 52), .c (.int .u8 53), .c (.int .u8 54), .c (.int .u8 55), .c (.int .u8 56), .c (.int .u8 57)]⟩, ⟨(some 2), none, .s2s, [.t 1]⟩, ⟨(some 3), none, (.call 16 0), [.t 2]⟩, ⟨(some 4), none, (.bin .eql), [.t 3, .c (.int .u32 3808858755)]⟩, ⟨(some 0), none, .mv, [.t 4]⟩]) .ret))
theorem comp15 : compF Try.prog (mset [1] []) (cset [] []) Try.f15 = some c15 := by kernel_rfl
theorem ok15 : fnOk Try.prog 15 = true := by kernel_rfl
theorem calls15 {args : List AV} {r : AV} (h : RunsX Try.prog 0 (Gives [0] r) [.c c15] (args ++ List.replicate (5 - args.length) (.tup [])) [] 0) : PCalls Try.prog 15 args r :=
  pcallsF Try.checked.mixed Try.func15 ok15 comp15 rfl (rs := [0]) rfl h
theorem hcalls15 {args : List AV} {Hin Hout : Heap} {nx nx2 : Nat} {r : AV} (φ : Nat) (ks : List (Nat × Nat)) (h : RunsX Try.prog φ (GivesH ks [0] r Hout nx2) [.c c15] (args ++ List.replicate (5 - args.length) (.tup [])) Hin nx) : HCalls Try.prog 15 args Hin nx r Hout nx2 :=
  hcallsF Try.checked.mixed Try.func15 ok15 comp15 rfl (rs := [0]) rfl φ ks h

/-- pedlar/pedlarlaw02.SumIs: parameters [22], calls [15, 16, 17] -/
def c3 : Cd := (.seq (.reg [⟨(some 2), none, .mv, [.c (.bool false)]⟩]) (.seq (.seq (.reg [⟨(some 3), none, (.call 15 0), []⟩, ⟨(some 4), none, .not, [.t 3]⟩, ⟨(some 5), none, .mv, [.t 4]⟩, ⟨(some 6), (some (5, false)), .mv, [.t 0]⟩, ⟨(some 7), (some (5, false)), .len, [.t 6]⟩, ⟨(some 8), (some (5, false)), (.bin .gtr), [.t 7, .c (.int .i64 20000)]⟩, ⟨(some 9), none, .pick, [.t 5, .c (.bool true), .t 8]⟩]) (.cond (.t 9) (.seq (.reg [⟨(some 10), none, (.call 15 0), []⟩, ⟨(some 2), none, .mv, [.t 10]⟩]) .ret) .skip)) (.seq (.reg [⟨(some 11), none, .mv, [.t 0]⟩, ⟨(some 12), none, (.call 16 0), [.t 11]⟩, ⟨(some 13), none, .mv, [.t 0]⟩, ⟨(some 14), none, (.call 17 0), [.t 13]⟩, ⟨(some 15), none, (.bin .eql), [.t 12, .t 14]⟩, ⟨(some 2), none, .mv, [.t 15]⟩]) .ret)))
theorem comp3 : compF Try.prog (mset [] []) (cset [] []) Try.f3 = some c3 := by kernel_rfl
theorem ok3 : fnOk Try.prog 3 = true := by kernel_rfl
theorem calls3 {args : List AV} {r : AV} (h : RunsX Try.prog 0 (Gives [2] r) [.c c3] (args ++ List.replicate (16 - args.length) (.tup [])) [] 0) : PCalls Try.prog 3 args r :=
  pcallsF Try.checked.mixed Try.func3 ok3 comp3 rfl (rs := [2]) rfl h
theorem hcalls3 {args : List AV} {Hin Hout : Heap} {nx nx2 : Nat} {r : AV} (φ : Nat) (ks : List (Nat × Nat)) (h : RunsX Try.prog φ (GivesH ks [2] r Hout nx2) [.c c3] (args ++ List.replicate (16 - args.length) (.tup [])) Hin nx) : HCalls Try.prog 3 args Hin nx r Hout nx2 :=
  hcallsF Try.checked.mixed Try.func3 ok3 comp3 rfl (rs := [2]) rfl φ ks h

/-- pedlar/sum.Mix: parameters [24, 24], calls [79] -/
def c18_l0 : Cd := (.seq (.seq (.reg [⟨(some 15), none, .mv, [.t 8]⟩, ⟨(some 16), none, (.bin .geq), [.t 15, .c (.int .i64 0)]⟩]) (.cond (.t 16) .skip (.exit 2))) (.seq (.blk 3 (.reg [⟨(some 19), none, .mv, [.t 5]⟩, ⟨(some 20), none, .mv, [.t 7]⟩, ⟨(some 21), none, .mv, [.t 8]⟩, ⟨(some 22), none, (.bin .shr), [.t 20, .t 21]⟩, ⟨(some 23), none, (.conv .u8), [.t 22]⟩, ⟨(some 24), none, (.call 79 0), [.t 19, .t 23]⟩, ⟨(some 5), none, .mv, [.t 24]⟩])) (.reg [⟨(some 17), none, .mv, [.t 8]⟩, ⟨(some 18), none, (.bin .sub), [.t 17, .c (.int .i64 8)]⟩, ⟨(some 8), none, .mv, [.t 18]⟩])))
def c18_k0 : Cd := (.reg [⟨(some 25), none, (.bin .add), [.t 12, .c (.int .i64 1)]⟩, ⟨(some 12), none, .mv, [.t 25]⟩])
def c18_l1 : Cd := (.seq (.reg [⟨(some 13), none, (.bin .lss), [.t 12, .c (.int .i64 2)]⟩]) (.seq (.cond (.t 13) .skip (.exit 0)) (.seq (.blk 1 (.seq (.reg [⟨(some 14), none, (.ixA1 2), [.t 11, .t 12]⟩, ⟨(some 7), none, .mv, [.t 14]⟩]) (.seq (.reg [⟨(some 8), none, .mv, [.c (.int .i64 24)]⟩]) (.blk 2 (.loop c18_l0))))) c18_k0)))
def c18_k1 : Cd := (.seq (.reg [⟨(some 26), none, .mv, [.t 5]⟩, ⟨(some 27), none, (.bin .xor), [.t 26, .c (.int .u32 4294967295)]⟩, ⟨(some 4), none, .mv, [.t 27]⟩]) .ret)
def c18 : Cd := (.seq (.reg [⟨(some 4), none, .mv, [.c (.int .u32 0)]⟩]) (.seq (.reg [⟨(some 5), none, .mv, [.c (.int .u32 4294967295)]⟩]) (.seq (.seq (.reg [⟨(some 9), none, .mv, [.t 0]⟩, ⟨(some 10), none, .mv, [.t 1]⟩, ⟨(some 11), none, (.bld [(.int .u32 0), (.int .u32 0)] [(0, 1), (1, 1)]), [.t 9, .t 10]⟩, ⟨(some 12), none, .mv, [.c (.int .i64 0)]⟩]) (.blk 0 (.loop c18_l1))) c18_k1)))
theorem comp18 : compF Try.prog (mset [] []) (cset [] []) Try.f18 = some c18 := by kernel_rfl
theorem ok18 : fnOk Try.prog 18 = true := by kernel_rfl
theorem calls18 {args : List AV} {r : AV} (h : RunsX Try.prog 0 (Gives [4] r) [.c c18] (args ++ List.replicate (28 - args.length) (.tup [])) [] 0) : PCalls Try.prog 18 args r :=
  pcallsF Try.checked.mixed Try.func18 ok18 comp18 rfl (rs := [4]) rfl h
theorem hcalls18 {args : List AV} {Hin Hout : Heap} {nx nx2 : Nat} {r : AV} (φ : Nat) (ks : List (Nat × Nat)) (h : RunsX Try.prog φ (GivesH ks [4] r Hout nx2) [.c c18] (args ++ List.replicate (28 - args.length) (.tup [])) Hin nx) : HCalls Try.prog 18 args Hin nx r Hout nx2 :=
  hcallsF Try.checked.mixed Try.func18 ok18 comp18 rfl (rs := [4]) rfl φ ks h

/-- pedlar/pedlarref01.Mix: parameters [24, 24], calls [80, 17] -/
def c19 : Cd := (.seq (.reg [⟨(some 4), none, .mv, [.c (.int .u32 0)]⟩]) (.seq (.reg [⟨(some 5), none, .mv, [.t 0]⟩, ⟨(some 6), none, (.conv .u64), [.t 5]⟩, ⟨(some 7), none, (.call 80 2), [.t 6, .c (.int .i64 4)]⟩, ⟨(some 8), none, .mv, [.t 1]⟩, ⟨(some 9), none, (.conv .u64), [.t 8]⟩, ⟨(some 10), none, (.call 80 2), [.t 9, .c (.int .i64 4)]⟩, ⟨(some 11), none, (.app 1 1 11), [.t 7, .t 10]⟩, ⟨(some 12), none, (.call 17 0), [.t 11]⟩, ⟨(some 4), none, .mv, [.t 12]⟩]) .ret))
theorem comp19 : compF Try.prog (mset [] []) (cset [] [80]) Try.f19 = some c19 := by kernel_rfl
theorem ok19 : fnOk Try.prog 19 = true := by kernel_rfl
theorem calls19 {args : List AV} {r : AV} (h : RunsX Try.prog 0 (Gives [4] r) [.c c19] (args ++ List.replicate (13 - args.length) (.tup [])) [] 0) : PCalls Try.prog 19 args r :=
  pcallsF Try.checked.mixed Try.func19 ok19 comp19 rfl (rs := [4]) rfl h
theorem hcalls19 {args : List AV} {Hin Hout : Heap} {nx nx2 : Nat} {r : AV} (φ : Nat) (ks : List (Nat × Nat)) (h : RunsX Try.prog φ (GivesH ks [4] r Hout nx2) [.c c19] (args ++ List.replicate (13 - args.length) (.tup [])) Hin nx) : HCalls Try.prog 19 args Hin nx r Hout nx2 :=
  hcallsF Try.checked.mixed Try.func19 ok19 comp19 rfl (rs := [4]) rfl φ ks h

/-- pedlar/pedlarref01.Wide: parameters [53, 3], calls [] -/
def c80_l0 : Cd := (.seq (.seq (.reg [⟨(some 11), none, .mv, [.t 6]⟩, ⟨(some 12), none, (.bin .geq), [.t 11, .c (.int .i64 0)]⟩]) (.cond (.t 12) .skip (.exit 0))) (.seq (.blk 1 (.seq (.reg [⟨(some 15), none, .mv, [.t 5]⟩, ⟨(some 16), none, .mv, [.t 6]⟩, ⟨(some 17), none, .mv, [.t 0]⟩, ⟨(some 18), none, (.bin .rem), [.t 17, .c (.int .u64 256)]⟩, ⟨(some 19), none, (.conv .u8), [.t 18]⟩, ⟨(some 20), none, (.ixS 1), [.t 15, .t 16]⟩, ⟨none, none, (.st 1), [.t 20, .t 19]⟩]) (.reg [⟨(some 21), none, .mv, [.t 0]⟩, ⟨(some 22), none, (.bin .quo), [.t 21, .c (.int .u64 256)]⟩, ⟨(some 0), none, .mv, [.t 22]⟩]))) (.reg [⟨(some 13), none, .mv, [.t 6]⟩, ⟨(some 14), none, (.bin .sub), [.t 13, .c (.int .i64 1)]⟩, ⟨(some 6), none, .mv, [.t 14]⟩])))
def c80_k0 : Cd := (.seq (.reg [⟨(some 23), none, .mv, [.t 5]⟩, ⟨(some 4), none, .mv, [.t 23]⟩]) .ret)
def c80 : Cd := (.seq (.reg [⟨(some 4), none, .mv, [.c .nils]⟩]) (.seq (.reg [⟨(some 7), none, .mv, [.t 1]⟩, ⟨(some 8), none, (.mk (.int .u8 0) 1 8), [.t 7]⟩, ⟨(some 5), none, .mv, [.t 8]⟩]) (.seq (.seq (.reg [⟨(some 9), none, .mv, [.t 1]⟩, ⟨(some 10), none, (.bin .sub), [.t 9, .c (.int .i64 1)]⟩, ⟨(some 6), none, .mv, [.t 10]⟩]) (.blk 0 (.loop c80_l0))) c80_k0)))
theorem comp80 : compF Try.prog (mset [] []) (cset [] []) Try.f80 = some c80 := by kernel_rfl
theorem ok80 : fnOk Try.prog 80 = true := by kernel_rfl
theorem calls80 {args : List AV} {r : AV} (h : RunsX Try.prog 0 (Gives [4] r) [.c c80] (args ++ List.replicate (24 - args.length) (.tup [])) [] 0) : PCalls Try.prog 80 args r :=
  pcallsF Try.checked.mixed Try.func80 ok80 comp80 rfl (rs := [4]) rfl h
theorem hcalls80 {args : List AV} {Hin Hout : Heap} {nx nx2 : Nat} {r : AV} (φ : Nat) (ks : List (Nat × Nat)) (h : RunsX Try.prog φ (GivesH ks [4] r Hout nx2) [.c c80] (args ++ List.replicate (24 - args.length) (.tup [])) Hin nx) : HCalls Try.prog 80 args Hin nx r Hout nx2 :=
  hcallsF Try.checked.mixed Try.func80 ok80 comp80 rfl (rs := [4]) rfl φ ks h

/-- pedlar/pedlarlaw02.SumMixes: parameters [24, 24], calls [15, 18, 19] -/
def c4 : Cd := (.seq (.reg [⟨(some 4), none, .mv, [.c (.bool false)]⟩]) (.seq (.reg [⟨(some 5), none, (.call 15 0), []⟩, ⟨(some 6), none, .mv, [.t 5]⟩, ⟨(some 7), (some (6, true)), .mv, [.t 0]⟩, ⟨(some 8), (some (6, true)), .mv, [.t 1]⟩, ⟨(some 9), (some (6, true)), (.call 18 0), [.t 7, .t 8]⟩, ⟨(some 10), (some (6, true)), .mv, [.t 0]⟩, ⟨(some 11), (some (6, true)), .mv, [.t 1]⟩, ⟨(some 12), (some (6, true)), (.call 19 0), [.t 10, .t 11]⟩, ⟨(some 13), (some (6, true)), (.bin .eql), [.t 9, .t 12]⟩, ⟨(some 14), none, .pick, [.t 6, .t 13, .c (.bool false)]⟩, ⟨(some 4), none, .mv, [.t 14]⟩]) .ret))
theorem comp4 : compF Try.prog (mset [] []) (cset [] []) Try.f4 = some c4 := by kernel_rfl
theorem ok4 : fnOk Try.prog 4 = true := by kernel_rfl
theorem calls4 {args : List AV} {r : AV} (h : RunsX Try.prog 0 (Gives [4] r) [.c c4] (args ++ List.replicate (15 - args.length) (.tup [])) [] 0) : PCalls Try.prog 4 args r :=
  pcallsF Try.checked.mixed Try.func4 ok4 comp4 rfl (rs := [4]) rfl h
theorem hcalls4 {args : List AV} {Hin Hout : Heap} {nx nx2 : Nat} {r : AV} (φ : Nat) (ks : List (Nat × Nat)) (h : RunsX Try.prog φ (GivesH ks [4] r Hout nx2) [.c c4] (args ++ List.replicate (15 - args.length) (.tup [])) Hin nx) : HCalls Try.prog 4 args Hin nx r Hout nx2 :=
  hcallsF Try.checked.mixed Try.func4 ok4 comp4 rfl (rs := [4]) rfl φ ks h

end Go.Proofs.Ytmokhopjnjecbaa
