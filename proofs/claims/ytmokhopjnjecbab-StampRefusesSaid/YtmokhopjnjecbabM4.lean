/- The functions' bodies, compiled; printed by a program of mine (gen.py); that they are is checked here. -/
import Derived.Test.YtmokhopjnjecbabM3
import Derived.Test.YtmokhopjnjecbabRows
import Derived.Eval
import Derived.KernelRfl
namespace Go.Proofs.Ytmokhopjnjecbab
open Go.Ev
set_option maxRecDepth 100000

/-- pedlar/ident.leaf: parameters [24], results [.t 2], calls  -/
def c_ident_leaf : Cd := (.seq (.reg [⟨(some 1), none, .box, [.t 0]⟩, ⟨(some 2), none, .mv, [.c (.bool false)]⟩]) (.seq (.reg [⟨(some 3), none, (.fa 1), [.t 1]⟩, ⟨(some 4), none, .ld1, [.t 3]⟩, ⟨(some 5), none, .len, [.t 4]⟩, ⟨(some 6), none, (.bin .eql), [.t 5, .c (.int .i64 0)]⟩, ⟨(some 2), none, .mv, [.t 6]⟩]) .ret))
theorem comp_ident_leaf : compF Try.prog (mset [] [] []) (cset [] [] []) (wset [] []) Try.f89 = some c_ident_leaf := by kernel_rfl
theorem ok_ident_leaf : fnOk Try.prog F_ident_leaf = true := by kernel_rfl
theorem calls_ident_leaf {args : List AV} {r : AV} (h : RunsX Try.prog 0 (Gives [.t 2] r) [.c c_ident_leaf] (args ++ List.replicate (7 - args.length) (.tup [])) [] zeroC) : PCalls Try.prog F_ident_leaf args r :=
  pcallsF Try.checked.mixed Try.func89 ok_ident_leaf comp_ident_leaf rfl (rs := [.t 2]) (by kernel_rfl) h
theorem hcalls_ident_leaf {args : List AV} {Hin Hout : Heap} {nx nx2 : Ctr} {r : AV} (φ : Nat) (ks : List (Nat × Nat)) (h : RunsX Try.prog φ (GivesH ks [.t 2] r Hout nx2) [.c c_ident_leaf] (args ++ List.replicate (7 - args.length) (.tup [])) Hin nx) : HCalls Try.prog F_ident_leaf args Hin nx r Hout nx2 :=
  hcallsF Try.checked.mixed Try.func89 ok_ident_leaf comp_ident_leaf rfl (rs := [.t 2]) (by kernel_rfl) φ ks h

/-- pedlar/ident.Nothing: parameters [24], results [.t 2], calls ident_leaf -/
def c_ident_Nothing : Cd := (.seq (.reg [⟨(some 1), none, .box, [.t 0]⟩, ⟨(some 2), none, .mv, [.c (.bool false)]⟩]) (.seq (.reg [⟨(some 3), none, (.ldn 2), [.t 1]⟩, ⟨(some 4), none, (.call F_ident_leaf 0), [.t 3]⟩, ⟨(some 5), none, .mv, [.t 4]⟩, ⟨(some 6), (some (5, true)), (.fa 0), [.t 1]⟩, ⟨(some 7), (some (5, true)), .ld1, [.t 6]⟩, ⟨(some 8), (some (5, true)), .not, [.t 7]⟩, ⟨(some 9), none, .pick, [.t 5, .t 8, .c (.bool false)]⟩, ⟨(some 2), none, .mv, [.t 9]⟩]) .ret))
theorem comp_ident_Nothing : compF Try.prog (mset [] [] []) (cset [] [] []) (wset [] []) Try.f19 = some c_ident_Nothing := by kernel_rfl
theorem ok_ident_Nothing : fnOk Try.prog F_ident_Nothing = true := by kernel_rfl
theorem calls_ident_Nothing {args : List AV} {r : AV} (h : RunsX Try.prog 0 (Gives [.t 2] r) [.c c_ident_Nothing] (args ++ List.replicate (10 - args.length) (.tup [])) [] zeroC) : PCalls Try.prog F_ident_Nothing args r :=
  pcallsF Try.checked.mixed Try.func19 ok_ident_Nothing comp_ident_Nothing rfl (rs := [.t 2]) (by kernel_rfl) h
theorem hcalls_ident_Nothing {args : List AV} {Hin Hout : Heap} {nx nx2 : Ctr} {r : AV} (φ : Nat) (ks : List (Nat × Nat)) (h : RunsX Try.prog φ (GivesH ks [.t 2] r Hout nx2) [.c c_ident_Nothing] (args ++ List.replicate (10 - args.length) (.tup [])) Hin nx) : HCalls Try.prog F_ident_Nothing args Hin nx r Hout nx2 :=
  hcallsF Try.checked.mixed Try.func19 ok_ident_Nothing comp_ident_Nothing rfl (rs := [.t 2]) (by kernel_rfl) φ ks h

/-- pedlar/ident.All: parameters [], results [.cn 0 2], calls  -/
def c_ident_All : Cd := (.seq (.reg [⟨(some 0), none, (.new [(.bool false), .nils] 0), []⟩]) (.seq (.reg [⟨(some 1), none, (.bld [(.bool false), .nils] [(0, 1)]), [.c (.bool true)]⟩, ⟨none, none, (.st 2), [.t 0, .t 1]⟩]) .ret))
theorem comp_ident_All : compF Try.prog (mset [] [] []) (cset [] [] []) (wset [] []) Try.f82 = some c_ident_All := by kernel_rfl
theorem ok_ident_All : fnOk Try.prog F_ident_All = true := by kernel_rfl
theorem calls_ident_All {args : List AV} {r : AV} (h : RunsX Try.prog 0 (Gives [.cn 0 2] r) [.c c_ident_All] (args ++ List.replicate (2 - args.length) (.tup [])) [] zeroC) : PCalls Try.prog F_ident_All args r :=
  pcallsF Try.checked.mixed Try.func82 ok_ident_All comp_ident_All rfl (rs := [.cn 0 2]) (by kernel_rfl) h
theorem hcalls_ident_All {args : List AV} {Hin Hout : Heap} {nx nx2 : Ctr} {r : AV} (φ : Nat) (ks : List (Nat × Nat)) (h : RunsX Try.prog φ (GivesH ks [.cn 0 2] r Hout nx2) [.c c_ident_All] (args ++ List.replicate (2 - args.length) (.tup [])) Hin nx) : HCalls Try.prog F_ident_All args Hin nx r Hout nx2 :=
  hcallsF Try.checked.mixed Try.func82 ok_ident_All comp_ident_All rfl (rs := [.cn 0 2]) (by kernel_rfl) φ ks h

/-- pedlar/ident.count: parameters [24, 3], results [.t 4], calls ident_leaf, ident_count -/
def wl_ident_count_0 : Mk := ⟨[true, false, true, true, true, false, true, true, true, true, true, true, true, true, true, true, true, true, true, true, true, true, true, true, true, true, false, false, false, true, true, true, true, true, true, true, true, true, true, true, true, true], [7]⟩
abbrev s_ident_count_0 (t1 t5 t26 t27 t28 : AV) : List AV := [.any, t1, .any, .any, .any, t5, .any, .any, .any, .any, .any, .any, .any, .any, .any, .any, .any, .any, .any, .any, .any, .any, .any, .any, .any, .any, t26, t27, t28, .any, .any, .any, .any, .any, .any, .any, .any, .any, .any, .any, .any, .any]
def c_ident_count_l0 : Cd := (.seq (.reg [⟨(some 29), none, (.bin .lss), [.t 28, .t 27]⟩]) (.seq (.cond (.t 29) .skip (.exit 0)) (.seq (.blk 1 [] (.seq (.reg [⟨(some 30), none, (.ixS 2), [.t 26, .t 28]⟩, ⟨(some 31), none, (.ldn 2), [.t 30]⟩, ⟨(some 7), none, (.new [(.bool false), .nils] 7), []⟩, ⟨none, none, (.st 2), [.t 7, .t 31]⟩]) (.seq (.reg [⟨(some 32), none, .mv, [.t 5]⟩, ⟨(some 33), none, (.ldn 2), [.t 7]⟩, ⟨(some 34), none, .mv, [.t 1]⟩, ⟨(some 35), none, (.bin .sub), [.t 34, .c (.int .i64 1)]⟩, ⟨(some 36), none, (.call F_ident_count 0), [.t 33, .t 35]⟩, ⟨(some 37), none, (.bin .add), [.t 32, .t 36]⟩, ⟨(some 5), none, .mv, [.t 37]⟩]) (.seq (.reg [⟨(some 38), none, .mv, [.t 5]⟩, ⟨(some 39), none, (.bin .gtr), [.t 38, .c (.int .i64 60)]⟩]) (.cond (.t 39) (.seq (.reg [⟨(some 4), none, .mv, [.c (.int .i64 61)]⟩]) .ret) .skip))))) (.reg [⟨(some 40), none, (.bin .add), [.t 28, .c (.int .i64 1)]⟩, ⟨(some 28), none, .mv, [.t 40]⟩]))))
def wb_ident_count_0 : List Bool := [true, true, true, true, true, false, true, true, true, true, true, true, true, true, true, true, true, true, true, true, true, true, true, true, true, true, true, true, true, true, true, true, true, true, true, true, true, true, true, true, true, true]
abbrev e_ident_count_0 (t5 : AV) : List AV := [.any, .any, .any, .any, .any, t5, .any, .any, .any, .any, .any, .any, .any, .any, .any, .any, .any, .any, .any, .any, .any, .any, .any, .any, .any, .any, .any, .any, .any, .any, .any, .any, .any, .any, .any, .any, .any, .any, .any, .any, .any, .any]
abbrev i_ident_count_0 : List It := [.lp wl_ident_count_0 c_ident_count_l0, .blk 0 wb_ident_count_0]
def c_ident_count_k0 : Cd := (.seq (.reg [⟨(some 41), none, .mv, [.t 5]⟩, ⟨(some 4), none, .mv, [.t 41]⟩]) .ret)
def c_ident_count : Cd := (.seq (.reg [⟨(some 2), none, .box, [.t 0]⟩, ⟨(some 4), none, .mv, [.c (.int .i64 0)]⟩]) (.seq (.seq (.reg [⟨(some 8), none, .mv, [.t 1]⟩, ⟨(some 9), none, (.bin .lss), [.t 8, .c (.int .i64 1)]⟩, ⟨(some 10), none, .mv, [.t 9]⟩, ⟨(some 11), (some (10, false)), (.ldn 2), [.t 2]⟩, ⟨(some 12), (some (10, false)), (.call F_ident_leaf 0), [.t 11]⟩, ⟨(some 13), (some (10, false)), .not, [.t 12]⟩, ⟨(some 14), (some (10, false)), .mv, [.t 13]⟩, ⟨(some 15), (some (14, true)), (.fa 1), [.t 2]⟩, ⟨(some 16), (some (14, true)), .ld1, [.t 15]⟩, ⟨(some 17), (some (14, true)), .len, [.t 16]⟩, ⟨(some 18), (some (14, true)), (.bin .neq), [.t 17, .c (.int .i64 2)]⟩, ⟨(some 19), (some (14, true)), .mv, [.t 18]⟩, ⟨(some 20), (some (19, false)), (.fa 0), [.t 2]⟩, ⟨(some 21), (some (19, false)), .ld1, [.t 20]⟩, ⟨(some 22), (some (14, true)), .pick, [.t 19, .c (.bool true), .t 21]⟩, ⟨(some 23), (some (10, false)), .pick, [.t 14, .t 22, .c (.bool false)]⟩, ⟨(some 24), none, .pick, [.t 10, .c (.bool true), .t 23]⟩]) (.cond (.t 24) (.seq (.reg [⟨(some 4), none, .mv, [.c (.int .i64 61)]⟩]) .ret) .skip)) (.seq (.reg [⟨(some 5), none, .mv, [.c (.int .i64 1)]⟩]) (.seq (.seq (.reg [⟨(some 25), none, (.fa 1), [.t 2]⟩, ⟨(some 26), none, .ld1, [.t 25]⟩, ⟨(some 27), none, .len, [.t 26]⟩, ⟨(some 28), none, .mv, [.c (.int .i64 0)]⟩]) (.blk 0 wb_ident_count_0 (.loop wl_ident_count_0 c_ident_count_l0))) c_ident_count_k0))))
theorem comp_ident_count : compF Try.prog (mset [] [] []) (cset [] [] []) (wset [(0, wl_ident_count_0, wb_ident_count_0)] []) Try.f140 = some c_ident_count := by kernel_rfl
theorem ok_ident_count : fnOk Try.prog F_ident_count = true := by kernel_rfl
theorem calls_ident_count {args : List AV} {r : AV} (h : RunsX Try.prog 0 (Gives [.t 4] r) [.c c_ident_count] (args ++ List.replicate (42 - args.length) (.tup [])) [] zeroC) : PCalls Try.prog F_ident_count args r :=
  pcallsF Try.checked.mixed Try.func140 ok_ident_count comp_ident_count rfl (rs := [.t 4]) (by kernel_rfl) h
theorem hcalls_ident_count {args : List AV} {Hin Hout : Heap} {nx nx2 : Ctr} {r : AV} (φ : Nat) (ks : List (Nat × Nat)) (h : RunsX Try.prog φ (GivesH ks [.t 4] r Hout nx2) [.c c_ident_count] (args ++ List.replicate (42 - args.length) (.tup [])) Hin nx) : HCalls Try.prog F_ident_count args Hin nx r Hout nx2 :=
  hcallsF Try.checked.mixed Try.func140 ok_ident_count comp_ident_count rfl (rs := [.t 4]) (by kernel_rfl) φ ks h

/-- pedlar/ident.short: parameters [24], results [.t 2], calls ident_leaf, ident_short -/
def c_ident_short : Cd := (.seq (.reg [⟨(some 1), none, .box, [.t 0]⟩, ⟨(some 2), none, .mv, [.c (.bool false)]⟩]) (.seq (.seq (.reg [⟨(some 5), none, (.ldn 2), [.t 1]⟩, ⟨(some 6), none, (.call F_ident_leaf 0), [.t 5]⟩]) (.cond (.t 6) (.seq (.reg [⟨(some 2), none, .mv, [.c (.bool true)]⟩]) .ret) .skip)) (.seq (.reg [⟨(some 7), none, (.fa 1), [.t 1]⟩, ⟨(some 8), none, .ld1r, [.t 7]⟩, ⟨(some 9), none, (.ixS 2), [.t 8, .c (.int .i64 0)]⟩, ⟨(some 10), none, (.ldnr 2), [.t 9]⟩, ⟨(some 11), none, (.fa 1), [.t 1]⟩, ⟨(some 12), none, .ld1r, [.t 11]⟩, ⟨(some 13), none, (.ixS 2), [.t 12, .c (.int .i64 1)]⟩, ⟨(some 14), none, (.ldnr 2), [.t 13]⟩, ⟨(some 3), none, (.new [(.bool false), .nils] 3), []⟩, ⟨(some 4), none, (.new [(.bool false), .nils] 4), []⟩, ⟨none, none, (.stk 2 3), [.t 3, .t 10]⟩, ⟨none, none, (.stk 2 4), [.t 4, .t 14]⟩]) (.seq (.reg [⟨(some 15), none, (.ldn 2), [.t 3]⟩, ⟨(some 16), none, (.call F_ident_short 0), [.t 15]⟩, ⟨(some 17), none, .mv, [.t 16]⟩, ⟨(some 18), (some (17, true)), (.ldn 2), [.t 4]⟩, ⟨(some 19), (some (17, true)), (.call F_ident_short 0), [.t 18]⟩, ⟨(some 20), none, .pick, [.t 17, .t 19, .c (.bool false)]⟩, ⟨(some 21), none, .mv, [.t 20]⟩, ⟨(some 22), (some (21, true)), (.ldn 2), [.t 3]⟩, ⟨(some 23), (some (21, true)), (.call F_ident_leaf 0), [.t 22]⟩, ⟨(some 24), (some (21, true)), .mv, [.t 23]⟩, ⟨(some 25), (some (24, true)), (.ldn 2), [.t 4]⟩, ⟨(some 26), (some (24, true)), (.call F_ident_leaf 0), [.t 25]⟩, ⟨(some 27), (some (21, true)), .pick, [.t 24, .t 26, .c (.bool false)]⟩, ⟨(some 28), (some (21, true)), .mv, [.t 27]⟩, ⟨(some 29), (some (28, true)), (.fa 0), [.t 3]⟩, ⟨(some 30), (some (28, true)), .ld1, [.t 29]⟩, ⟨(some 31), (some (28, true)), (.fa 0), [.t 4]⟩, ⟨(some 32), (some (28, true)), .ld1, [.t 31]⟩, ⟨(some 33), (some (28, true)), (.eqb false), [.t 30, .t 32]⟩, ⟨(some 34), (some (21, true)), .pick, [.t 28, .t 33, .c (.bool false)]⟩, ⟨(some 35), (some (21, true)), .not, [.t 34]⟩, ⟨(some 36), none, .pick, [.t 21, .t 35, .c (.bool false)]⟩, ⟨(some 2), none, .mv, [.t 36]⟩]) .ret))))
theorem comp_ident_short : compF Try.prog (mset [] [8, 10, 12, 14] [3, 4]) (cset [] [] []) (wset [] []) Try.f141 = some c_ident_short := by kernel_rfl
theorem ok_ident_short : fnOk Try.prog F_ident_short = true := by kernel_rfl
theorem calls_ident_short {args : List AV} {r : AV} (h : RunsX Try.prog 0 (Gives [.t 2] r) [.c c_ident_short] (args ++ List.replicate (37 - args.length) (.tup [])) [] zeroC) : PCalls Try.prog F_ident_short args r :=
  pcallsF Try.checked.mixed Try.func141 ok_ident_short comp_ident_short rfl (rs := [.t 2]) (by kernel_rfl) h
theorem hcalls_ident_short {args : List AV} {Hin Hout : Heap} {nx nx2 : Ctr} {r : AV} (φ : Nat) (ks : List (Nat × Nat)) (h : RunsX Try.prog φ (GivesH ks [.t 2] r Hout nx2) [.c c_ident_short] (args ++ List.replicate (37 - args.length) (.tup [])) Hin nx) : HCalls Try.prog F_ident_short args Hin nx r Hout nx2 :=
  hcallsF Try.checked.mixed Try.func141 ok_ident_short comp_ident_short rfl (rs := [.t 2]) (by kernel_rfl) φ ks h

/-- pedlar/ident.Right: parameters [24], results [.t 2], calls ident_count, ident_short -/
def c_ident_Right : Cd := (.seq (.reg [⟨(some 1), none, .box, [.t 0]⟩, ⟨(some 2), none, .mv, [.c (.bool false)]⟩]) (.seq (.reg [⟨(some 3), none, (.ldn 2), [.t 1]⟩, ⟨(some 4), none, (.call F_ident_count 0), [.t 3, .c (.int .i64 8)]⟩, ⟨(some 5), none, (.bin .leq), [.t 4, .c (.int .i64 60)]⟩, ⟨(some 6), none, .mv, [.t 5]⟩, ⟨(some 7), (some (6, true)), (.ldn 2), [.t 1]⟩, ⟨(some 8), (some (6, true)), (.call F_ident_short 0), [.t 7]⟩, ⟨(some 9), none, .pick, [.t 6, .t 8, .c (.bool false)]⟩, ⟨(some 2), none, .mv, [.t 9]⟩]) .ret))
theorem comp_ident_Right : compF Try.prog (mset [] [] []) (cset [] [] []) (wset [] []) Try.f81 = some c_ident_Right := by kernel_rfl
theorem ok_ident_Right : fnOk Try.prog F_ident_Right = true := by kernel_rfl
theorem calls_ident_Right {args : List AV} {r : AV} (h : RunsX Try.prog 0 (Gives [.t 2] r) [.c c_ident_Right] (args ++ List.replicate (10 - args.length) (.tup [])) [] zeroC) : PCalls Try.prog F_ident_Right args r :=
  pcallsF Try.checked.mixed Try.func81 ok_ident_Right comp_ident_Right rfl (rs := [.t 2]) (by kernel_rfl) h
theorem hcalls_ident_Right {args : List AV} {Hin Hout : Heap} {nx nx2 : Ctr} {r : AV} (φ : Nat) (ks : List (Nat × Nat)) (h : RunsX Try.prog φ (GivesH ks [.t 2] r Hout nx2) [.c c_ident_Right] (args ++ List.replicate (10 - args.length) (.tup [])) Hin nx) : HCalls Try.prog F_ident_Right args Hin nx r Hout nx2 :=
  hcallsF Try.checked.mixed Try.func81 ok_ident_Right comp_ident_Right rfl (rs := [.t 2]) (by kernel_rfl) φ ks h

/-- pedlar/ident.same: parameters [24, 24, 3], results [.t 6], calls ident_same -/
def wl_ident_same_0 : Mk := ⟨[true, true, false, false, false, true, true, true, true, true, true, true, true, true, true, true, true, true, true, true, true, true, true, true, true, true, true, true, false, false, true, true, true, true, true, true, true, true, true, true, true, true, true, true, true, true, true], []⟩
abbrev s_ident_same_0 (t2 t3 t4 t28 t29 : AV) : List AV := [.any, .any, t2, t3, t4, .any, .any, .any, .any, .any, .any, .any, .any, .any, .any, .any, .any, .any, .any, .any, .any, .any, .any, .any, .any, .any, .any, .any, t28, t29, .any, .any, .any, .any, .any, .any, .any, .any, .any, .any, .any, .any, .any, .any, .any, .any, .any]
def c_ident_same_l0 : Cd := (.seq (.reg [⟨(some 30), none, (.bin .lss), [.t 29, .t 28]⟩]) (.seq (.cond (.t 30) .skip (.exit 0)) (.seq (.blk 1 [] (.seq (.reg [⟨(some 31), none, .mv, [.t 29]⟩, ⟨(some 7), none, .mv, [.t 31]⟩]) (.seq (.reg [⟨(some 32), none, (.fa 1), [.t 3]⟩, ⟨(some 33), none, .ld1, [.t 32]⟩, ⟨(some 34), none, .mv, [.t 7]⟩, ⟨(some 35), none, (.ixS 2), [.t 33, .t 34]⟩, ⟨(some 36), none, (.ldn 2), [.t 35]⟩, ⟨(some 37), none, (.fa 1), [.t 4]⟩, ⟨(some 38), none, .ld1, [.t 37]⟩, ⟨(some 39), none, .mv, [.t 7]⟩, ⟨(some 40), none, (.ixS 2), [.t 38, .t 39]⟩, ⟨(some 41), none, (.ldn 2), [.t 40]⟩, ⟨(some 42), none, .mv, [.t 2]⟩, ⟨(some 43), none, (.bin .sub), [.t 42, .c (.int .i64 1)]⟩, ⟨(some 44), none, (.call F_ident_same 0), [.t 36, .t 41, .t 43]⟩, ⟨(some 45), none, .not, [.t 44]⟩]) (.cond (.t 45) (.seq (.reg [⟨(some 6), none, .mv, [.c (.bool false)]⟩]) .ret) .skip)))) (.reg [⟨(some 46), none, (.bin .add), [.t 29, .c (.int .i64 1)]⟩, ⟨(some 29), none, .mv, [.t 46]⟩]))))
def wb_ident_same_0 : List Bool := [true, true, true, true, true, true, true, true, true, true, true, true, true, true, true, true, true, true, true, true, true, true, true, true, true, true, true, true, true, true, true, true, true, true, true, true, true, true, true, true, true, true, true, true, true, true, true]
abbrev e_ident_same_0 : List AV := [.any, .any, .any, .any, .any, .any, .any, .any, .any, .any, .any, .any, .any, .any, .any, .any, .any, .any, .any, .any, .any, .any, .any, .any, .any, .any, .any, .any, .any, .any, .any, .any, .any, .any, .any, .any, .any, .any, .any, .any, .any, .any, .any, .any, .any, .any, .any]
abbrev i_ident_same_0 : List It := [.lp wl_ident_same_0 c_ident_same_l0, .blk 0 wb_ident_same_0]
def c_ident_same_k0 : Cd := (.seq (.reg [⟨(some 6), none, .mv, [.c (.bool true)]⟩]) .ret)
def c_ident_same : Cd := (.seq (.reg [⟨(some 3), none, .box, [.t 0]⟩, ⟨(some 4), none, .box, [.t 1]⟩, ⟨(some 6), none, .mv, [.c (.bool false)]⟩]) (.seq (.seq (.reg [⟨(some 8), none, .mv, [.t 2]⟩, ⟨(some 9), none, (.bin .lss), [.t 8, .c (.int .i64 1)]⟩, ⟨(some 10), none, .mv, [.t 9]⟩, ⟨(some 11), (some (10, false)), (.fa 0), [.t 3]⟩, ⟨(some 12), (some (10, false)), .ld1, [.t 11]⟩, ⟨(some 13), (some (10, false)), (.fa 0), [.t 4]⟩, ⟨(some 14), (some (10, false)), .ld1, [.t 13]⟩, ⟨(some 15), (some (10, false)), (.eqb true), [.t 12, .t 14]⟩, ⟨(some 16), none, .pick, [.t 10, .c (.bool true), .t 15]⟩, ⟨(some 17), none, .mv, [.t 16]⟩, ⟨(some 18), (some (17, false)), (.fa 1), [.t 3]⟩, ⟨(some 19), (some (17, false)), .ld1, [.t 18]⟩, ⟨(some 20), (some (17, false)), .len, [.t 19]⟩, ⟨(some 21), (some (17, false)), (.fa 1), [.t 4]⟩, ⟨(some 22), (some (17, false)), .ld1, [.t 21]⟩, ⟨(some 23), (some (17, false)), .len, [.t 22]⟩, ⟨(some 24), (some (17, false)), (.bin .neq), [.t 20, .t 23]⟩, ⟨(some 25), none, .pick, [.t 17, .c (.bool true), .t 24]⟩]) (.cond (.t 25) (.seq (.reg [⟨(some 6), none, .mv, [.c (.bool false)]⟩]) .ret) .skip)) (.seq (.seq (.reg [⟨(some 26), none, (.fa 1), [.t 3]⟩, ⟨(some 27), none, .ld1, [.t 26]⟩, ⟨(some 28), none, .len, [.t 27]⟩, ⟨(some 29), none, .mv, [.c (.int .i64 0)]⟩]) (.blk 0 wb_ident_same_0 (.loop wl_ident_same_0 c_ident_same_l0))) c_ident_same_k0)))
theorem comp_ident_same : compF Try.prog (mset [] [] []) (cset [] [] []) (wset [(0, wl_ident_same_0, wb_ident_same_0)] []) Try.f164 = some c_ident_same := by kernel_rfl
theorem ok_ident_same : fnOk Try.prog F_ident_same = true := by kernel_rfl
theorem calls_ident_same {args : List AV} {r : AV} (h : RunsX Try.prog 0 (Gives [.t 6] r) [.c c_ident_same] (args ++ List.replicate (47 - args.length) (.tup [])) [] zeroC) : PCalls Try.prog F_ident_same args r :=
  pcallsF Try.checked.mixed Try.func164 ok_ident_same comp_ident_same rfl (rs := [.t 6]) (by kernel_rfl) h
theorem hcalls_ident_same {args : List AV} {Hin Hout : Heap} {nx nx2 : Ctr} {r : AV} (φ : Nat) (ks : List (Nat × Nat)) (h : RunsX Try.prog φ (GivesH ks [.t 6] r Hout nx2) [.c c_ident_same] (args ++ List.replicate (47 - args.length) (.tup [])) Hin nx) : HCalls Try.prog F_ident_same args Hin nx r Hout nx2 :=
  hcallsF Try.checked.mixed Try.func164 ok_ident_same comp_ident_same rfl (rs := [.t 6]) (by kernel_rfl) φ ks h

/-- pedlar/ident.Same: parameters [24, 24], results [.t 4], calls ident_same -/
def c_ident_Same : Cd := (.seq (.reg [⟨(some 2), none, .box, [.t 0]⟩, ⟨(some 3), none, .box, [.t 1]⟩, ⟨(some 4), none, .mv, [.c (.bool false)]⟩]) (.seq (.reg [⟨(some 5), none, (.ldn 2), [.t 2]⟩, ⟨(some 6), none, (.ldn 2), [.t 3]⟩, ⟨(some 7), none, (.call F_ident_same 0), [.t 5, .t 6, .c (.int .i64 8)]⟩, ⟨(some 4), none, .mv, [.t 7]⟩]) .ret))
theorem comp_ident_Same : compF Try.prog (mset [] [] []) (cset [] [] []) (wset [] []) Try.f132 = some c_ident_Same := by kernel_rfl
theorem ok_ident_Same : fnOk Try.prog F_ident_Same = true := by kernel_rfl
theorem calls_ident_Same {args : List AV} {r : AV} (h : RunsX Try.prog 0 (Gives [.t 4] r) [.c c_ident_Same] (args ++ List.replicate (8 - args.length) (.tup [])) [] zeroC) : PCalls Try.prog F_ident_Same args r :=
  pcallsF Try.checked.mixed Try.func132 ok_ident_Same comp_ident_Same rfl (rs := [.t 4]) (by kernel_rfl) h
theorem hcalls_ident_Same {args : List AV} {Hin Hout : Heap} {nx nx2 : Ctr} {r : AV} (φ : Nat) (ks : List (Nat × Nat)) (h : RunsX Try.prog φ (GivesH ks [.t 4] r Hout nx2) [.c c_ident_Same] (args ++ List.replicate (8 - args.length) (.tup [])) Hin nx) : HCalls Try.prog F_ident_Same args Hin nx r Hout nx2 :=
  hcallsF Try.checked.mixed Try.func132 ok_ident_Same comp_ident_Same rfl (rs := [.t 4]) (by kernel_rfl) φ ks h

/-- pedlar/ident.shallow: parameters [24, 3], results [.t 4], calls ident_shallow -/
def wl_ident_shallow_0 : Mk := ⟨[true, false, true, true, true, true, true, true, false, false, false, true, true, true, true, true, true, true, true, true, true, true, true, true, true, true], [6]⟩
abbrev s_ident_shallow_0 (t1 t8 t9 t10 : AV) : List AV := [.any, t1, .any, .any, .any, .any, .any, .any, t8, t9, t10, .any, .any, .any, .any, .any, .any, .any, .any, .any, .any, .any, .any, .any, .any, .any]
def c_ident_shallow_l0 : Cd := (.seq (.reg [⟨(some 11), none, (.bin .lss), [.t 10, .t 9]⟩]) (.seq (.cond (.t 11) .skip (.exit 0)) (.seq (.blk 1 [] (.seq (.reg [⟨(some 12), none, (.ixS 2), [.t 8, .t 10]⟩, ⟨(some 13), none, (.ldn 2), [.t 12]⟩, ⟨(some 6), none, (.new [(.bool false), .nils] 6), []⟩, ⟨none, none, (.st 2), [.t 6, .t 13]⟩]) (.seq (.reg [⟨(some 14), none, .mv, [.t 1]⟩, ⟨(some 15), none, (.bin .leq), [.t 14, .c (.int .i64 1)]⟩, ⟨(some 16), none, .mv, [.t 15]⟩, ⟨(some 17), (some (16, false)), (.ldn 2), [.t 6]⟩, ⟨(some 18), (some (16, false)), .mv, [.t 1]⟩, ⟨(some 19), (some (16, false)), (.bin .sub), [.t 18, .c (.int .i64 1)]⟩, ⟨(some 20), (some (16, false)), (.call F_ident_shallow 0), [.t 17, .t 19]⟩, ⟨(some 21), (some (16, false)), .not, [.t 20]⟩, ⟨(some 22), none, .pick, [.t 16, .c (.bool true), .t 21]⟩]) (.cond (.t 22) (.seq (.reg [⟨(some 4), none, .mv, [.c (.bool false)]⟩]) .ret) .skip)))) (.reg [⟨(some 23), none, (.bin .add), [.t 10, .c (.int .i64 1)]⟩, ⟨(some 10), none, .mv, [.t 23]⟩]))))
def wb_ident_shallow_0 : List Bool := [true, false, true, true, true, true, true, true, true, true, true, true, true, true, true, true, true, true, true, true, true, true, true, true, true, true]
abbrev e_ident_shallow_0 (t1 : AV) : List AV := [.any, t1, .any, .any, .any, .any, .any, .any, .any, .any, .any, .any, .any, .any, .any, .any, .any, .any, .any, .any, .any, .any, .any, .any, .any, .any]
abbrev i_ident_shallow_0 : List It := [.lp wl_ident_shallow_0 c_ident_shallow_l0, .blk 0 wb_ident_shallow_0]
def c_ident_shallow_k0 : Cd := (.seq (.reg [⟨(some 24), none, .mv, [.t 1]⟩, ⟨(some 25), none, (.bin .geq), [.t 24, .c (.int .i64 1)]⟩, ⟨(some 4), none, .mv, [.t 25]⟩]) .ret)
def c_ident_shallow : Cd := (.seq (.reg [⟨(some 2), none, .box, [.t 0]⟩, ⟨(some 4), none, .mv, [.c (.bool false)]⟩]) (.seq (.seq (.reg [⟨(some 7), none, (.fa 1), [.t 2]⟩, ⟨(some 8), none, .ld1, [.t 7]⟩, ⟨(some 9), none, .len, [.t 8]⟩, ⟨(some 10), none, .mv, [.c (.int .i64 0)]⟩]) (.blk 0 wb_ident_shallow_0 (.loop wl_ident_shallow_0 c_ident_shallow_l0))) c_ident_shallow_k0))
theorem comp_ident_shallow : compF Try.prog (mset [] [] []) (cset [] [] []) (wset [(0, wl_ident_shallow_0, wb_ident_shallow_0)] []) Try.f143 = some c_ident_shallow := by kernel_rfl
theorem ok_ident_shallow : fnOk Try.prog F_ident_shallow = true := by kernel_rfl
theorem calls_ident_shallow {args : List AV} {r : AV} (h : RunsX Try.prog 0 (Gives [.t 4] r) [.c c_ident_shallow] (args ++ List.replicate (26 - args.length) (.tup [])) [] zeroC) : PCalls Try.prog F_ident_shallow args r :=
  pcallsF Try.checked.mixed Try.func143 ok_ident_shallow comp_ident_shallow rfl (rs := [.t 4]) (by kernel_rfl) h
theorem hcalls_ident_shallow {args : List AV} {Hin Hout : Heap} {nx nx2 : Ctr} {r : AV} (φ : Nat) (ks : List (Nat × Nat)) (h : RunsX Try.prog φ (GivesH ks [.t 4] r Hout nx2) [.c c_ident_shallow] (args ++ List.replicate (26 - args.length) (.tup [])) Hin nx) : HCalls Try.prog F_ident_shallow args Hin nx r Hout nx2 :=
  hcallsF Try.checked.mixed Try.func143 ok_ident_shallow comp_ident_shallow rfl (rs := [.t 4]) (by kernel_rfl) φ ks h

/-- pedlar/ident.clone: parameters [24, 3], results [.cn 4 2, .t 5], calls ident_clone -/
def wl_ident_clone_0 : Mk := ⟨[true, false, true, true, false, true, false, true, true, true, true, true, true, true, true, false, false, false, true, true, true, true, true, true, true, true, true, true, true, true, true, true, true, true, true, true, true, true, true, true, true, true, true, true, true], [8, 9]⟩
abbrev s_ident_clone_0 (t1 t4 t6 t15 t16 t17 : AV) : List AV := [.any, t1, .any, .any, t4, .any, t6, .any, .any, .any, .any, .any, .any, .any, .any, t15, t16, t17, .any, .any, .any, .any, .any, .any, .any, .any, .any, .any, .any, .any, .any, .any, .any, .any, .any, .any, .any, .any, .any, .any, .any, .any, .any, .any, .any]
def c_ident_clone_l0 : Cd := (.seq (.reg [⟨(some 18), none, (.bin .lss), [.t 17, .t 16]⟩]) (.seq (.cond (.t 18) .skip (.exit 0)) (.seq (.blk 1 [] (.seq (.reg [⟨(some 19), none, (.ixS 2), [.t 15, .t 17]⟩, ⟨(some 20), none, (.ldn 2), [.t 19]⟩, ⟨(some 8), none, (.new [(.bool false), .nils] 8), []⟩, ⟨none, none, (.st 2), [.t 8, .t 20]⟩]) (.seq (.reg [⟨(some 22), none, (.ldn 2), [.t 8]⟩, ⟨(some 23), none, .mv, [.t 1]⟩, ⟨(some 24), none, (.bin .sub), [.t 23, .c (.int .i64 1)]⟩, ⟨(some 25), none, (.call F_ident_clone 0), [.t 22, .t 24]⟩, ⟨(some 21), none, .mv, [.t 25]⟩, ⟨(some 26), none, (.ext 0), [.t 21]⟩, ⟨(some 27), none, (.ext 1), [.t 21]⟩, ⟨(some 9), none, (.new [(.bool false), .nils] 9), []⟩, ⟨none, none, (.st 2), [.t 9, .t 26]⟩, ⟨(some 10), none, .mv, [.t 27]⟩]) (.seq (.seq (.reg [⟨(some 28), none, .mv, [.t 1]⟩, ⟨(some 29), none, (.bin .leq), [.t 28, .c (.int .i64 1)]⟩, ⟨(some 30), none, .mv, [.t 29]⟩, ⟨(some 31), (some (30, false)), .mv, [.t 10]⟩, ⟨(some 32), (some (30, false)), .not, [.t 31]⟩, ⟨(some 33), none, .pick, [.t 30, .c (.bool true), .t 32]⟩]) (.cond (.t 33) (.seq (.reg [⟨(some 34), none, (.bld [(.bool false), .nils] []), []⟩, ⟨none, none, (.st 2), [.t 4, .t 34]⟩, ⟨(some 5), none, .mv, [.c (.bool false)]⟩]) .ret) .skip)) (.reg [⟨(some 35), none, (.fa 1), [.t 6]⟩, ⟨(some 36), none, .ld1, [.t 35]⟩, ⟨(some 37), none, (.ldn 2), [.t 9]⟩, ⟨(some 38), none, (.lit 2 1), [.t 37]⟩, ⟨(some 39), none, (.app 2 32 39), [.t 36, .t 38]⟩, ⟨(some 40), none, (.fa 1), [.t 6]⟩, ⟨none, none, (.st 1), [.t 40, .t 39]⟩]))))) (.reg [⟨(some 41), none, (.bin .add), [.t 17, .c (.int .i64 1)]⟩, ⟨(some 17), none, .mv, [.t 41]⟩]))))
def wb_ident_clone_0 : List Bool := [true, false, true, true, false, true, false, true, true, true, true, true, true, true, true, true, true, true, true, true, true, true, true, true, true, true, true, true, true, true, true, true, true, true, true, true, true, true, true, true, true, true, true, true, true]
abbrev e_ident_clone_0 (t1 t4 t6 : AV) : List AV := [.any, t1, .any, .any, t4, .any, t6, .any, .any, .any, .any, .any, .any, .any, .any, .any, .any, .any, .any, .any, .any, .any, .any, .any, .any, .any, .any, .any, .any, .any, .any, .any, .any, .any, .any, .any, .any, .any, .any, .any, .any, .any, .any, .any, .any]
abbrev i_ident_clone_0 : List It := [.lp wl_ident_clone_0 c_ident_clone_l0, .blk 0 wb_ident_clone_0]
def c_ident_clone_k0 : Cd := (.seq (.reg [⟨(some 42), none, (.ldn 2), [.t 6]⟩, ⟨(some 43), none, .mv, [.t 1]⟩, ⟨(some 44), none, (.bin .geq), [.t 43, .c (.int .i64 1)]⟩, ⟨none, none, (.st 2), [.t 4, .t 42]⟩, ⟨(some 5), none, .mv, [.t 44]⟩]) .ret)
def c_ident_clone : Cd := (.seq (.reg [⟨(some 2), none, .box, [.t 0]⟩, ⟨(some 4), none, (.new [(.bool false), .nils] 4), []⟩, ⟨(some 5), none, .mv, [.c (.bool false)]⟩]) (.seq (.reg [⟨(some 11), none, (.fa 0), [.t 2]⟩, ⟨(some 12), none, .ld1, [.t 11]⟩, ⟨(some 13), none, (.bld [(.bool false), .nils] [(0, 1)]), [.t 12]⟩, ⟨(some 6), none, (.new [(.bool false), .nils] 6), []⟩, ⟨none, none, (.st 2), [.t 6, .t 13]⟩]) (.seq (.seq (.reg [⟨(some 14), none, (.fa 1), [.t 2]⟩, ⟨(some 15), none, .ld1, [.t 14]⟩, ⟨(some 16), none, .len, [.t 15]⟩, ⟨(some 17), none, .mv, [.c (.int .i64 0)]⟩]) (.blk 0 wb_ident_clone_0 (.loop wl_ident_clone_0 c_ident_clone_l0))) c_ident_clone_k0)))
theorem comp_ident_clone : compF Try.prog (mset [] [] []) (cset [] [] []) (wset [(0, wl_ident_clone_0, wb_ident_clone_0)] []) Try.f144 = some c_ident_clone := by kernel_rfl
theorem ok_ident_clone : fnOk Try.prog F_ident_clone = true := by kernel_rfl
theorem calls_ident_clone {args : List AV} {r : AV} (h : RunsX Try.prog 0 (Gives [.cn 4 2, .t 5] r) [.c c_ident_clone] (args ++ List.replicate (45 - args.length) (.tup [])) [] zeroC) : PCalls Try.prog F_ident_clone args r :=
  pcallsF Try.checked.mixed Try.func144 ok_ident_clone comp_ident_clone rfl (rs := [.cn 4 2, .t 5]) (by kernel_rfl) h
theorem hcalls_ident_clone {args : List AV} {Hin Hout : Heap} {nx nx2 : Ctr} {r : AV} (φ : Nat) (ks : List (Nat × Nat)) (h : RunsX Try.prog φ (GivesH ks [.cn 4 2, .t 5] r Hout nx2) [.c c_ident_clone] (args ++ List.replicate (45 - args.length) (.tup [])) Hin nx) : HCalls Try.prog F_ident_clone args Hin nx r Hout nx2 :=
  hcallsF Try.checked.mixed Try.func144 ok_ident_clone comp_ident_clone rfl (rs := [.cn 4 2, .t 5]) (by kernel_rfl) φ ks h

/-- pedlar/ident.Clone: parameters [24], results [.cn 2 2], calls ident_shallow, ident_clone -/
def c_ident_Clone : Cd := (.seq (.reg [⟨(some 1), none, .box, [.t 0]⟩, ⟨(some 2), none, (.new [(.bool false), .nils] 2), []⟩]) (.seq (.seq (.reg [⟨(some 5), none, (.ldn 2), [.t 1]⟩, ⟨(some 6), none, (.call F_ident_shallow 0), [.t 5, .c (.int .i64 8)]⟩, ⟨(some 7), none, .not, [.t 6]⟩]) (.cond (.t 7) (.seq (.reg [⟨(some 8), none, (.bld [(.bool false), .nils] []), []⟩, ⟨none, none, (.st 2), [.t 2, .t 8]⟩]) .ret) .skip)) (.seq (.reg [⟨(some 10), none, (.ldn 2), [.t 1]⟩, ⟨(some 11), none, (.call F_ident_clone 0), [.t 10, .c (.int .i64 8)]⟩, ⟨(some 9), none, .mv, [.t 11]⟩, ⟨(some 12), none, (.ext 0), [.t 9]⟩, ⟨(some 13), none, (.ext 1), [.t 9]⟩, ⟨(some 3), none, (.new [(.bool false), .nils] 3), []⟩, ⟨none, none, (.st 2), [.t 3, .t 12]⟩, ⟨(some 4), none, .mv, [.t 13]⟩]) (.seq (.reg [⟨(some 14), none, (.ldn 2), [.t 3]⟩, ⟨none, none, (.st 2), [.t 2, .t 14]⟩]) .ret))))
theorem comp_ident_Clone : compF Try.prog (mset [] [] []) (cset [] [] []) (wset [] []) Try.f86 = some c_ident_Clone := by kernel_rfl
theorem ok_ident_Clone : fnOk Try.prog F_ident_Clone = true := by kernel_rfl
theorem calls_ident_Clone {args : List AV} {r : AV} (h : RunsX Try.prog 0 (Gives [.cn 2 2] r) [.c c_ident_Clone] (args ++ List.replicate (15 - args.length) (.tup [])) [] zeroC) : PCalls Try.prog F_ident_Clone args r :=
  pcallsF Try.checked.mixed Try.func86 ok_ident_Clone comp_ident_Clone rfl (rs := [.cn 2 2]) (by kernel_rfl) h
theorem hcalls_ident_Clone {args : List AV} {Hin Hout : Heap} {nx nx2 : Ctr} {r : AV} (φ : Nat) (ks : List (Nat × Nat)) (h : RunsX Try.prog φ (GivesH ks [.cn 2 2] r Hout nx2) [.c c_ident_Clone] (args ++ List.replicate (15 - args.length) (.tup [])) Hin nx) : HCalls Try.prog F_ident_Clone args Hin nx r Hout nx2 :=
  hcallsF Try.checked.mixed Try.func86 ok_ident_Clone comp_ident_Clone rfl (rs := [.cn 2 2]) (by kernel_rfl) φ ks h

/-- pedlar/ident.Has: parameters [24, 5], results [.t 4], calls ident_Right, ident_leaf -/
def wl_ident_Has_0 : Mk := ⟨[true, false, false, true, true, true, true, true, true, true, true, true, true, true, true, true, true, true, true, true, true], []⟩
abbrev s_ident_Has_0 (t1 t2 : AV) : List AV := [.any, t1, t2, .any, .any, .any, .any, .any, .any, .any, .any, .any, .any, .any, .any, .any, .any, .any, .any, .any, .any]
def c_ident_Has_l0 : Cd := (.seq (.seq (.reg [⟨(some 8), none, (.ldn 2), [.t 2]⟩, ⟨(some 9), none, (.call F_ident_leaf 0), [.t 8]⟩, ⟨(some 10), none, .not, [.t 9]⟩]) (.cond (.t 10) .skip (.exit 0))) (.seq (.blk 1 [] (.reg [⟨(some 13), none, (.fa 1), [.t 2]⟩, ⟨(some 14), none, .ld1, [.t 13]⟩, ⟨(some 15), none, .mv, [.t 1]⟩, ⟨(some 16), none, (.bin .shr), [.t 15, .c (.int .u64 7)]⟩, ⟨(some 17), none, (.ixS 2), [.t 14, .t 16]⟩, ⟨(some 18), none, (.ldn 2), [.t 17]⟩, ⟨none, none, (.st 2), [.t 2, .t 18]⟩])) (.reg [⟨(some 11), none, .mv, [.t 1]⟩, ⟨(some 12), none, (.bin .shl), [.t 11, .c (.int .u64 1)]⟩, ⟨(some 1), none, .mv, [.t 12]⟩])))
def wb_ident_Has_0 : List Bool := [true, true, false, true, true, true, true, true, true, true, true, true, true, true, true, true, true, true, true, true, true]
abbrev e_ident_Has_0 (t2 : AV) : List AV := [.any, .any, t2, .any, .any, .any, .any, .any, .any, .any, .any, .any, .any, .any, .any, .any, .any, .any, .any, .any, .any]
abbrev i_ident_Has_0 : List It := [.lp wl_ident_Has_0 c_ident_Has_l0, .blk 0 wb_ident_Has_0]
def c_ident_Has_k0 : Cd := (.seq (.reg [⟨(some 19), none, (.fa 0), [.t 2]⟩, ⟨(some 20), none, .ld1, [.t 19]⟩, ⟨(some 4), none, .mv, [.t 20]⟩]) .ret)
def c_ident_Has : Cd := (.seq (.reg [⟨(some 2), none, (.boxm 2), [.t 0]⟩, ⟨(some 4), none, .mv, [.c (.bool false)]⟩]) (.seq (.seq (.reg [⟨(some 5), none, (.ldn 2), [.t 2]⟩, ⟨(some 6), none, (.call F_ident_Right 0), [.t 5]⟩, ⟨(some 7), none, .not, [.t 6]⟩]) (.cond (.t 7) (.seq (.reg [⟨(some 4), none, .mv, [.c (.bool false)]⟩]) .ret) .skip)) (.seq (.blk 0 wb_ident_Has_0 (.loop wl_ident_Has_0 c_ident_Has_l0)) c_ident_Has_k0)))
theorem comp_ident_Has : compF Try.prog (mset [2] [] []) (cset [] [] []) (wset [(0, wl_ident_Has_0, wb_ident_Has_0)] []) Try.f83 = some c_ident_Has := by kernel_rfl
theorem ok_ident_Has : fnOk Try.prog F_ident_Has = true := by kernel_rfl
theorem calls_ident_Has {args : List AV} {r : AV} (h : RunsX Try.prog 0 (Gives [.t 4] r) [.c c_ident_Has] (args ++ List.replicate (21 - args.length) (.tup [])) [] zeroC) : PCalls Try.prog F_ident_Has args r :=
  pcallsF Try.checked.mixed Try.func83 ok_ident_Has comp_ident_Has rfl (rs := [.t 4]) (by kernel_rfl) h
theorem hcalls_ident_Has {args : List AV} {Hin Hout : Heap} {nx nx2 : Ctr} {r : AV} (φ : Nat) (ks : List (Nat × Nat)) (h : RunsX Try.prog φ (GivesH ks [.t 4] r Hout nx2) [.c c_ident_Has] (args ++ List.replicate (21 - args.length) (.tup [])) Hin nx) : HCalls Try.prog F_ident_Has args Hin nx r Hout nx2 :=
  hcallsF Try.checked.mixed Try.func83 ok_ident_Has comp_ident_Has rfl (rs := [.t 4]) (by kernel_rfl) φ ks h

/-- pedlar/pedlarref04.Deep: parameters [24, 3], results [.t 4], calls ref04_Deep -/
def wl_ref04_Deep_0 : Mk := ⟨[true, false, false, true, true, false, true, true, true, true, true, false, false, true, true, true, true, true, true, true, true, true, true, true, true, true, true, true], []⟩
abbrev s_ref04_Deep_0 (t1 t2 t5 t11 t12 : AV) : List AV := [.any, t1, t2, .any, .any, t5, .any, .any, .any, .any, .any, t11, t12, .any, .any, .any, .any, .any, .any, .any, .any, .any, .any, .any, .any, .any, .any, .any]
def c_ref04_Deep_l0 : Cd := (.seq (.reg [⟨(some 13), none, (.bin .lss), [.t 12, .t 11]⟩]) (.seq (.cond (.t 13) .skip (.exit 0)) (.seq (.blk 1 [] (.seq (.reg [⟨(some 14), none, .mv, [.t 12]⟩, ⟨(some 6), none, .mv, [.t 14]⟩]) (.reg [⟨(some 15), none, .mv, [.t 5]⟩, ⟨(some 16), none, (.fa 1), [.t 2]⟩, ⟨(some 17), none, .ld1, [.t 16]⟩, ⟨(some 18), none, .mv, [.t 6]⟩, ⟨(some 19), none, (.ixS 2), [.t 17, .t 18]⟩, ⟨(some 20), none, (.ldn 2), [.t 19]⟩, ⟨(some 21), none, .mv, [.t 1]⟩, ⟨(some 22), none, (.bin .sub), [.t 21, .c (.int .i64 1)]⟩, ⟨(some 23), none, (.call F_ref04_Deep 0), [.t 20, .t 22]⟩, ⟨(some 24), none, .mx, [.t 15, .t 23]⟩, ⟨(some 5), none, .mv, [.t 24]⟩]))) (.reg [⟨(some 25), none, (.bin .add), [.t 12, .c (.int .i64 1)]⟩, ⟨(some 12), none, .mv, [.t 25]⟩]))))
def wb_ref04_Deep_0 : List Bool := [true, true, true, true, true, false, true, true, true, true, true, true, true, true, true, true, true, true, true, true, true, true, true, true, true, true, true, true]
abbrev e_ref04_Deep_0 (t5 : AV) : List AV := [.any, .any, .any, .any, .any, t5, .any, .any, .any, .any, .any, .any, .any, .any, .any, .any, .any, .any, .any, .any, .any, .any, .any, .any, .any, .any, .any, .any]
abbrev i_ref04_Deep_0 : List It := [.lp wl_ref04_Deep_0 c_ref04_Deep_l0, .blk 0 wb_ref04_Deep_0]
def c_ref04_Deep_k0 : Cd := (.seq (.reg [⟨(some 26), none, .mv, [.t 5]⟩, ⟨(some 27), none, (.bin .add), [.t 26, .c (.int .i64 1)]⟩, ⟨(some 4), none, .mv, [.t 27]⟩]) .ret)
def c_ref04_Deep : Cd := (.seq (.reg [⟨(some 2), none, .box, [.t 0]⟩, ⟨(some 4), none, .mv, [.c (.int .i64 0)]⟩]) (.seq (.seq (.reg [⟨(some 7), none, .mv, [.t 1]⟩, ⟨(some 8), none, (.bin .lss), [.t 7, .c (.int .i64 1)]⟩]) (.cond (.t 8) (.seq (.reg [⟨(some 4), none, .mv, [.c (.int .i64 1)]⟩]) .ret) .skip)) (.seq (.reg [⟨(some 5), none, .mv, [.c (.int .i64 0)]⟩]) (.seq (.seq (.reg [⟨(some 9), none, (.fa 1), [.t 2]⟩, ⟨(some 10), none, .ld1, [.t 9]⟩, ⟨(some 11), none, .len, [.t 10]⟩, ⟨(some 12), none, .mv, [.c (.int .i64 0)]⟩]) (.blk 0 wb_ref04_Deep_0 (.loop wl_ref04_Deep_0 c_ref04_Deep_l0))) c_ref04_Deep_k0))))
theorem comp_ref04_Deep : compF Try.prog (mset [] [] []) (cset [] [] []) (wset [(0, wl_ref04_Deep_0, wb_ref04_Deep_0)] []) Try.f87 = some c_ref04_Deep := by kernel_rfl
theorem ok_ref04_Deep : fnOk Try.prog F_ref04_Deep = true := by kernel_rfl
theorem calls_ref04_Deep {args : List AV} {r : AV} (h : RunsX Try.prog 0 (Gives [.t 4] r) [.c c_ref04_Deep] (args ++ List.replicate (28 - args.length) (.tup [])) [] zeroC) : PCalls Try.prog F_ref04_Deep args r :=
  pcallsF Try.checked.mixed Try.func87 ok_ref04_Deep comp_ref04_Deep rfl (rs := [.t 4]) (by kernel_rfl) h
theorem hcalls_ref04_Deep {args : List AV} {Hin Hout : Heap} {nx nx2 : Ctr} {r : AV} (φ : Nat) (ks : List (Nat × Nat)) (h : RunsX Try.prog φ (GivesH ks [.t 4] r Hout nx2) [.c c_ref04_Deep] (args ++ List.replicate (28 - args.length) (.tup [])) Hin nx) : HCalls Try.prog F_ref04_Deep args Hin nx r Hout nx2 :=
  hcallsF Try.checked.mixed Try.func87 ok_ref04_Deep comp_ref04_Deep rfl (rs := [.t 4]) (by kernel_rfl) φ ks h

/-- pedlar/pedlarref04.count: parameters [24], results [.t 2, .t 3], calls ref04_count -/
def c_ref04_count : Cd := (.seq (.reg [⟨(some 1), none, .box, [.t 0]⟩, ⟨(some 2), none, .mv, [.c (.int .i64 0)]⟩, ⟨(some 3), none, .mv, [.c (.bool false)]⟩]) (.seq (.seq (.reg [⟨(some 11), none, (.fa 1), [.t 1]⟩, ⟨(some 12), none, .ld1, [.t 11]⟩, ⟨(some 13), none, .len, [.t 12]⟩, ⟨(some 14), none, (.bin .eql), [.t 13, .c (.int .i64 0)]⟩]) (.cond (.t 14) (.seq (.reg [⟨(some 2), none, .mv, [.c (.int .i64 1)]⟩, ⟨(some 3), none, .mv, [.c (.bool true)]⟩]) .ret) .skip)) (.seq (.seq (.reg [⟨(some 15), none, (.fa 1), [.t 1]⟩, ⟨(some 16), none, .ld1, [.t 15]⟩, ⟨(some 17), none, .len, [.t 16]⟩, ⟨(some 18), none, (.bin .neq), [.t 17, .c (.int .i64 2)]⟩, ⟨(some 19), none, .mv, [.t 18]⟩, ⟨(some 20), (some (19, false)), (.fa 0), [.t 1]⟩, ⟨(some 21), (some (19, false)), .ld1, [.t 20]⟩, ⟨(some 22), none, .pick, [.t 19, .c (.bool true), .t 21]⟩]) (.cond (.t 22) (.seq (.reg [⟨(some 2), none, .mv, [.c (.int .i64 0)]⟩, ⟨(some 3), none, .mv, [.c (.bool false)]⟩]) .ret) .skip)) (.seq (.reg [⟨(some 24), none, (.fa 1), [.t 1]⟩, ⟨(some 25), none, .ld1, [.t 24]⟩, ⟨(some 26), none, (.ixS 2), [.t 25, .c (.int .i64 0)]⟩, ⟨(some 27), none, (.ldn 2), [.t 26]⟩, ⟨(some 28), none, (.call F_ref04_count 0), [.t 27]⟩, ⟨(some 23), none, .mv, [.t 28]⟩, ⟨(some 29), none, (.ext 0), [.t 23]⟩, ⟨(some 30), none, (.ext 1), [.t 23]⟩, ⟨(some 4), none, .mv, [.t 29]⟩, ⟨(some 5), none, .mv, [.t 30]⟩]) (.seq (.reg [⟨(some 32), none, (.fa 1), [.t 1]⟩, ⟨(some 33), none, .ld1, [.t 32]⟩, ⟨(some 34), none, (.ixS 2), [.t 33, .c (.int .i64 1)]⟩, ⟨(some 35), none, (.ldn 2), [.t 34]⟩, ⟨(some 36), none, (.call F_ref04_count 0), [.t 35]⟩, ⟨(some 31), none, .mv, [.t 36]⟩, ⟨(some 37), none, (.ext 0), [.t 31]⟩, ⟨(some 38), none, (.ext 1), [.t 31]⟩, ⟨(some 6), none, .mv, [.t 37]⟩, ⟨(some 7), none, .mv, [.t 38]⟩]) (.seq (.reg [⟨(some 39), none, (.fa 1), [.t 1]⟩, ⟨(some 40), none, .ld1r, [.t 39]⟩, ⟨(some 41), none, (.ixS 2), [.t 40, .c (.int .i64 0)]⟩, ⟨(some 42), none, (.ldnr 2), [.t 41]⟩, ⟨(some 43), none, (.fa 1), [.t 1]⟩, ⟨(some 44), none, .ld1r, [.t 43]⟩, ⟨(some 45), none, (.ixS 2), [.t 44, .c (.int .i64 1)]⟩, ⟨(some 46), none, (.ldnr 2), [.t 45]⟩, ⟨(some 8), none, (.new [(.bool false), .nils] 8), []⟩, ⟨(some 9), none, (.new [(.bool false), .nils] 9), []⟩, ⟨none, none, (.stk 2 8), [.t 8, .t 42]⟩, ⟨none, none, (.stk 2 9), [.t 9, .t 46]⟩]) (.seq (.reg [⟨(some 47), none, (.fa 1), [.t 8]⟩, ⟨(some 48), none, .ld1, [.t 47]⟩, ⟨(some 49), none, .len, [.t 48]⟩, ⟨(some 50), none, (.bin .eql), [.t 49, .c (.int .i64 0)]⟩, ⟨(some 51), none, .mv, [.t 50]⟩, ⟨(some 52), (some (51, true)), (.fa 1), [.t 9]⟩, ⟨(some 53), (some (51, true)), .ld1, [.t 52]⟩, ⟨(some 54), (some (51, true)), .len, [.t 53]⟩, ⟨(some 55), (some (51, true)), (.bin .eql), [.t 54, .c (.int .i64 0)]⟩, ⟨(some 56), none, .pick, [.t 51, .t 55, .c (.bool false)]⟩, ⟨(some 57), none, .mv, [.t 56]⟩, ⟨(some 58), (some (57, true)), (.fa 0), [.t 8]⟩, ⟨(some 59), (some (57, true)), .ld1, [.t 58]⟩, ⟨(some 60), (some (57, true)), (.fa 0), [.t 9]⟩, ⟨(some 61), (some (57, true)), .ld1, [.t 60]⟩, ⟨(some 62), (some (57, true)), (.eqb false), [.t 59, .t 61]⟩, ⟨(some 63), none, .pick, [.t 57, .t 62, .c (.bool false)]⟩, ⟨(some 10), none, .mv, [.t 63]⟩]) (.seq (.reg [⟨(some 64), none, .mv, [.t 4]⟩, ⟨(some 65), none, .mv, [.t 6]⟩, ⟨(some 66), none, (.bin .add), [.t 64, .t 65]⟩, ⟨(some 67), none, (.bin .add), [.t 66, .c (.int .i64 1)]⟩, ⟨(some 68), none, .mn, [.t 67, .c (.int .i64 1000)]⟩, ⟨(some 69), none, .mv, [.t 5]⟩, ⟨(some 70), none, .mv, [.t 69]⟩, ⟨(some 71), (some (70, true)), .mv, [.t 7]⟩, ⟨(some 72), none, .pick, [.t 70, .t 71, .c (.bool false)]⟩, ⟨(some 73), none, .mv, [.t 72]⟩, ⟨(some 74), (some (73, true)), .mv, [.t 10]⟩, ⟨(some 75), (some (73, true)), .not, [.t 74]⟩, ⟨(some 76), none, .pick, [.t 73, .t 75, .c (.bool false)]⟩, ⟨(some 2), none, .mv, [.t 68]⟩, ⟨(some 3), none, .mv, [.t 76]⟩]) .ret))))))))
theorem comp_ref04_count : compF Try.prog (mset [] [40, 42, 44, 46] [8, 9]) (cset [] [] []) (wset [] []) Try.f88 = some c_ref04_count := by kernel_rfl
theorem ok_ref04_count : fnOk Try.prog F_ref04_count = true := by kernel_rfl
theorem calls_ref04_count {args : List AV} {r : AV} (h : RunsX Try.prog 0 (Gives [.t 2, .t 3] r) [.c c_ref04_count] (args ++ List.replicate (77 - args.length) (.tup [])) [] zeroC) : PCalls Try.prog F_ref04_count args r :=
  pcallsF Try.checked.mixed Try.func88 ok_ref04_count comp_ref04_count rfl (rs := [.t 2, .t 3]) (by kernel_rfl) h
theorem hcalls_ref04_count {args : List AV} {Hin Hout : Heap} {nx nx2 : Ctr} {r : AV} (φ : Nat) (ks : List (Nat × Nat)) (h : RunsX Try.prog φ (GivesH ks [.t 2, .t 3] r Hout nx2) [.c c_ref04_count] (args ++ List.replicate (77 - args.length) (.tup [])) Hin nx) : HCalls Try.prog F_ref04_count args Hin nx r Hout nx2 :=
  hcallsF Try.checked.mixed Try.func88 ok_ref04_count comp_ref04_count rfl (rs := [.t 2, .t 3]) (by kernel_rfl) φ ks h

/-- pedlar/pedlarref04.Right: parameters [24], results [.t 2], calls ref04_Deep, ref04_count -/
def c_ref04_Right : Cd := (.seq (.reg [⟨(some 1), none, .box, [.t 0]⟩, ⟨(some 2), none, .mv, [.c (.bool false)]⟩]) (.seq (.seq (.reg [⟨(some 5), none, (.ldn 2), [.t 1]⟩, ⟨(some 6), none, (.call F_ref04_Deep 0), [.t 5, .c (.int .i64 8)]⟩, ⟨(some 7), none, (.bin .gtr), [.t 6, .c (.int .i64 8)]⟩]) (.cond (.t 7) (.seq (.reg [⟨(some 2), none, .mv, [.c (.bool false)]⟩]) .ret) .skip)) (.seq (.reg [⟨(some 9), none, (.ldn 2), [.t 1]⟩, ⟨(some 10), none, (.call F_ref04_count 0), [.t 9]⟩, ⟨(some 8), none, .mv, [.t 10]⟩, ⟨(some 11), none, (.ext 0), [.t 8]⟩, ⟨(some 12), none, (.ext 1), [.t 8]⟩, ⟨(some 3), none, .mv, [.t 11]⟩, ⟨(some 4), none, .mv, [.t 12]⟩]) (.seq (.reg [⟨(some 13), none, .mv, [.t 4]⟩, ⟨(some 14), none, .mv, [.t 13]⟩, ⟨(some 15), (some (14, true)), .mv, [.t 3]⟩, ⟨(some 16), (some (14, true)), (.bin .leq), [.t 15, .c (.int .i64 60)]⟩, ⟨(some 17), none, .pick, [.t 14, .t 16, .c (.bool false)]⟩, ⟨(some 2), none, .mv, [.t 17]⟩]) .ret))))
theorem comp_ref04_Right : compF Try.prog (mset [] [] []) (cset [] [] []) (wset [] []) Try.f16 = some c_ref04_Right := by kernel_rfl
theorem ok_ref04_Right : fnOk Try.prog F_ref04_Right = true := by kernel_rfl
theorem calls_ref04_Right {args : List AV} {r : AV} (h : RunsX Try.prog 0 (Gives [.t 2] r) [.c c_ref04_Right] (args ++ List.replicate (18 - args.length) (.tup [])) [] zeroC) : PCalls Try.prog F_ref04_Right args r :=
  pcallsF Try.checked.mixed Try.func16 ok_ref04_Right comp_ref04_Right rfl (rs := [.t 2]) (by kernel_rfl) h
theorem hcalls_ref04_Right {args : List AV} {Hin Hout : Heap} {nx nx2 : Ctr} {r : AV} (φ : Nat) (ks : List (Nat × Nat)) (h : RunsX Try.prog φ (GivesH ks [.t 2] r Hout nx2) [.c c_ref04_Right] (args ++ List.replicate (18 - args.length) (.tup [])) Hin nx) : HCalls Try.prog F_ref04_Right args Hin nx r Hout nx2 :=
  hcallsF Try.checked.mixed Try.func16 ok_ref04_Right comp_ref04_Right rfl (rs := [.t 2]) (by kernel_rfl) φ ks h

/-- pedlar/pedlarref04.Row: parameters [24], results [.t 2], calls  -/
def wl_ref04_Row_2 : Mk := ⟨[true, false, true, false, false, false, false, true, true, false, false, true, true, true, true, true, true, true, true, true, true, true, true, true, true, true, true, true, true, true, true, true, true, true, true], []⟩
abbrev s_ref04_Row_2 (t1 t3 t4 t5 t6 t9 t10 : AV) : List AV := [.any, t1, .any, t3, t4, t5, t6, .any, .any, t9, t10, .any, .any, .any, .any, .any, .any, .any, .any, .any, .any, .any, .any, .any, .any, .any, .any, .any, .any, .any, .any, .any, .any, .any, .any]
def c_ref04_Row_l2 : Cd := (.seq (.seq (.reg [⟨(some 14), none, (.fa 1), [.t 5]⟩, ⟨(some 15), none, .ld1, [.t 14]⟩, ⟨(some 16), none, .len, [.t 15]⟩, ⟨(some 17), none, (.bin .eql), [.t 16, .c (.int .i64 2)]⟩]) (.cond (.t 17) .skip (.exit 2))) (.seq (.blk 3 [] (.reg [⟨(some 20), none, (.fa 1), [.t 5]⟩, ⟨(some 21), none, .ld1, [.t 20]⟩, ⟨(some 22), none, .mv, [.t 4]⟩, ⟨(some 23), none, .mv, [.t 6]⟩, ⟨(some 24), none, (.bin .quo), [.t 22, .t 23]⟩, ⟨(some 25), none, (.bin .rem), [.t 24, .c (.int .i64 2)]⟩, ⟨(some 26), none, (.ixS 2), [.t 21, .t 25]⟩, ⟨(some 27), none, (.ldn 2), [.t 26]⟩, ⟨none, none, (.st 2), [.t 5, .t 27]⟩])) (.reg [⟨(some 18), none, .mv, [.t 6]⟩, ⟨(some 19), none, (.bin .quo), [.t 18, .c (.int .i64 2)]⟩, ⟨(some 6), none, .mv, [.t 19]⟩])))
def wb_ref04_Row_2 : List Bool := [true, false, true, false, false, false, true, true, true, false, false, true, true, true, true, true, true, true, true, true, true, true, true, true, true, true, true, true, true, true, true, true, true, true, true]
abbrev e_ref04_Row_2 (t1 t3 t4 t5 t9 t10 : AV) : List AV := [.any, t1, .any, t3, t4, t5, .any, .any, .any, t9, t10, .any, .any, .any, .any, .any, .any, .any, .any, .any, .any, .any, .any, .any, .any, .any, .any, .any, .any, .any, .any, .any, .any, .any, .any]
abbrev i_ref04_Row_2 : List It := [.lp wl_ref04_Row_2 c_ref04_Row_l2, .blk 2 wb_ref04_Row_2]
def c_ref04_Row_k0 : Cd := (.reg [⟨(some 28), none, .mv, [.t 3]⟩, ⟨(some 29), none, .mv, [.t 4]⟩, ⟨(some 30), none, (.fa 0), [.t 5]⟩, ⟨(some 31), none, .ld1, [.t 30]⟩, ⟨(some 32), none, (.ixS 1), [.t 28, .t 29]⟩, ⟨none, none, (.st 1), [.t 32, .t 31]⟩])
def wb_ref04_Row_1 : List Bool := [true, false, true, false, true, true, true, true, true, false, false, true, true, true, true, true, true, true, true, true, true, true, true, true, true, true, true, true, true, true, true, true, true, true, true]
abbrev e_ref04_Row_1 (t1 t3 t9 t10 : AV) : List AV := [.any, t1, .any, t3, .any, .any, .any, .any, .any, t9, t10, .any, .any, .any, .any, .any, .any, .any, .any, .any, .any, .any, .any, .any, .any, .any, .any, .any, .any, .any, .any, .any, .any, .any, .any]
def c_ref04_Row_k1 : Cd := (.reg [⟨(some 33), none, (.bin .add), [.t 10, .c (.int .i64 1)]⟩, ⟨(some 10), none, .mv, [.t 33]⟩])
def wl_ref04_Row_0 : Mk := ⟨[true, false, true, false, true, true, true, true, true, false, false, true, true, true, true, true, true, true, true, true, true, true, true, true, true, true, true, true, true, true, true, true, true, true, true], [5]⟩
abbrev s_ref04_Row_0 (t1 t3 t9 t10 : AV) : List AV := [.any, t1, .any, t3, .any, .any, .any, .any, .any, t9, t10, .any, .any, .any, .any, .any, .any, .any, .any, .any, .any, .any, .any, .any, .any, .any, .any, .any, .any, .any, .any, .any, .any, .any, .any]
def c_ref04_Row_l0 : Cd := (.seq (.reg [⟨(some 11), none, (.bin .lss), [.t 10, .t 9]⟩]) (.seq (.cond (.t 11) .skip (.exit 0)) (.seq (.blk 1 wb_ref04_Row_1 (.seq (.reg [⟨(some 12), none, .mv, [.t 10]⟩, ⟨(some 4), none, .mv, [.t 12]⟩]) (.seq (.reg [⟨(some 13), none, (.ldn 2), [.t 1]⟩, ⟨(some 5), none, (.new [(.bool false), .nils] 5), []⟩, ⟨none, none, (.st 2), [.t 5, .t 13]⟩]) (.seq (.seq (.reg [⟨(some 6), none, .mv, [.c (.int .i64 64)]⟩]) (.blk 2 wb_ref04_Row_2 (.loop wl_ref04_Row_2 c_ref04_Row_l2))) c_ref04_Row_k0)))) c_ref04_Row_k1)))
def wb_ref04_Row_0 : List Bool := [true, true, true, false, true, true, true, true, true, true, true, true, true, true, true, true, true, true, true, true, true, true, true, true, true, true, true, true, true, true, true, true, true, true, true]
abbrev e_ref04_Row_0 (t3 : AV) : List AV := [.any, .any, .any, t3, .any, .any, .any, .any, .any, .any, .any, .any, .any, .any, .any, .any, .any, .any, .any, .any, .any, .any, .any, .any, .any, .any, .any, .any, .any, .any, .any, .any, .any, .any, .any]
abbrev i_ref04_Row_0 : List It := [.lp wl_ref04_Row_0 c_ref04_Row_l0, .blk 0 wb_ref04_Row_0]
def c_ref04_Row_k2 : Cd := (.seq (.reg [⟨(some 34), none, .mv, [.t 3]⟩, ⟨(some 2), none, .mv, [.t 34]⟩]) .ret)
def c_ref04_Row : Cd := (.seq (.reg [⟨(some 1), none, .box, [.t 0]⟩, ⟨(some 2), none, .mv, [.c .nils]⟩]) (.seq (.reg [⟨(some 7), none, (.mk (.bool false) 1 7), [.c (.int .i64 128)]⟩, ⟨(some 3), none, .mv, [.t 7]⟩]) (.seq (.seq (.reg [⟨(some 8), none, .mv, [.t 3]⟩, ⟨(some 9), none, .len, [.t 8]⟩, ⟨(some 10), none, .mv, [.c (.int .i64 0)]⟩]) (.blk 0 wb_ref04_Row_0 (.loop wl_ref04_Row_0 c_ref04_Row_l0))) c_ref04_Row_k2)))
theorem comp_ref04_Row : compF Try.prog (mset [] [] []) (cset [] [] []) (wset [(2, wl_ref04_Row_2, wb_ref04_Row_2), (1, ⟨[], []⟩, wb_ref04_Row_1), (0, wl_ref04_Row_0, wb_ref04_Row_0)] []) Try.f42 = some c_ref04_Row := by kernel_rfl
theorem ok_ref04_Row : fnOk Try.prog F_ref04_Row = true := by kernel_rfl
theorem calls_ref04_Row {args : List AV} {r : AV} (h : RunsX Try.prog 0 (Gives [.t 2] r) [.c c_ref04_Row] (args ++ List.replicate (35 - args.length) (.tup [])) [] zeroC) : PCalls Try.prog F_ref04_Row args r :=
  pcallsF Try.checked.mixed Try.func42 ok_ref04_Row comp_ref04_Row rfl (rs := [.t 2]) (by kernel_rfl) h
theorem hcalls_ref04_Row {args : List AV} {Hin Hout : Heap} {nx nx2 : Ctr} {r : AV} (φ : Nat) (ks : List (Nat × Nat)) (h : RunsX Try.prog φ (GivesH ks [.t 2] r Hout nx2) [.c c_ref04_Row] (args ++ List.replicate (35 - args.length) (.tup [])) Hin nx) : HCalls Try.prog F_ref04_Row args Hin nx r Hout nx2 :=
  hcallsF Try.checked.mixed Try.func42 ok_ref04_Row comp_ref04_Row rfl (rs := [.t 2]) (by kernel_rfl) φ ks h

/-- pedlar/pedlarref04.Same: parameters [24, 24], results [.t 4], calls ref04_Same -/
def wl_ref04_Same_0 : Mk := ⟨[true, true, false, false, true, true, true, true, true, true, true, true, true, true, true, true, true, true, true, true, true, true, false, false, true, true, true, true, true, true, true, true, true, true, true, true, true, true, true], []⟩
abbrev s_ref04_Same_0 (t2 t3 t22 t23 : AV) : List AV := [.any, .any, t2, t3, .any, .any, .any, .any, .any, .any, .any, .any, .any, .any, .any, .any, .any, .any, .any, .any, .any, .any, t22, t23, .any, .any, .any, .any, .any, .any, .any, .any, .any, .any, .any, .any, .any, .any, .any]
def c_ref04_Same_l0 : Cd := (.seq (.reg [⟨(some 24), none, (.bin .lss), [.t 23, .t 22]⟩]) (.seq (.cond (.t 24) .skip (.exit 0)) (.seq (.blk 1 [] (.seq (.reg [⟨(some 25), none, .mv, [.t 23]⟩, ⟨(some 5), none, .mv, [.t 25]⟩]) (.seq (.reg [⟨(some 26), none, (.fa 1), [.t 2]⟩, ⟨(some 27), none, .ld1, [.t 26]⟩, ⟨(some 28), none, .mv, [.t 5]⟩, ⟨(some 29), none, (.ixS 2), [.t 27, .t 28]⟩, ⟨(some 30), none, (.ldn 2), [.t 29]⟩, ⟨(some 31), none, (.fa 1), [.t 3]⟩, ⟨(some 32), none, .ld1, [.t 31]⟩, ⟨(some 33), none, .mv, [.t 5]⟩, ⟨(some 34), none, (.ixS 2), [.t 32, .t 33]⟩, ⟨(some 35), none, (.ldn 2), [.t 34]⟩, ⟨(some 36), none, (.call F_ref04_Same 0), [.t 30, .t 35]⟩, ⟨(some 37), none, .not, [.t 36]⟩]) (.cond (.t 37) (.seq (.reg [⟨(some 4), none, .mv, [.c (.bool false)]⟩]) .ret) .skip)))) (.reg [⟨(some 38), none, (.bin .add), [.t 23, .c (.int .i64 1)]⟩, ⟨(some 23), none, .mv, [.t 38]⟩]))))
def wb_ref04_Same_0 : List Bool := [true, true, true, true, true, true, true, true, true, true, true, true, true, true, true, true, true, true, true, true, true, true, true, true, true, true, true, true, true, true, true, true, true, true, true, true, true, true, true]
abbrev e_ref04_Same_0 : List AV := [.any, .any, .any, .any, .any, .any, .any, .any, .any, .any, .any, .any, .any, .any, .any, .any, .any, .any, .any, .any, .any, .any, .any, .any, .any, .any, .any, .any, .any, .any, .any, .any, .any, .any, .any, .any, .any, .any, .any]
abbrev i_ref04_Same_0 : List It := [.lp wl_ref04_Same_0 c_ref04_Same_l0, .blk 0 wb_ref04_Same_0]
def c_ref04_Same_k0 : Cd := (.seq (.reg [⟨(some 4), none, .mv, [.c (.bool true)]⟩]) .ret)
def c_ref04_Same : Cd := (.seq (.reg [⟨(some 2), none, .box, [.t 0]⟩, ⟨(some 3), none, .box, [.t 1]⟩, ⟨(some 4), none, .mv, [.c (.bool false)]⟩]) (.seq (.seq (.reg [⟨(some 6), none, (.fa 0), [.t 2]⟩, ⟨(some 7), none, .ld1, [.t 6]⟩, ⟨(some 8), none, (.fa 0), [.t 3]⟩, ⟨(some 9), none, .ld1, [.t 8]⟩, ⟨(some 10), none, (.eqb true), [.t 7, .t 9]⟩, ⟨(some 11), none, .mv, [.t 10]⟩, ⟨(some 12), (some (11, false)), (.fa 1), [.t 2]⟩, ⟨(some 13), (some (11, false)), .ld1, [.t 12]⟩, ⟨(some 14), (some (11, false)), .len, [.t 13]⟩, ⟨(some 15), (some (11, false)), (.fa 1), [.t 3]⟩, ⟨(some 16), (some (11, false)), .ld1, [.t 15]⟩, ⟨(some 17), (some (11, false)), .len, [.t 16]⟩, ⟨(some 18), (some (11, false)), (.bin .neq), [.t 14, .t 17]⟩, ⟨(some 19), none, .pick, [.t 11, .c (.bool true), .t 18]⟩]) (.cond (.t 19) (.seq (.reg [⟨(some 4), none, .mv, [.c (.bool false)]⟩]) .ret) .skip)) (.seq (.seq (.reg [⟨(some 20), none, (.fa 1), [.t 2]⟩, ⟨(some 21), none, .ld1, [.t 20]⟩, ⟨(some 22), none, .len, [.t 21]⟩, ⟨(some 23), none, .mv, [.c (.int .i64 0)]⟩]) (.blk 0 wb_ref04_Same_0 (.loop wl_ref04_Same_0 c_ref04_Same_l0))) c_ref04_Same_k0)))
theorem comp_ref04_Same : compF Try.prog (mset [] [] []) (cset [] [] []) (wset [(0, wl_ref04_Same_0, wb_ref04_Same_0)] []) Try.f18 = some c_ref04_Same := by kernel_rfl
theorem ok_ref04_Same : fnOk Try.prog F_ref04_Same = true := by kernel_rfl
theorem calls_ref04_Same {args : List AV} {r : AV} (h : RunsX Try.prog 0 (Gives [.t 4] r) [.c c_ref04_Same] (args ++ List.replicate (39 - args.length) (.tup [])) [] zeroC) : PCalls Try.prog F_ref04_Same args r :=
  pcallsF Try.checked.mixed Try.func18 ok_ref04_Same comp_ref04_Same rfl (rs := [.t 4]) (by kernel_rfl) h
theorem hcalls_ref04_Same {args : List AV} {Hin Hout : Heap} {nx nx2 : Ctr} {r : AV} (φ : Nat) (ks : List (Nat × Nat)) (h : RunsX Try.prog φ (GivesH ks [.t 4] r Hout nx2) [.c c_ref04_Same] (args ++ List.replicate (39 - args.length) (.tup [])) Hin nx) : HCalls Try.prog F_ref04_Same args Hin nx r Hout nx2 :=
  hcallsF Try.checked.mixed Try.func18 ok_ref04_Same comp_ref04_Same rfl (rs := [.t 4]) (by kernel_rfl) φ ks h

/-- pedlar/pedlarlaw04.count: parameters [24, 3], results [.t 4], calls law04_count -/
def wl_law04_count_0 : Mk := ⟨[true, false, false, true, true, false, true, true, true, true, true, false, false, true, true, true, true, true, true, true, true, true, true, true, true, true, true, true, true, true], []⟩
abbrev s_law04_count_0 (t1 t2 t5 t11 t12 : AV) : List AV := [.any, t1, t2, .any, .any, t5, .any, .any, .any, .any, .any, t11, t12, .any, .any, .any, .any, .any, .any, .any, .any, .any, .any, .any, .any, .any, .any, .any, .any, .any]
def c_law04_count_l0 : Cd := (.seq (.reg [⟨(some 13), none, (.bin .lss), [.t 12, .t 11]⟩]) (.seq (.cond (.t 13) .skip (.exit 0)) (.seq (.blk 1 [] (.seq (.reg [⟨(some 14), none, .mv, [.t 12]⟩, ⟨(some 6), none, .mv, [.t 14]⟩]) (.seq (.reg [⟨(some 15), none, .mv, [.t 5]⟩, ⟨(some 16), none, (.fa 1), [.t 2]⟩, ⟨(some 17), none, .ld1, [.t 16]⟩, ⟨(some 18), none, .mv, [.t 6]⟩, ⟨(some 19), none, (.ixS 2), [.t 17, .t 18]⟩, ⟨(some 20), none, (.ldn 2), [.t 19]⟩, ⟨(some 21), none, .mv, [.t 1]⟩, ⟨(some 22), none, (.bin .sub), [.t 21, .c (.int .i64 1)]⟩, ⟨(some 23), none, (.call F_law04_count 0), [.t 20, .t 22]⟩, ⟨(some 24), none, (.bin .add), [.t 15, .t 23]⟩, ⟨(some 5), none, .mv, [.t 24]⟩]) (.seq (.reg [⟨(some 25), none, .mv, [.t 5]⟩, ⟨(some 26), none, (.bin .gtr), [.t 25, .c (.int .i64 1000)]⟩]) (.cond (.t 26) (.seq (.reg [⟨(some 27), none, .mv, [.t 5]⟩, ⟨(some 4), none, .mv, [.t 27]⟩]) .ret) .skip))))) (.reg [⟨(some 28), none, (.bin .add), [.t 12, .c (.int .i64 1)]⟩, ⟨(some 12), none, .mv, [.t 28]⟩]))))
def wb_law04_count_0 : List Bool := [true, true, true, true, true, false, true, true, true, true, true, true, true, true, true, true, true, true, true, true, true, true, true, true, true, true, true, true, true, true]
abbrev e_law04_count_0 (t5 : AV) : List AV := [.any, .any, .any, .any, .any, t5, .any, .any, .any, .any, .any, .any, .any, .any, .any, .any, .any, .any, .any, .any, .any, .any, .any, .any, .any, .any, .any, .any, .any, .any]
abbrev i_law04_count_0 : List It := [.lp wl_law04_count_0 c_law04_count_l0, .blk 0 wb_law04_count_0]
def c_law04_count_k0 : Cd := (.seq (.reg [⟨(some 29), none, .mv, [.t 5]⟩, ⟨(some 4), none, .mv, [.t 29]⟩]) .ret)
def c_law04_count : Cd := (.seq (.reg [⟨(some 2), none, .box, [.t 0]⟩, ⟨(some 4), none, .mv, [.c (.int .i64 0)]⟩]) (.seq (.seq (.reg [⟨(some 7), none, .mv, [.t 1]⟩, ⟨(some 8), none, (.bin .lss), [.t 7, .c (.int .i64 1)]⟩]) (.cond (.t 8) (.seq (.reg [⟨(some 4), none, .mv, [.c (.int .i64 2000)]⟩]) .ret) .skip)) (.seq (.reg [⟨(some 5), none, .mv, [.c (.int .i64 1)]⟩]) (.seq (.seq (.reg [⟨(some 9), none, (.fa 1), [.t 2]⟩, ⟨(some 10), none, .ld1, [.t 9]⟩, ⟨(some 11), none, .len, [.t 10]⟩, ⟨(some 12), none, .mv, [.c (.int .i64 0)]⟩]) (.blk 0 wb_law04_count_0 (.loop wl_law04_count_0 c_law04_count_l0))) c_law04_count_k0))))
theorem comp_law04_count : compF Try.prog (mset [] [] []) (cset [] [] []) (wset [(0, wl_law04_count_0, wb_law04_count_0)] []) Try.f84 = some c_law04_count := by kernel_rfl
theorem ok_law04_count : fnOk Try.prog F_law04_count = true := by kernel_rfl
theorem calls_law04_count {args : List AV} {r : AV} (h : RunsX Try.prog 0 (Gives [.t 4] r) [.c c_law04_count] (args ++ List.replicate (30 - args.length) (.tup [])) [] zeroC) : PCalls Try.prog F_law04_count args r :=
  pcallsF Try.checked.mixed Try.func84 ok_law04_count comp_law04_count rfl (rs := [.t 4]) (by kernel_rfl) h
theorem hcalls_law04_count {args : List AV} {Hin Hout : Heap} {nx nx2 : Ctr} {r : AV} (φ : Nat) (ks : List (Nat × Nat)) (h : RunsX Try.prog φ (GivesH ks [.t 4] r Hout nx2) [.c c_law04_count] (args ++ List.replicate (30 - args.length) (.tup [])) Hin nx) : HCalls Try.prog F_law04_count args Hin nx r Hout nx2 :=
  hcallsF Try.checked.mixed Try.func84 ok_law04_count comp_law04_count rfl (rs := [.t 4]) (by kernel_rfl) φ ks h

/-- pedlar/pedlarlaw04.Few: parameters [24, 3], results [.t 4], calls law04_count -/
def c_law04_Few : Cd := (.seq (.reg [⟨(some 2), none, .box, [.t 0]⟩, ⟨(some 4), none, .mv, [.c (.bool false)]⟩]) (.seq (.reg [⟨(some 5), none, (.ldn 2), [.t 2]⟩, ⟨(some 6), none, .mv, [.t 1]⟩, ⟨(some 7), none, (.call F_law04_count 0), [.t 5, .t 6]⟩, ⟨(some 8), none, (.bin .leq), [.t 7, .c (.int .i64 1000)]⟩, ⟨(some 4), none, .mv, [.t 8]⟩]) .ret))
theorem comp_law04_Few : compF Try.prog (mset [] [] []) (cset [] [] []) (wset [] []) Try.f14 = some c_law04_Few := by kernel_rfl
theorem ok_law04_Few : fnOk Try.prog F_law04_Few = true := by kernel_rfl
theorem calls_law04_Few {args : List AV} {r : AV} (h : RunsX Try.prog 0 (Gives [.t 4] r) [.c c_law04_Few] (args ++ List.replicate (9 - args.length) (.tup [])) [] zeroC) : PCalls Try.prog F_law04_Few args r :=
  pcallsF Try.checked.mixed Try.func14 ok_law04_Few comp_law04_Few rfl (rs := [.t 4]) (by kernel_rfl) h
theorem hcalls_law04_Few {args : List AV} {Hin Hout : Heap} {nx nx2 : Ctr} {r : AV} (φ : Nat) (ks : List (Nat × Nat)) (h : RunsX Try.prog φ (GivesH ks [.t 4] r Hout nx2) [.c c_law04_Few] (args ++ List.replicate (9 - args.length) (.tup [])) Hin nx) : HCalls Try.prog F_law04_Few args Hin nx r Hout nx2 :=
  hcallsF Try.checked.mixed Try.func14 ok_law04_Few comp_law04_Few rfl (rs := [.t 4]) (by kernel_rfl) φ ks h

/-- pedlar/pedlarlaw04.awake: parameters [], results [.t 0], calls ident_All, ident_Right, ident_Has -/
def c_law04_awake : Cd := (.seq (.reg [⟨(some 0), none, .mv, [.c (.bool false)]⟩]) (.seq (.reg [⟨(some 1), none, (.call F_ident_All 0), []⟩, ⟨(some 2), none, (.call F_ident_Right 0), [.t 1]⟩, ⟨(some 3), none, .mv, [.t 2]⟩, ⟨(some 4), (some (3, true)), (.call F_ident_All 0), []⟩, ⟨(some 5), (some (3, true)), (.call F_ident_Has 0), [.t 4, .c (.int .u8 77)]⟩, ⟨(some 6), none, .pick, [.t 3, .t 5, .c (.bool false)]⟩, ⟨(some 0), none, .mv, [.t 6]⟩]) .ret))
theorem comp_law04_awake : compF Try.prog (mset [] [] []) (cset [] [] []) (wset [] []) Try.f13 = some c_law04_awake := by kernel_rfl
theorem ok_law04_awake : fnOk Try.prog F_law04_awake = true := by kernel_rfl
theorem calls_law04_awake {args : List AV} {r : AV} (h : RunsX Try.prog 0 (Gives [.t 0] r) [.c c_law04_awake] (args ++ List.replicate (7 - args.length) (.tup [])) [] zeroC) : PCalls Try.prog F_law04_awake args r :=
  pcallsF Try.checked.mixed Try.func13 ok_law04_awake comp_law04_awake rfl (rs := [.t 0]) (by kernel_rfl) h
theorem hcalls_law04_awake {args : List AV} {Hin Hout : Heap} {nx nx2 : Ctr} {r : AV} (φ : Nat) (ks : List (Nat × Nat)) (h : RunsX Try.prog φ (GivesH ks [.t 0] r Hout nx2) [.c c_law04_awake] (args ++ List.replicate (7 - args.length) (.tup [])) Hin nx) : HCalls Try.prog F_law04_awake args Hin nx r Hout nx2 :=
  hcallsF Try.checked.mixed Try.func13 ok_law04_awake comp_law04_awake rfl (rs := [.t 0]) (by kernel_rfl) φ ks h

def tab_CdIdent : List (Nat × Cd × Nat × List RS) := [(F_ident_leaf, c_ident_leaf, 7, [.t 2]), (F_ident_Nothing, c_ident_Nothing, 10, [.t 2]), (F_ident_All, c_ident_All, 2, [.cn 0 2]), (F_ident_count, c_ident_count, 42, [.t 4]), (F_ident_short, c_ident_short, 37, [.t 2]), (F_ident_Right, c_ident_Right, 10, [.t 2]), (F_ident_same, c_ident_same, 47, [.t 6]), (F_ident_Same, c_ident_Same, 8, [.t 4]), (F_ident_shallow, c_ident_shallow, 26, [.t 4]), (F_ident_clone, c_ident_clone, 45, [.cn 4 2, .t 5]), (F_ident_Clone, c_ident_Clone, 15, [.cn 2 2]), (F_ident_Has, c_ident_Has, 21, [.t 4]), (F_ref04_Deep, c_ref04_Deep, 28, [.t 4]), (F_ref04_count, c_ref04_count, 77, [.t 2, .t 3]), (F_ref04_Right, c_ref04_Right, 18, [.t 2]), (F_ref04_Row, c_ref04_Row, 35, [.t 2]), (F_ref04_Same, c_ref04_Same, 39, [.t 4]), (F_law04_count, c_law04_count, 30, [.t 4]), (F_law04_Few, c_law04_Few, 9, [.t 4]), (F_law04_awake, c_law04_awake, 7, [.t 0])]
theorem tok_CdIdent : TabOk Try.prog (tabOf tab_CdIdent) := tab_cons calls_ident_leaf hcalls_ident_leaf (tab_cons calls_ident_Nothing hcalls_ident_Nothing (tab_cons calls_ident_All hcalls_ident_All (tab_cons calls_ident_count hcalls_ident_count (tab_cons calls_ident_short hcalls_ident_short (tab_cons calls_ident_Right hcalls_ident_Right (tab_cons calls_ident_same hcalls_ident_same (tab_cons calls_ident_Same hcalls_ident_Same (tab_cons calls_ident_shallow hcalls_ident_shallow (tab_cons calls_ident_clone hcalls_ident_clone (tab_cons calls_ident_Clone hcalls_ident_Clone (tab_cons calls_ident_Has hcalls_ident_Has (tab_cons calls_ref04_Deep hcalls_ref04_Deep (tab_cons calls_ref04_count hcalls_ref04_count (tab_cons calls_ref04_Right hcalls_ref04_Right (tab_cons calls_ref04_Row hcalls_ref04_Row (tab_cons calls_ref04_Same hcalls_ref04_Same (tab_cons calls_law04_count hcalls_law04_count (tab_cons calls_law04_Few hcalls_law04_Few (tab_cons calls_law04_awake hcalls_law04_awake (tab_nil))))))))))))))))))))
end Go.Proofs.Ytmokhopjnjecbab
/- Trees of identities, and what the words say of them: plain. -/
namespace Go.Ev
set_option linter.unusedVariables false

inductive Tree where
  | mk (one : Bool) (ps : List Tree)
def Tree.one : Tree → Bool | .mk o _ => o
def Tree.ps : Tree → List Tree | .mk _ ps => ps
theorem Tree.eta (t : Tree) : Tree.mk t.one t.ps = t := by cases t; rfl
mutual
def tav : Tree → AV
  | .mk o ps => .agg [.bool o, .fz 2 (tavs ps) none]
def tavs : List Tree → List AV
  | [] => []
  | p :: ps => tav p :: tavs ps
end
/-- A tree, as a value. -/
abbrev tv (t : Tree) : AV := .agg [.bool t.one, .fz 2 (tavs t.ps) none]
theorem tav_tv (t : Tree) : tav t = tv t := by cases t; simp only [tav]; rfl
theorem tavs_len : ∀ ps, (tavs ps).length = ps.length
  | [] => by simp only [tavs, List.length_nil]
  | p :: ps => by simp only [tavs, List.length_cons, tavs_len ps]
theorem tavs_get : ∀ (ps : List Tree) (i : Nat), (tavs ps)[i]? = ps[i]?.map tv
  | [], i => by simp [tavs]
  | p :: ps, 0 => by simp [tavs, tav_tv]
  | p :: ps, i + 1 => by simp only [tavs, List.getElem?_cons_succ]; exact tavs_get ps i
theorem tavs_append : ∀ (a b : List Tree), tavs a ++ tavs b = tavs (a ++ b)
  | [], b => by simp [tavs]
  | p :: a, b => by simp [tavs, tavs_append a b]

mutual
def Tree.size : Tree → Nat
  | .mk _ ps => 1 + sizes ps
def sizes : List Tree → Nat
  | [] => 0
  | p :: ps => p.size + sizes ps
end
theorem size_mem {p : Tree} : ∀ {ps : List Tree}, p ∈ ps → p.size ≤ sizes ps
  | q :: ps, h => by
    simp only [sizes]
    rcases List.mem_cons.1 h with rfl | h
    · omega
    · have := size_mem h; omega
theorem size_ps (t : Tree) : t.size = 1 + sizes t.ps := by cases t; simp only [Tree.size, Tree.ps]
theorem size_lt {t p : Tree} (h : p ∈ t.ps) : p.size < t.size := by have := size_mem h; rw [size_ps t]; omega
/-- Whoever holds of a tree if it holds of its parts holds of all. -/
theorem Tree.ind {C : Tree → Prop} (h : ∀ t, (∀ p ∈ t.ps, C p) → C t) : ∀ t, C t := by
  have key : ∀ n t, t.size < n → C t := by
    intro n
    induction n with
    | zero => intro t ht; omega
    | succ n ih => exact fun t ht => h t (fun p hp => ih p (by have := size_lt hp; omega))
  exact fun t => key _ t (Nat.lt_succ_self _)

/-- How deep, as far as so many levels. -/
def deepL (f : Tree → Nat) : Nat → List Tree → Nat
  | n, [] => n
  | n, p :: ps => deepL f (max n (f p)) ps
def deep : Nat → Tree → Nat
  | 0, _ => 1
  | m + 1, t => deepL (deep m) 0 t.ps + 1
/-- No deeper than that. -/
def flatTo : Nat → Tree → Prop
  | 0, _ => False
  | d + 1, t => ∀ p ∈ t.ps, flatTo d p
theorem deepL_le (f : Tree → Nat) (b : Nat) : ∀ (n : Nat) (ps : List Tree), deepL f n ps ≤ b ↔ n ≤ b ∧ ∀ p ∈ ps, f p ≤ b
  | n, [] => by simp [deepL]
  | n, p :: ps => by
    simp only [deepL, deepL_le f b _ ps, List.mem_cons, forall_eq_or_imp]
    constructor
    · rintro ⟨h1, h2⟩; exact ⟨by omega, by omega, h2⟩
    · rintro ⟨h1, h2, h3⟩; exact ⟨by omega, h3⟩
theorem deep_pos (m : Nat) (t : Tree) : 1 ≤ deep m t := by cases m <;> simp [deep]
theorem deep_le : ∀ (m : Nat) (t : Tree), deep m t ≤ m ↔ flatTo m t
  | 0, t => by simp [deep, flatTo]
  | m + 1, t => by
    simp only [deep, flatTo, Nat.add_le_add_iff_right, deepL_le, Nat.zero_le, true_and]
    exact ⟨fun h p hp => (deep_le m p).1 (h p hp), fun h p hp => (deep_le m p).2 (h p hp)⟩
theorem deep_max : ∀ (m : Nat) (t : Tree), deep m t ≤ m + 1
  | 0, t => by simp [deep]
  | m + 1, t => by
    simp only [deep, Nat.add_le_add_iff_right]
    exact (deepL_le _ _ _ _).2 ⟨by omega, fun p hp => deep_max m p⟩

/-- How many nodes: 61 where it is too deep, or not of two parts or none. -/
def cntL (f : Tree → Nat) : Nat → List Tree → Nat
  | n, [] => n
  | n, p :: ps => if 60 < n + f p then 61 else cntL f (n + f p) ps
def cnt : Nat → Tree → Nat
  | 0, _ => 61
  | d + 1, t => if ¬ t.ps.length = 0 ∧ (¬ t.ps.length = 2 ∨ t.one = true) then 61 else cntL (cnt d) 1 t.ps
theorem cntL_le (f : Tree → Nat) : ∀ (n : Nat) (ps : List Tree), n ≤ 61 → cntL f n ps ≤ 61
  | n, [], h => h
  | n, p :: ps, h => by
    simp only [cntL]; split
    · omega
    · exact cntL_le f _ ps (by omega)
theorem cnt_le : ∀ (d : Nat) (t : Tree), cnt d t ≤ 61
  | 0, t => by simp [cnt]
  | d + 1, t => by
    simp only [cnt]; split
    · omega
    · exact cntL_le _ _ _ (by omega)
/-- As the reference counts. -/
def lfEq (l r : Tree) : Bool := decide (l.ps.length = 0 ∧ r.ps.length = 0 ∧ l.one = r.one)
/-- Trees of two parts or none. -/
inductive B where
  | lf (o : Bool) | nd (l r : B)
def B.t : B → Tree
  | .lf o => .mk o []
  | .nd l r => .mk false [l.t, r.t]
def B.nodes : B → Nat
  | .lf _ => 1
  | .nd l r => 1 + l.nodes + r.nodes
def B.dep : B → Nat
  | .lf _ => 1
  | .nd l r => max l.dep r.dep + 1
def B.short : B → Bool
  | .lf _ => true
  | .nd l r => l.short && r.short && !lfEq l.t r.t
theorem B.nodes_pos (b : B) : 1 ≤ b.nodes := by cases b <;> simp [B.nodes] <;> omega
theorem cnt_b : ∀ (d : Nat) (t : Tree), cnt d t ≤ 60 → ∃ b : B, t = b.t ∧ b.nodes = cnt d t ∧ b.dep ≤ d
  | 0, t, h => by simp [cnt] at h
  | d + 1, t, h => by
    simp only [cnt] at h ⊢
    by_cases hn : ¬ t.ps.length = 0 ∧ (¬ t.ps.length = 2 ∨ t.one = true)
    · rw [if_pos hn] at h; omega
    · rw [if_neg hn] at h
      rw [if_neg hn]
      have he := t.eta
      generalize t.one = o at hn he
      generalize t.ps = ps at hn he h
      subst he
      match ps, hn, h with
      | [], hn, h => exact ⟨.lf o, rfl, rfl, by simp [B.dep]⟩
      | [l, r], hn, h =>
        simp at hn
        subst hn
        simp only [cntL] at h ⊢
        split at h
        · omega
        · rename_i h1
          split at h
          · omega
          · rename_i h2
            rw [if_neg h1, if_neg h2]
            obtain ⟨bl, e1, e2, e3⟩ := cnt_b d l (by omega)
            obtain ⟨br, f1, f2, f3⟩ := cnt_b d r (by omega)
            exact ⟨.nd bl br, by rw [e1, f1]; rfl, by simp only [B.nodes]; omega, by simp only [B.dep]; omega⟩
      | [_], hn, h => simp at hn
      | _ :: _ :: _ :: _, hn, h => simp at hn
theorem b_cnt : ∀ (b : B) (d : Nat), b.nodes ≤ 60 → b.dep ≤ d → cnt d b.t = b.nodes
  | .lf o, 0, _, h => by simp [B.dep] at h
  | .lf o, d + 1, _, _ => by simp [cnt, B.t, Tree.ps, cntL, B.nodes]
  | .nd l r, 0, _, h => by simp [B.dep] at h
  | .nd l r, d + 1, h1, h2 => by
    simp only [B.nodes, B.dep] at h1 h2
    have e1 := b_cnt l d (by omega) (by omega)
    have e2 := b_cnt r d (by omega) (by omega)
    simp only [cnt, B.t, Tree.ps, Tree.one, cntL, e1, e2, B.nodes]
    simp only [List.length_cons, List.length_nil]
    rw [if_neg (by simp), if_neg (by omega), if_neg (by omega)]
/-- A right identity: the tree of two parts or none, as short as may be, neither too deep nor too great. -/
def Rt (t : Tree) : Prop := ∃ b : B, t = b.t ∧ b.dep ≤ 8 ∧ b.nodes ≤ 60 ∧ b.short = true
theorem B.inj : ∀ {a b : B}, a.t = b.t → a = b
  | .lf o, .lf o', h => by simp [B.t] at h; rw [h]
  | .lf o, .nd l r, h => by simp [B.t] at h
  | .nd l r, .lf o, h => by simp [B.t] at h
  | .nd l r, .nd l' r', h => by
    simp only [B.t, Tree.mk.injEq, List.cons.injEq, and_true, true_and] at h
    rw [B.inj h.1, B.inj h.2]
/-! ### trees compared -/
def smL (f : Tree → Tree → Bool) : List Tree → List Tree → Bool
  | p :: ps, q :: qs => f p q && smL f ps qs
  | _, _ => true
def sm : Nat → Tree → Tree → Bool
  | 0, _, _ => false
  | d + 1, a, b => decide (a.one = b.one ∧ a.ps.length = b.ps.length) && smL (sm d) a.ps b.ps
theorem smL_iff (f : Tree → Tree → Bool) (P : Tree → Prop) : ∀ (ps qs : List Tree), ps.length = qs.length → (∀ p ∈ ps, ∀ q, f p q = true ↔ p = q ∧ P p) → (smL f ps qs = true ↔ ps = qs ∧ ∀ p ∈ ps, P p)
  | [], [], _, _ => by simp [smL]
  | [], _ :: _, h, _ => by simp at h
  | _ :: _, [], h, _ => by simp at h
  | p :: ps, q :: qs, h, hf => by
    have ih := smL_iff f P ps qs (by simpa using h) (fun x hx => hf x (List.mem_cons_of_mem _ hx))
    simp only [smL, Bool.and_eq_true, ih, hf p (List.mem_cons_self) q, List.cons.injEq, List.mem_cons, forall_eq_or_imp]
    constructor
    · rintro ⟨⟨a, b⟩, c, d⟩; exact ⟨⟨a, c⟩, b, d⟩
    · rintro ⟨⟨a, c⟩, b, d⟩; exact ⟨⟨a, b⟩, c, d⟩
theorem sm_iff : ∀ (d : Nat) (a b : Tree), sm d a b = true ↔ a = b ∧ flatTo d a
  | 0, a, b => by simp [sm, flatTo]
  | d + 1, a, b => by
    simp only [sm, Bool.and_eq_true, decide_eq_true_eq, flatTo]
    constructor
    · rintro ⟨⟨h1, h2⟩, h3⟩
      have := (smL_iff (sm d) (flatTo d) a.ps b.ps h2 (fun p _ q => sm_iff d p q)).1 h3
      exact ⟨by rw [← a.eta, ← b.eta, h1, this.1], this.2⟩
    · rintro ⟨rfl, h⟩
      exact ⟨⟨rfl, rfl⟩, (smL_iff (sm d) (flatTo d) a.ps a.ps rfl (fun p _ q => sm_iff d p q)).2 ⟨rfl, h⟩⟩
/-- Alike? -/
noncomputable def teq (a b : Tree) : Bool := @decide (a = b) (Classical.propDecidable _)
theorem teq_true {a b : Tree} : teq a b = true ↔ a = b := by simp [teq]
theorem teq_step (a b : Tree) : teq a b = (decide (a.one = b.one ∧ a.ps.length = b.ps.length) && smL teq a.ps b.ps) := by
  rw [Bool.eq_iff_iff, teq_true, Bool.and_eq_true, decide_eq_true_eq]
  constructor
  · rintro rfl
    exact ⟨⟨rfl, rfl⟩, (smL_iff teq (fun _ => True) _ _ rfl (fun p _ q => by simp [teq_true])).2 ⟨rfl, by simp⟩⟩
  · rintro ⟨⟨h1, h2⟩, h3⟩
    have := (smL_iff teq (fun _ => True) a.ps b.ps h2 (fun p _ q => by simp [teq_true])).1 h3
    rw [← a.eta, ← b.eta, h1, this.1]
/-! ### as the law's bound counts -/
def lcntL (f : Tree → Nat) : Nat → List Tree → Nat
  | n, [] => n
  | n, p :: ps => if 1000 < n + f p then n + f p else lcntL f (n + f p) ps
def lcnt : Nat → Tree → Nat
  | 0, _ => 2000
  | m + 1, t => lcntL (lcnt m) 1 t.ps
theorem lcntL_le (f : Tree → Nat) (hf : ∀ t, f t ≤ 3000) : ∀ (n : Nat) (ps : List Tree), n ≤ 1000 → lcntL f n ps ≤ 4000
  | n, [], h => by simp [lcntL]; omega
  | n, p :: ps, h => by
    simp only [lcntL]; have := hf p; split
    · omega
    · exact lcntL_le f hf _ ps (by omega)
theorem lcntL_le2 (f : Tree → Nat) (b : Nat) (hf : ∀ t, f t ≤ b) : ∀ (n : Nat) (ps : List Tree), n ≤ 1000 → lcntL f n ps ≤ 1000 + b
  | n, [], h => by simp [lcntL]; omega
  | n, p :: ps, h => by
    simp only [lcntL]; have := hf p; split
    · omega
    · exact lcntL_le2 f b hf _ ps (by omega)
theorem lcnt_le : ∀ (m : Nat) (t : Tree), lcnt m t ≤ 2000 + 1000 * m
  | 0, t => by simp [lcnt]
  | m + 1, t => by
    simp only [lcnt]
    have := lcntL_le2 (lcnt m) _ (fun t => lcnt_le m t) 1 t.ps (by omega)
    omega
theorem lcnt_pos : ∀ (m : Nat) (t : Tree), 1 ≤ lcnt m t := by
  intro m
  have key : ∀ (f : Tree → Nat) (n : Nat) (ps : List Tree), 1 ≤ n → 1 ≤ lcntL f n ps := by
    intro f n ps
    induction ps generalizing n with
    | nil => intro h; exact h
    | cons p ps ih =>
      intro h
      simp only [lcntL]; split
      · omega
      · exact ih _ (by omega)
  intro t
  cases m with
  | zero => simp [lcnt]
  | succ m => exact key _ _ _ (Nat.le_refl _)
theorem lcntL_size (f : Tree → Nat) (hf : ∀ t, f t ≤ 1000 → t.size ≤ f t) : ∀ (n : Nat) (ps : List Tree), lcntL f n ps ≤ 1000 → n + sizes ps ≤ lcntL f n ps
  | n, [], h => by simp [lcntL, sizes]
  | n, p :: ps, h => by
    simp only [lcntL, sizes] at h ⊢
    split at h
    · omega
    · rename_i h1
      rw [if_neg h1]
      have := hf p (by omega)
      have := lcntL_size f hf _ ps h
      omega
theorem lcnt_size : ∀ (m : Nat) (t : Tree), lcnt m t ≤ 1000 → t.size ≤ lcnt m t
  | 0, t, h => by simp [lcnt] at h
  | m + 1, t, h => by
    simp only [lcnt] at h ⊢
    have := lcntL_size (lcnt m) (lcnt_size m) 1 t.ps h
    rw [size_ps]; exact this
theorem len_sizes : ∀ ps : List Tree, ps.length ≤ sizes ps
  | [] => by simp
  | p :: ps => by have := len_sizes ps; have := size_ps p; simp only [sizes, List.length_cons]; omega
theorem len_size (t : Tree) : t.ps.length < t.size := by have := len_sizes t.ps; rw [size_ps]; omega
end Go.Ev
/- The walk through the identities' functions. -/
-- short
namespace Go.Proofs.Ytmokhopjnjecbab
open Go.Ev
set_option linter.unusedVariables false
set_option linter.unusedSimpArgs false
set_option maxRecDepth 100000
variable {R : List AV → Heap → Ctr → Prop} {k : List It} {H : Heap} {nx : Ctr} {φ : Nat}

theorem leaf_calls (t : Tree) : PCalls Try.prog F_ident_leaf [tv t] (.bool (decide (t.ps.length = 0))) := by
  refine calls_ident_leaf (walk0 100 trivial (fun A eA => ?_))
  by_cases h : t.ps.length = 0
  · simp (disch := first | omega | (simp only [avs_len, List.length_cons, List.length_append, List.length_nil, List.length_take, List.length_drop, List.length_map]; omega) | (simp only [cells, scal1, allSz, List.length_cons, List.length_nil, List.length_append, List.length_map, List.all_cons, List.all_nil, avs_len, beq_self_eq_true, Bool.and_self, and_self, or_true, true_or, reduceCtorEq, *]; done) | fail) only [c_ident_leaf, go_sem, Nat.reduceAdd, Nat.reduceSub, Nat.reduceMul, Nat.reduceLT, Nat.reduceLeDiff, Int.reduceToNat, Nat.reduceEqDiff, Nat.reduceBEq, ↓reduceIte, reduceCtorEq, eA, scal1, tavs_len]
    exact doneG rfl
  · simp (disch := first | omega | (simp only [avs_len, List.length_cons, List.length_append, List.length_nil, List.length_take, List.length_drop, List.length_map]; omega) | (simp only [cells, scal1, allSz, List.length_cons, List.length_nil, List.length_append, List.length_map, List.all_cons, List.all_nil, avs_len, beq_self_eq_true, Bool.and_self, and_self, or_true, true_or, reduceCtorEq, *]; done) | fail) only [c_ident_leaf, go_sem, Nat.reduceAdd, Nat.reduceSub, Nat.reduceMul, Nat.reduceLT, Nat.reduceLeDiff, Int.reduceToNat, Nat.reduceEqDiff, Nat.reduceBEq, ↓reduceIte, reduceCtorEq, eA, scal1, tavs_len]
    exact doneG rfl
theorem nothing_calls (t : Tree) : PCalls Try.prog F_ident_Nothing [tv t] (.bool (decide (t.ps.length = 0) && !t.one)) := by
  refine calls_ident_Nothing (walk0 100 trivial (fun A eA => ?_))
  simp (disch := first | omega | (simp only [avs_len, List.length_cons, List.length_append, List.length_nil, List.length_take, List.length_drop, List.length_map]; omega) | (simp only [cells, scal1, allSz, List.length_cons, List.length_nil, List.length_append, List.length_map, List.all_cons, List.all_nil, avs_len, beq_self_eq_true, Bool.and_self, and_self, or_true, true_or, reduceCtorEq, *]; done) | fail) only [c_ident_Nothing, go_sem, Nat.reduceAdd, Nat.reduceSub, Nat.reduceMul, Nat.reduceLT, Nat.reduceLeDiff, Int.reduceToNat, Nat.reduceEqDiff, Nat.reduceBEq, ↓reduceIte, reduceCtorEq, eA, scal1, tavs_len]
  refine call0 100 trivial trivial (leaf_calls t) (.inl rfl) (fun A eA => ?_)
  by_cases h : t.ps.length = 0
  · simp (disch := first | omega | (simp only [avs_len, List.length_cons, List.length_append, List.length_nil, List.length_take, List.length_drop, List.length_map]; omega) | (simp only [cells, scal1, allSz, List.length_cons, List.length_nil, List.length_append, List.length_map, List.all_cons, List.all_nil, avs_len, beq_self_eq_true, Bool.and_self, and_self, or_true, true_or, reduceCtorEq, *]; done) | fail) only [c_ident_Nothing, go_sem, Nat.reduceAdd, Nat.reduceSub, Nat.reduceMul, Nat.reduceLT, Nat.reduceLeDiff, Int.reduceToNat, Nat.reduceEqDiff, Nat.reduceBEq, ↓reduceIte, reduceCtorEq, eA, scal1, tavs_len]
    exact doneG rfl
  · simp (disch := first | omega | (simp only [avs_len, List.length_cons, List.length_append, List.length_nil, List.length_take, List.length_drop, List.length_map]; omega) | (simp only [cells, scal1, allSz, List.length_cons, List.length_nil, List.length_append, List.length_map, List.all_cons, List.all_nil, avs_len, beq_self_eq_true, Bool.and_self, and_self, or_true, true_or, reduceCtorEq, *]; done) | fail) only [c_ident_Nothing, go_sem, Nat.reduceAdd, Nat.reduceSub, Nat.reduceMul, Nat.reduceLT, Nat.reduceLeDiff, Int.reduceToNat, Nat.reduceEqDiff, Nat.reduceBEq, ↓reduceIte, reduceCtorEq, eA, scal1, tavs_len]
    exact doneG rfl
theorem count_loop (d : Nat) (hd : d < 1000) (ihd : ∀ t, PCalls Try.prog F_ident_count [tv t, .int .i64 (d : Nat)] (.int .i64 (cnt d t : Nat))) (ts : List Tree) (hts : ts.length ≤ 2) : ∀ (post pre : List Tree), ts = pre ++ post → ∀ (n : Nat) (nx : Ctr), n ≤ 60 →
    RunsX Try.prog 0 (Gives [.t 4] (.int .i64 (cntL (cnt d) n post : Nat))) (i_ident_count_0 ++ [.c c_ident_count_k0]) (s_ident_count_0 (.int .i64 ((d + 1 : Nat) : Int)) (.int .i64 (n : Nat)) (.fz 2 (tavs ts) none) (.int .i64 (ts.length : Nat)) (.int .i64 (pre.length : Nat))) [] nx := by
  intro post
  induction post with
  | nil =>
    intro pre h1 n nx hn
    rw [List.append_nil] at h1
    subst h1
    refine round (its := [.blk 0 wb_ident_count_0]) (k0 := [.c c_ident_count_k0]) 100 trivial trivial (fun A eA => ?_)
    simp (disch := first | omega | (simp only [avs_len, List.length_cons, List.length_append, List.length_nil, List.length_take, List.length_drop, List.length_map]; omega) | (simp only [cells, scal1, allSz, List.length_cons, List.length_nil, List.length_append, List.length_map, List.all_cons, List.all_nil, avs_len, beq_self_eq_true, Bool.and_self, and_self, or_true, true_or, reduceCtorEq, *]; done) | fail) only [c_ident_count, wl_ident_count_0, s_ident_count_0, c_ident_count_l0, wb_ident_count_0, c_ident_count_k0, go_sem, Nat.reduceAdd, Nat.reduceSub, Nat.reduceMul, Nat.reduceLT, Nat.reduceLeDiff, Int.reduceToNat, Nat.reduceEqDiff, Nat.reduceBEq, ↓reduceIte, reduceCtorEq, eA]
    refine walk0 (its := [.c c_ident_count_k0]) 100 trivial (fun A eA => ?_)
    simp (disch := first | omega | (simp only [avs_len, List.length_cons, List.length_append, List.length_nil, List.length_take, List.length_drop, List.length_map]; omega) | (simp only [cells, scal1, allSz, List.length_cons, List.length_nil, List.length_append, List.length_map, List.all_cons, List.all_nil, avs_len, beq_self_eq_true, Bool.and_self, and_self, or_true, true_or, reduceCtorEq, *]; done) | fail) only [c_ident_count, wl_ident_count_0, s_ident_count_0, c_ident_count_l0, wb_ident_count_0, c_ident_count_k0, go_sem, Nat.reduceAdd, Nat.reduceSub, Nat.reduceMul, Nat.reduceLT, Nat.reduceLeDiff, Int.reduceToNat, Nat.reduceEqDiff, Nat.reduceBEq, ↓reduceIte, reduceCtorEq, eA]
    exact doneG rfl
  | cons p post ih =>
    intro pre h1 n nx hn
    have hlt : pre.length < ts.length := by rw [h1]; simp
    have g0 : (tavs ts)[pre.length]? = some (tv p) := by rw [tavs_get, h1]; simp
    have w1 : IntKind.i64.wrap ((pre.length : Int) + 1) = ((pre.length + 1 : Nat) : Int) := by rw [IntKind.wrap_i64]; omega
    have w2 : IntKind.i64.wrap (((d + 1 : Nat) : Int) - 1) = ((d : Nat) : Int) := by rw [IntKind.wrap_i64]; omega
    have hc := cnt_le d p
    have w3 : IntKind.i64.wrap ((n : Int) + (cnt d p : Nat)) = ((n + cnt d p : Nat) : Int) := by rw [IntKind.wrap_i64]; omega
    refine round (its := [.blk 0 wb_ident_count_0]) (k0 := [.c c_ident_count_k0]) 100 trivial trivial (fun A eA => ?_)
    simp (disch := first | omega | (simp only [avs_len, List.length_cons, List.length_append, List.length_nil, List.length_take, List.length_drop, List.length_map]; omega) | (simp only [cells, scal1, allSz, List.length_cons, List.length_nil, List.length_append, List.length_map, List.all_cons, List.all_nil, avs_len, beq_self_eq_true, Bool.and_self, and_self, or_true, true_or, reduceCtorEq, *]; done) | fail) only [c_ident_count, wl_ident_count_0, s_ident_count_0, c_ident_count_l0, wb_ident_count_0, c_ident_count_k0, go_sem, Nat.reduceAdd, Nat.reduceSub, Nat.reduceMul, Nat.reduceLT, Nat.reduceLeDiff, Int.reduceToNat, Nat.reduceEqDiff, Nat.reduceBEq, ↓reduceIte, reduceCtorEq, eA, Int.toNat_natCast, g0, w2, scal1, List.all_cons, List.all_nil, Bool.and_self]
    refine call0 100 trivial trivial (ihd p) (.inl rfl) (fun A eA => ?_)
    by_cases hq : 60 < n + cnt d p
    · simp only [cntL, if_pos hq]
      simp (disch := first | omega | (simp only [avs_len, List.length_cons, List.length_append, List.length_nil, List.length_take, List.length_drop, List.length_map]; omega) | (simp only [cells, scal1, allSz, List.length_cons, List.length_nil, List.length_append, List.length_map, List.all_cons, List.all_nil, avs_len, beq_self_eq_true, Bool.and_self, and_self, or_true, true_or, reduceCtorEq, *]; done) | fail) only [c_ident_count, wl_ident_count_0, s_ident_count_0, c_ident_count_l0, wb_ident_count_0, c_ident_count_k0, go_sem, Nat.reduceAdd, Nat.reduceSub, Nat.reduceMul, Nat.reduceLT, Nat.reduceLeDiff, Int.reduceToNat, Nat.reduceEqDiff, Nat.reduceBEq, ↓reduceIte, reduceCtorEq, eA, w3]
      exact doneG rfl
    · simp only [cntL, if_neg hq]
      simp (disch := first | omega | (simp only [avs_len, List.length_cons, List.length_append, List.length_nil, List.length_take, List.length_drop, List.length_map]; omega) | (simp only [cells, scal1, allSz, List.length_cons, List.length_nil, List.length_append, List.length_map, List.all_cons, List.all_nil, avs_len, beq_self_eq_true, Bool.and_self, and_self, or_true, true_or, reduceCtorEq, *]; done) | fail) only [c_ident_count, wl_ident_count_0, s_ident_count_0, c_ident_count_l0, wb_ident_count_0, c_ident_count_k0, go_sem, Nat.reduceAdd, Nat.reduceSub, Nat.reduceMul, Nat.reduceLT, Nat.reduceLeDiff, Int.reduceToNat, Nat.reduceEqDiff, Nat.reduceBEq, ↓reduceIte, reduceCtorEq, eA, w3, w1]
      have hih := ih (pre ++ [p]) (by rw [h1]; simp) (n + cnt d p) (bump nx 7) (by omega)
      rw [show (pre ++ [p]).length = pre.length + 1 by simp] at hih
      exact hih
theorem count_calls : ∀ (d : Nat) (t : Tree), d < 1000 → PCalls Try.prog F_ident_count [tv t, .int .i64 (d : Nat)] (.int .i64 (cnt d t : Nat)) := by
  intro d
  induction d with
  | zero =>
    intro t _
    refine calls_ident_count (walk0 100 trivial (fun A eA => ?_))
    simp (disch := first | omega | (simp only [avs_len, List.length_cons, List.length_append, List.length_nil, List.length_take, List.length_drop, List.length_map]; omega) | (simp only [cells, scal1, allSz, List.length_cons, List.length_nil, List.length_append, List.length_map, List.all_cons, List.all_nil, avs_len, beq_self_eq_true, Bool.and_self, and_self, or_true, true_or, reduceCtorEq, *]; done) | fail) only [c_ident_count, wl_ident_count_0, s_ident_count_0, c_ident_count_l0, wb_ident_count_0, c_ident_count_k0, go_sem, Nat.reduceAdd, Nat.reduceSub, Nat.reduceMul, Nat.reduceLT, Nat.reduceLeDiff, Int.reduceToNat, Nat.reduceEqDiff, Nat.reduceBEq, ↓reduceIte, reduceCtorEq, eA, scal1, tavs_len]
    exact doneG rfl
  | succ d ih =>
    intro t hd
    refine calls_ident_count (walk0 100 trivial (fun A eA => ?_))
    simp (disch := first | omega | (simp only [avs_len, List.length_cons, List.length_append, List.length_nil, List.length_take, List.length_drop, List.length_map]; omega) | (simp only [cells, scal1, allSz, List.length_cons, List.length_nil, List.length_append, List.length_map, List.all_cons, List.all_nil, avs_len, beq_self_eq_true, Bool.and_self, and_self, or_true, true_or, reduceCtorEq, *]; done) | fail) only [c_ident_count, wl_ident_count_0, s_ident_count_0, c_ident_count_l0, wb_ident_count_0, c_ident_count_k0, go_sem, Nat.reduceAdd, Nat.reduceSub, Nat.reduceMul, Nat.reduceLT, Nat.reduceLeDiff, Int.reduceToNat, Nat.reduceEqDiff, Nat.reduceBEq, ↓reduceIte, reduceCtorEq, eA, scal1, tavs_len]
    refine call0 100 trivial trivial (leaf_calls t) (.inl rfl) (fun A eA => ?_)
    simp only [cnt]
    by_cases h0 : t.ps.length = 0
    · rw [if_neg (by simp [h0])]
      simp (disch := first | omega | (simp only [avs_len, List.length_cons, List.length_append, List.length_nil, List.length_take, List.length_drop, List.length_map]; omega) | (simp only [cells, scal1, allSz, List.length_cons, List.length_nil, List.length_append, List.length_map, List.all_cons, List.all_nil, avs_len, beq_self_eq_true, Bool.and_self, and_self, or_true, true_or, reduceCtorEq, *]; done) | fail) only [c_ident_count, wl_ident_count_0, s_ident_count_0, c_ident_count_l0, wb_ident_count_0, c_ident_count_k0, go_sem, Nat.reduceAdd, Nat.reduceSub, Nat.reduceMul, Nat.reduceLT, Nat.reduceLeDiff, Int.reduceToNat, Nat.reduceEqDiff, Nat.reduceBEq, ↓reduceIte, reduceCtorEq, eA, tavs_len]
      exact count_loop d (by omega) (fun t => ih t (by omega)) t.ps (by omega) t.ps [] rfl 1 zeroC (by omega)
    · by_cases h2 : t.ps.length = 2
      · cases ho : t.one with
        | true =>
          rw [if_pos (by simp [h2])]
          simp (disch := first | omega | (simp only [avs_len, List.length_cons, List.length_append, List.length_nil, List.length_take, List.length_drop, List.length_map]; omega) | (simp only [cells, scal1, allSz, List.length_cons, List.length_nil, List.length_append, List.length_map, List.all_cons, List.all_nil, avs_len, beq_self_eq_true, Bool.and_self, and_self, or_true, true_or, reduceCtorEq, *]; done) | fail) only [c_ident_count, wl_ident_count_0, s_ident_count_0, c_ident_count_l0, wb_ident_count_0, c_ident_count_k0, go_sem, Nat.reduceAdd, Nat.reduceSub, Nat.reduceMul, Nat.reduceLT, Nat.reduceLeDiff, Int.reduceToNat, Nat.reduceEqDiff, Nat.reduceBEq, ↓reduceIte, reduceCtorEq, eA, tavs_len, ho]
          exact doneG rfl
        | false =>
          rw [if_neg (by simp [h2])]
          simp (disch := first | omega | (simp only [avs_len, List.length_cons, List.length_append, List.length_nil, List.length_take, List.length_drop, List.length_map]; omega) | (simp only [cells, scal1, allSz, List.length_cons, List.length_nil, List.length_append, List.length_map, List.all_cons, List.all_nil, avs_len, beq_self_eq_true, Bool.and_self, and_self, or_true, true_or, reduceCtorEq, *]; done) | fail) only [c_ident_count, wl_ident_count_0, s_ident_count_0, c_ident_count_l0, wb_ident_count_0, c_ident_count_k0, go_sem, Nat.reduceAdd, Nat.reduceSub, Nat.reduceMul, Nat.reduceLT, Nat.reduceLeDiff, Int.reduceToNat, Nat.reduceEqDiff, Nat.reduceBEq, ↓reduceIte, reduceCtorEq, eA, tavs_len, ho]
          exact count_loop d (by omega) (fun t => ih t (by omega)) t.ps (by omega) t.ps [] rfl 1 zeroC (by omega)
      · rw [if_pos ⟨h0, .inl h2⟩]
        simp (disch := first | omega | (simp only [avs_len, List.length_cons, List.length_append, List.length_nil, List.length_take, List.length_drop, List.length_map]; omega) | (simp only [cells, scal1, allSz, List.length_cons, List.length_nil, List.length_append, List.length_map, List.all_cons, List.all_nil, avs_len, beq_self_eq_true, Bool.and_self, and_self, or_true, true_or, reduceCtorEq, *]; done) | fail) only [c_ident_count, wl_ident_count_0, s_ident_count_0, c_ident_count_l0, wb_ident_count_0, c_ident_count_k0, go_sem, Nat.reduceAdd, Nat.reduceSub, Nat.reduceMul, Nat.reduceLT, Nat.reduceLeDiff, Int.reduceToNat, Nat.reduceEqDiff, Nat.reduceBEq, ↓reduceIte, reduceCtorEq, eA, tavs_len]
        exact doneG rfl
theorem short_calls : ∀ (b : B), PCalls Try.prog F_ident_short [tv b.t] (.bool b.short) := by
  intro b
  induction b with
  | lf o =>
    refine calls_ident_short (walk0 100 trivial (fun A eA => ?_))
    simp (disch := first | omega | (simp only [avs_len, List.length_cons, List.length_append, List.length_nil, List.length_take, List.length_drop, List.length_map]; omega) | (simp only [cells, scal1, allSz, List.length_cons, List.length_nil, List.length_append, List.length_map, List.all_cons, List.all_nil, avs_len, beq_self_eq_true, Bool.and_self, and_self, or_true, true_or, reduceCtorEq, *]; done) | fail) only [c_ident_short, go_sem, Nat.reduceAdd, Nat.reduceSub, Nat.reduceMul, Nat.reduceLT, Nat.reduceLeDiff, Int.reduceToNat, Nat.reduceEqDiff, Nat.reduceBEq, ↓reduceIte, reduceCtorEq, eA, scal1, tavs_len]
    refine call0 100 trivial trivial (leaf_calls (B.lf o).t) (.inl rfl) (fun A eA => ?_)
    have h0 : (B.lf o).t.ps.length = 0 := rfl
    simp (disch := first | omega | (simp only [avs_len, List.length_cons, List.length_append, List.length_nil, List.length_take, List.length_drop, List.length_map]; omega) | (simp only [cells, scal1, allSz, List.length_cons, List.length_nil, List.length_append, List.length_map, List.all_cons, List.all_nil, avs_len, beq_self_eq_true, Bool.and_self, and_self, or_true, true_or, reduceCtorEq, *]; done) | fail) only [c_ident_short, go_sem, Nat.reduceAdd, Nat.reduceSub, Nat.reduceMul, Nat.reduceLT, Nat.reduceLeDiff, Int.reduceToNat, Nat.reduceEqDiff, Nat.reduceBEq, ↓reduceIte, reduceCtorEq, eA]
    exact doneG rfl
  | nd l r ihl ihr =>
    have h0 : (B.nd l r).t.ps = [l.t, r.t] := rfl
    have g0 : (tavs [l.t, r.t])[0]? = some (tv l.t) := by rw [tavs_get]; rfl
    have g1 : (tavs [l.t, r.t])[1]? = some (tv r.t) := by rw [tavs_get]; rfl
    refine calls_ident_short (walk0 100 trivial (fun A eA => ?_))
    simp (disch := first | omega | (simp only [avs_len, List.length_cons, List.length_append, List.length_nil, List.length_take, List.length_drop, List.length_map]; omega) | (simp only [cells, scal1, allSz, List.length_cons, List.length_nil, List.length_append, List.length_map, List.all_cons, List.all_nil, avs_len, beq_self_eq_true, Bool.and_self, and_self, or_true, true_or, reduceCtorEq, *]; done) | fail) only [c_ident_short, go_sem, Nat.reduceAdd, Nat.reduceSub, Nat.reduceMul, Nat.reduceLT, Nat.reduceLeDiff, Int.reduceToNat, Nat.reduceEqDiff, Nat.reduceBEq, ↓reduceIte, reduceCtorEq, eA, scal1, tavs_len]
    refine call0 100 trivial trivial (leaf_calls (B.nd l r).t) (.inl rfl) (fun A eA => ?_)
    have h1 : ¬ (B.nd l r).t.ps.length = 0 := by rw [h0]; simp
    simp (disch := first | omega | (simp only [avs_len, List.length_cons, List.length_append, List.length_nil, List.length_take, List.length_drop, List.length_map]; omega) | (simp only [cells, scal1, allSz, List.length_cons, List.length_nil, List.length_append, List.length_map, List.all_cons, List.all_nil, avs_len, beq_self_eq_true, Bool.and_self, and_self, or_true, true_or, reduceCtorEq, *]; done) | fail) only [c_ident_short, go_sem, Nat.reduceAdd, Nat.reduceSub, Nat.reduceMul, Nat.reduceLT, Nat.reduceLeDiff, Int.reduceToNat, Nat.reduceEqDiff, Nat.reduceBEq, ↓reduceIte, reduceCtorEq, eA, h0, g0, g1, scal1, List.all_cons, List.all_nil, Bool.and_self]
    refine call0 100 trivial trivial ihl (.inl rfl) (fun A eA => ?_)
    cases hl : l.short with
    | false =>
      simp (disch := first | omega | (simp only [avs_len, List.length_cons, List.length_append, List.length_nil, List.length_take, List.length_drop, List.length_map]; omega) | (simp only [cells, scal1, allSz, List.length_cons, List.length_nil, List.length_append, List.length_map, List.all_cons, List.all_nil, avs_len, beq_self_eq_true, Bool.and_self, and_self, or_true, true_or, reduceCtorEq, *]; done) | fail) only [c_ident_short, go_sem, Nat.reduceAdd, Nat.reduceSub, Nat.reduceMul, Nat.reduceLT, Nat.reduceLeDiff, Int.reduceToNat, Nat.reduceEqDiff, Nat.reduceBEq, ↓reduceIte, reduceCtorEq, eA]
      simp only [B.short, hl, Bool.false_and]
      exact doneG rfl
    | true =>
      simp (disch := first | omega | (simp only [avs_len, List.length_cons, List.length_append, List.length_nil, List.length_take, List.length_drop, List.length_map]; omega) | (simp only [cells, scal1, allSz, List.length_cons, List.length_nil, List.length_append, List.length_map, List.all_cons, List.all_nil, avs_len, beq_self_eq_true, Bool.and_self, and_self, or_true, true_or, reduceCtorEq, *]; done) | fail) only [c_ident_short, go_sem, Nat.reduceAdd, Nat.reduceSub, Nat.reduceMul, Nat.reduceLT, Nat.reduceLeDiff, Int.reduceToNat, Nat.reduceEqDiff, Nat.reduceBEq, ↓reduceIte, reduceCtorEq, eA]
      refine call0 100 trivial trivial ihr (.inl rfl) (fun A eA => ?_)
      cases hr : r.short with
      | false =>
        simp (disch := first | omega | (simp only [avs_len, List.length_cons, List.length_append, List.length_nil, List.length_take, List.length_drop, List.length_map]; omega) | (simp only [cells, scal1, allSz, List.length_cons, List.length_nil, List.length_append, List.length_map, List.all_cons, List.all_nil, avs_len, beq_self_eq_true, Bool.and_self, and_self, or_true, true_or, reduceCtorEq, *]; done) | fail) only [c_ident_short, go_sem, Nat.reduceAdd, Nat.reduceSub, Nat.reduceMul, Nat.reduceLT, Nat.reduceLeDiff, Int.reduceToNat, Nat.reduceEqDiff, Nat.reduceBEq, ↓reduceIte, reduceCtorEq, eA]
        simp only [B.short, hl, hr, Bool.false_and, Bool.and_false]
        exact doneG rfl
      | true =>
        simp (disch := first | omega | (simp only [avs_len, List.length_cons, List.length_append, List.length_nil, List.length_take, List.length_drop, List.length_map]; omega) | (simp only [cells, scal1, allSz, List.length_cons, List.length_nil, List.length_append, List.length_map, List.all_cons, List.all_nil, avs_len, beq_self_eq_true, Bool.and_self, and_self, or_true, true_or, reduceCtorEq, *]; done) | fail) only [c_ident_short, go_sem, Nat.reduceAdd, Nat.reduceSub, Nat.reduceMul, Nat.reduceLT, Nat.reduceLeDiff, Int.reduceToNat, Nat.reduceEqDiff, Nat.reduceBEq, ↓reduceIte, reduceCtorEq, eA]
        refine call0 100 trivial trivial (leaf_calls l.t) (.inl rfl) (fun A eA => ?_)
        simp only [B.short, hl, hr, Bool.true_and, lfEq]
        by_cases k0 : l.t.ps.length = 0
        · simp (disch := first | omega | (simp only [avs_len, List.length_cons, List.length_append, List.length_nil, List.length_take, List.length_drop, List.length_map]; omega) | (simp only [cells, scal1, allSz, List.length_cons, List.length_nil, List.length_append, List.length_map, List.all_cons, List.all_nil, avs_len, beq_self_eq_true, Bool.and_self, and_self, or_true, true_or, reduceCtorEq, *]; done) | fail) only [c_ident_short, go_sem, Nat.reduceAdd, Nat.reduceSub, Nat.reduceMul, Nat.reduceLT, Nat.reduceLeDiff, Int.reduceToNat, Nat.reduceEqDiff, Nat.reduceBEq, ↓reduceIte, reduceCtorEq, eA]
          refine call0 100 trivial trivial (leaf_calls r.t) (.inl rfl) (fun A eA => ?_)
          by_cases k1 : r.t.ps.length = 0
          · simp (disch := first | omega | (simp only [avs_len, List.length_cons, List.length_append, List.length_nil, List.length_take, List.length_drop, List.length_map]; omega) | (simp only [cells, scal1, allSz, List.length_cons, List.length_nil, List.length_append, List.length_map, List.all_cons, List.all_nil, avs_len, beq_self_eq_true, Bool.and_self, and_self, or_true, true_or, reduceCtorEq, *]; done) | fail) only [c_ident_short, go_sem, Nat.reduceAdd, Nat.reduceSub, Nat.reduceMul, Nat.reduceLT, Nat.reduceLeDiff, Int.reduceToNat, Nat.reduceEqDiff, Nat.reduceBEq, ↓reduceIte, reduceCtorEq, eA, k0, k1]
            refine doneG ?_
            simp (disch := first | omega | (simp only [avs_len, List.length_cons, List.length_append, List.length_nil, List.length_take, List.length_drop, List.length_map]; omega) | (simp only [cells, scal1, allSz, List.length_cons, List.length_nil, List.length_append, List.length_map, List.all_cons, List.all_nil, avs_len, beq_self_eq_true, Bool.and_self, and_self, or_true, true_or, reduceCtorEq, *]; done) | fail) only [go_sem, Nat.reduceAdd, Nat.reduceSub, Nat.reduceMul, Nat.reduceLT, Nat.reduceLeDiff, Int.reduceToNat, Nat.reduceEqDiff, Nat.reduceBEq, ↓reduceIte, reduceCtorEq, k0, k1]
            cases l.t.one <;> cases r.t.one <;> rfl
          · simp (disch := first | omega | (simp only [avs_len, List.length_cons, List.length_append, List.length_nil, List.length_take, List.length_drop, List.length_map]; omega) | (simp only [cells, scal1, allSz, List.length_cons, List.length_nil, List.length_append, List.length_map, List.all_cons, List.all_nil, avs_len, beq_self_eq_true, Bool.and_self, and_self, or_true, true_or, reduceCtorEq, *]; done) | fail) only [c_ident_short, go_sem, Nat.reduceAdd, Nat.reduceSub, Nat.reduceMul, Nat.reduceLT, Nat.reduceLeDiff, Int.reduceToNat, Nat.reduceEqDiff, Nat.reduceBEq, ↓reduceIte, reduceCtorEq, eA, k0, k1]
            exact doneG rfl
        · simp (disch := first | omega | (simp only [avs_len, List.length_cons, List.length_append, List.length_nil, List.length_take, List.length_drop, List.length_map]; omega) | (simp only [cells, scal1, allSz, List.length_cons, List.length_nil, List.length_append, List.length_map, List.all_cons, List.all_nil, avs_len, beq_self_eq_true, Bool.and_self, and_self, or_true, true_or, reduceCtorEq, *]; done) | fail) only [c_ident_short, go_sem, Nat.reduceAdd, Nat.reduceSub, Nat.reduceMul, Nat.reduceLT, Nat.reduceLeDiff, Int.reduceToNat, Nat.reduceEqDiff, Nat.reduceBEq, ↓reduceIte, reduceCtorEq, eA, k0]
          exact doneG rfl
theorem rt_cnt (t : Tree) : Rt t ↔ cnt 8 t ≤ 60 ∧ ∃ b : B, t = b.t ∧ b.short = true := by
  constructor
  · rintro ⟨b, rfl, h1, h2, h3⟩
    exact ⟨by rw [b_cnt b 8 h2 h1]; exact h2, b, rfl, h3⟩
  · rintro ⟨h1, b, rfl, h3⟩
    obtain ⟨b', e, h4, h5⟩ := cnt_b 8 _ h1
    obtain rfl := B.inj e
    exact ⟨b, rfl, h5, by omega, h3⟩
/-- A right identity? -/
noncomputable def rtb (t : Tree) : Bool := @decide (Rt t) (Classical.propDecidable _)
theorem rtb_true {t : Tree} : rtb t = true ↔ Rt t := by simp [rtb]
theorem right_calls (t : Tree) : PCalls Try.prog F_ident_Right [tv t] (.bool (rtb t)) := by
  refine calls_ident_Right (walk0 100 trivial (fun A eA => ?_))
  simp (disch := first | omega | (simp only [avs_len, List.length_cons, List.length_append, List.length_nil, List.length_take, List.length_drop, List.length_map]; omega) | (simp only [cells, scal1, allSz, List.length_cons, List.length_nil, List.length_append, List.length_map, List.all_cons, List.all_nil, avs_len, beq_self_eq_true, Bool.and_self, and_self, or_true, true_or, reduceCtorEq, *]; done) | fail) only [c_ident_Right, go_sem, Nat.reduceAdd, Nat.reduceSub, Nat.reduceMul, Nat.reduceLT, Nat.reduceLeDiff, Int.reduceToNat, Nat.reduceEqDiff, Nat.reduceBEq, ↓reduceIte, reduceCtorEq, eA, scal1, tavs_len]
  refine call0 100 trivial trivial (count_calls 8 t (by omega)) (.inl rfl) (fun A eA => ?_)
  by_cases h : cnt 8 t ≤ 60
  · simp (disch := first | omega | (simp only [avs_len, List.length_cons, List.length_append, List.length_nil, List.length_take, List.length_drop, List.length_map]; omega) | (simp only [cells, scal1, allSz, List.length_cons, List.length_nil, List.length_append, List.length_map, List.all_cons, List.all_nil, avs_len, beq_self_eq_true, Bool.and_self, and_self, or_true, true_or, reduceCtorEq, *]; done) | fail) only [c_ident_Right, go_sem, Nat.reduceAdd, Nat.reduceSub, Nat.reduceMul, Nat.reduceLT, Nat.reduceLeDiff, Int.reduceToNat, Nat.reduceEqDiff, Nat.reduceBEq, ↓reduceIte, reduceCtorEq, eA]
    obtain ⟨b, rfl, h1, h2⟩ := cnt_b 8 t h
    refine call0 100 trivial trivial (short_calls b) (.inl rfl) (fun A eA => ?_)
    have : b.short = rtb b.t := by
      rw [Bool.eq_iff_iff, rtb_true, rt_cnt]
      exact ⟨fun h3 => ⟨h, b, rfl, h3⟩, fun ⟨_, b', e, h3⟩ => by rw [B.inj e]; exact h3⟩
    simp (disch := first | omega | (simp only [avs_len, List.length_cons, List.length_append, List.length_nil, List.length_take, List.length_drop, List.length_map]; omega) | (simp only [cells, scal1, allSz, List.length_cons, List.length_nil, List.length_append, List.length_map, List.all_cons, List.all_nil, avs_len, beq_self_eq_true, Bool.and_self, and_self, or_true, true_or, reduceCtorEq, *]; done) | fail) only [c_ident_Right, go_sem, Nat.reduceAdd, Nat.reduceSub, Nat.reduceMul, Nat.reduceLT, Nat.reduceLeDiff, Int.reduceToNat, Nat.reduceEqDiff, Nat.reduceBEq, ↓reduceIte, reduceCtorEq, eA, this]
    exact doneG rfl
  · simp (disch := first | omega | (simp only [avs_len, List.length_cons, List.length_append, List.length_nil, List.length_take, List.length_drop, List.length_map]; omega) | (simp only [cells, scal1, allSz, List.length_cons, List.length_nil, List.length_append, List.length_map, List.all_cons, List.all_nil, avs_len, beq_self_eq_true, Bool.and_self, and_self, or_true, true_or, reduceCtorEq, *]; done) | fail) only [c_ident_Right, go_sem, Nat.reduceAdd, Nat.reduceSub, Nat.reduceMul, Nat.reduceLT, Nat.reduceLeDiff, Int.reduceToNat, Nat.reduceEqDiff, Nat.reduceBEq, ↓reduceIte, reduceCtorEq, eA]
    have : rtb t = false := by rw [Bool.eq_false_iff, ne_eq, rtb_true, rt_cnt]; exact fun h3 => h h3.1
    rw [this]
    exact doneG rfl
end Go.Proofs.Ytmokhopjnjecbab
/- Right stamps. -/
-- short
-- fuel 300
namespace Go.Proofs.Ytmokhopjnjecbab
open Go.Ev
set_option linter.unusedVariables false
set_option linter.unusedSimpArgs false
set_option maxRecDepth 100000
set_option maxHeartbeats 1600000
abbrev stv (t : Tree) (e : ET) : AV := .agg [.bool t.one, .fz 2 (tavs t.ps) none, .int .i64 e.n, .fz 2 (xtavs e.ps) none]
/-- A right stamp. -/
def RtS (t : Tree) (e : ET) : Prop := Rt t ∧ ¬ (t.ps.length = 0 ∧ t.one = false) ∧ XRt e
theorem rtb_off {t : Tree} (h : ¬ Rt t) : rtb t = false := by rw [Bool.eq_false_iff, ne_eq, rtb_true]; exact h
theorem stRight_yes {t : Tree} {e : ET} (h : RtS t e) : PCalls Try.prog F_stamp_Right [stv t e] (.bool true) := by
  obtain ⟨h1, h2, h3⟩ := h
  have c1 := right_calls t
  have c2 := nothing_calls t
  have c3 := xright_calls e
  rw [rtb_true.2 h1] at c1
  rw [xrtb_true.2 h3] at c3
  have e2 : (decide (t.ps.length = 0) && !t.one) = false := by
    cases ho : t.one
    · have : ¬ t.ps.length = 0 := fun e => h2 ⟨e, ho⟩
      simp [this]
    · simp
  rw [e2] at c2
  refine calls_stamp_Right (walk0 300 trivial (fun A eA => ?_))
  simp (disch := first | omega | (simp only [avs_len, List.length_cons, List.length_append, List.length_nil, List.length_take, List.length_drop, List.length_map]; omega) | (simp only [cells, scal1, allSz, List.length_cons, List.length_nil, List.length_append, List.length_map, List.all_cons, List.all_nil, avs_len, beq_self_eq_true, Bool.and_self, and_self, or_true, true_or, reduceCtorEq, *]; done) | fail) only [c_stamp_Right, go_sem, Nat.reduceAdd, Nat.reduceSub, Nat.reduceMul, Nat.reduceLT, Nat.reduceLeDiff, Int.reduceToNat, Nat.reduceEqDiff, Nat.reduceBEq, ↓reduceIte, reduceCtorEq, eA, scal1]
  repeat ((first | refine call0 300 trivial trivial (by first | exact c1 | exact c2 | exact c3) (by first | exact .inl rfl | exact .inr rfl) (fun A eA => ?_) | refine call1 300 trivial trivial (by first | exact c1 | exact c2 | exact c3) (fun A eA => ?_)); simp (disch := first | omega | (simp only [avs_len, List.length_cons, List.length_append, List.length_nil, List.length_take, List.length_drop, List.length_map]; omega) | (simp only [cells, scal1, allSz, List.length_cons, List.length_nil, List.length_append, List.length_map, List.all_cons, List.all_nil, avs_len, beq_self_eq_true, Bool.and_self, and_self, or_true, true_or, reduceCtorEq, *]; done) | fail) only [c_stamp_Right, go_sem, Nat.reduceAdd, Nat.reduceSub, Nat.reduceMul, Nat.reduceLT, Nat.reduceLeDiff, Int.reduceToNat, Nat.reduceEqDiff, Nat.reduceBEq, ↓reduceIte, reduceCtorEq, eA, scal1])
  exact doneG rfl
theorem stRight_no {t : Tree} {e : ET} (h : ¬ RtS t e) : PCalls Try.prog F_stamp_Right [stv t e] (.bool false) := by
  have c1 := right_calls t
  have c2 := nothing_calls t
  have c3 := xright_calls e
  by_cases h1 : Rt t
  · rw [rtb_true.2 h1] at c1
    by_cases h2 : t.ps.length = 0 ∧ t.one = false
    · have e2 : (decide (t.ps.length = 0) && !t.one) = true := by simp [h2]
      rw [e2] at c2
      refine calls_stamp_Right (walk0 300 trivial (fun A eA => ?_))
      simp (disch := first | omega | (simp only [avs_len, List.length_cons, List.length_append, List.length_nil, List.length_take, List.length_drop, List.length_map]; omega) | (simp only [cells, scal1, allSz, List.length_cons, List.length_nil, List.length_append, List.length_map, List.all_cons, List.all_nil, avs_len, beq_self_eq_true, Bool.and_self, and_self, or_true, true_or, reduceCtorEq, *]; done) | fail) only [c_stamp_Right, go_sem, Nat.reduceAdd, Nat.reduceSub, Nat.reduceMul, Nat.reduceLT, Nat.reduceLeDiff, Int.reduceToNat, Nat.reduceEqDiff, Nat.reduceBEq, ↓reduceIte, reduceCtorEq, eA, scal1]
      repeat ((first | refine call0 300 trivial trivial (by first | exact c1 | exact c2 | exact c3) (by first | exact .inl rfl | exact .inr rfl) (fun A eA => ?_) | refine call1 300 trivial trivial (by first | exact c1 | exact c2 | exact c3) (fun A eA => ?_)); simp (disch := first | omega | (simp only [avs_len, List.length_cons, List.length_append, List.length_nil, List.length_take, List.length_drop, List.length_map]; omega) | (simp only [cells, scal1, allSz, List.length_cons, List.length_nil, List.length_append, List.length_map, List.all_cons, List.all_nil, avs_len, beq_self_eq_true, Bool.and_self, and_self, or_true, true_or, reduceCtorEq, *]; done) | fail) only [c_stamp_Right, go_sem, Nat.reduceAdd, Nat.reduceSub, Nat.reduceMul, Nat.reduceLT, Nat.reduceLeDiff, Int.reduceToNat, Nat.reduceEqDiff, Nat.reduceBEq, ↓reduceIte, reduceCtorEq, eA, scal1])
      exact doneG rfl
    · have h3 : ¬ XRt e := fun h3 => h ⟨h1, h2, h3⟩
      rw [xrtb_no h3] at c3
      have e2 : (decide (t.ps.length = 0) && !t.one) = false := by
        cases ho : t.one
        · have : ¬ t.ps.length = 0 := fun e => h2 ⟨e, ho⟩
          simp [this]
        · simp
      rw [e2] at c2
      refine calls_stamp_Right (walk0 300 trivial (fun A eA => ?_))
      simp (disch := first | omega | (simp only [avs_len, List.length_cons, List.length_append, List.length_nil, List.length_take, List.length_drop, List.length_map]; omega) | (simp only [cells, scal1, allSz, List.length_cons, List.length_nil, List.length_append, List.length_map, List.all_cons, List.all_nil, avs_len, beq_self_eq_true, Bool.and_self, and_self, or_true, true_or, reduceCtorEq, *]; done) | fail) only [c_stamp_Right, go_sem, Nat.reduceAdd, Nat.reduceSub, Nat.reduceMul, Nat.reduceLT, Nat.reduceLeDiff, Int.reduceToNat, Nat.reduceEqDiff, Nat.reduceBEq, ↓reduceIte, reduceCtorEq, eA, scal1]
      repeat ((first | refine call0 300 trivial trivial (by first | exact c1 | exact c2 | exact c3) (by first | exact .inl rfl | exact .inr rfl) (fun A eA => ?_) | refine call1 300 trivial trivial (by first | exact c1 | exact c2 | exact c3) (fun A eA => ?_)); simp (disch := first | omega | (simp only [avs_len, List.length_cons, List.length_append, List.length_nil, List.length_take, List.length_drop, List.length_map]; omega) | (simp only [cells, scal1, allSz, List.length_cons, List.length_nil, List.length_append, List.length_map, List.all_cons, List.all_nil, avs_len, beq_self_eq_true, Bool.and_self, and_self, or_true, true_or, reduceCtorEq, *]; done) | fail) only [c_stamp_Right, go_sem, Nat.reduceAdd, Nat.reduceSub, Nat.reduceMul, Nat.reduceLT, Nat.reduceLeDiff, Int.reduceToNat, Nat.reduceEqDiff, Nat.reduceBEq, ↓reduceIte, reduceCtorEq, eA, scal1])
      exact doneG rfl
  · rw [rtb_off h1] at c1
    refine calls_stamp_Right (walk0 300 trivial (fun A eA => ?_))
    simp (disch := first | omega | (simp only [avs_len, List.length_cons, List.length_append, List.length_nil, List.length_take, List.length_drop, List.length_map]; omega) | (simp only [cells, scal1, allSz, List.length_cons, List.length_nil, List.length_append, List.length_map, List.all_cons, List.all_nil, avs_len, beq_self_eq_true, Bool.and_self, and_self, or_true, true_or, reduceCtorEq, *]; done) | fail) only [c_stamp_Right, go_sem, Nat.reduceAdd, Nat.reduceSub, Nat.reduceMul, Nat.reduceLT, Nat.reduceLeDiff, Int.reduceToNat, Nat.reduceEqDiff, Nat.reduceBEq, ↓reduceIte, reduceCtorEq, eA, scal1]
    repeat ((first | refine call0 300 trivial trivial (by first | exact c1 | exact c2 | exact c3) (by first | exact .inl rfl | exact .inr rfl) (fun A eA => ?_) | refine call1 300 trivial trivial (by first | exact c1 | exact c2 | exact c3) (fun A eA => ?_)); simp (disch := first | omega | (simp only [avs_len, List.length_cons, List.length_append, List.length_nil, List.length_take, List.length_drop, List.length_map]; omega) | (simp only [cells, scal1, allSz, List.length_cons, List.length_nil, List.length_append, List.length_map, List.all_cons, List.all_nil, avs_len, beq_self_eq_true, Bool.and_self, and_self, or_true, true_or, reduceCtorEq, *]; done) | fail) only [c_stamp_Right, go_sem, Nat.reduceAdd, Nat.reduceSub, Nat.reduceMul, Nat.reduceLT, Nat.reduceLeDiff, Int.reduceToNat, Nat.reduceEqDiff, Nat.reduceBEq, ↓reduceIte, reduceCtorEq, eA, scal1])
    exact doneG rfl
end Go.Proofs.Ytmokhopjnjecbab
/- The functions' bodies, compiled; printed by a program of mine (gen.py); that they are is checked here. -/
namespace Go.Proofs.Ytmokhopjnjecbab
open Go.Ev
set_option maxRecDepth 100000

/-- pedlar/ident.Split: parameters [24], results [.cn 2 2, .cn 3 2, .t 4], calls ident_Right, ident_Nothing, ident_split, ident_Clone -/
def c_ident_Split : Cd := (.seq (.reg [⟨(some 1), none, .box, [.t 0]⟩, ⟨(some 2), none, (.new [(.bool false), .nils] 2), []⟩, ⟨(some 3), none, (.new [(.bool false), .nils] 3), []⟩, ⟨(some 4), none, .mv, [.c (.int .i64 0)]⟩]) (.seq (.seq (.reg [⟨(some 7), none, (.ldn 2), [.t 1]⟩, ⟨(some 8), none, (.call F_ident_Right 0), [.t 7]⟩, ⟨(some 9), none, .not, [.t 8]⟩, ⟨(some 10), none, .mv, [.t 9]⟩, ⟨(some 11), (some (10, false)), (.ldn 2), [.t 1]⟩, ⟨(some 12), (some (10, false)), (.call F_ident_Nothing 0), [.t 11]⟩, ⟨(some 13), none, .pick, [.t 10, .c (.bool true), .t 12]⟩]) (.cond (.t 13) (.seq (.reg [⟨(some 14), none, (.bld [(.bool false), .nils] []), []⟩, ⟨(some 15), none, (.bld [(.bool false), .nils] []), []⟩, ⟨none, none, (.st 2), [.t 2, .t 14]⟩, ⟨none, none, (.st 2), [.t 3, .t 15]⟩, ⟨(some 4), none, .mv, [.c (.int .i64 1)]⟩]) .ret) .skip)) (.seq (.reg [⟨(some 17), none, (.ldn 2), [.t 1]⟩, ⟨(some 18), none, (.call F_ident_split 0), [.t 17]⟩, ⟨(some 16), none, .mv, [.t 18]⟩, ⟨(some 19), none, (.ext 0), [.t 16]⟩, ⟨(some 20), none, (.ext 1), [.t 16]⟩, ⟨(some 5), none, (.new [(.bool false), .nils] 5), []⟩, ⟨(some 6), none, (.new [(.bool false), .nils] 6), []⟩, ⟨none, none, (.st 2), [.t 5, .t 19]⟩, ⟨none, none, (.st 2), [.t 6, .t 20]⟩]) (.seq (.seq (.reg [⟨(some 21), none, (.ldn 2), [.t 5]⟩, ⟨(some 22), none, (.call F_ident_Right 0), [.t 21]⟩, ⟨(some 23), none, .not, [.t 22]⟩, ⟨(some 24), none, .mv, [.t 23]⟩, ⟨(some 25), (some (24, false)), (.ldn 2), [.t 6]⟩, ⟨(some 26), (some (24, false)), (.call F_ident_Right 0), [.t 25]⟩, ⟨(some 27), (some (24, false)), .not, [.t 26]⟩, ⟨(some 28), none, .pick, [.t 24, .c (.bool true), .t 27]⟩]) (.cond (.t 28) (.seq (.reg [⟨(some 29), none, (.bld [(.bool false), .nils] []), []⟩, ⟨(some 30), none, (.bld [(.bool false), .nils] []), []⟩, ⟨none, none, (.st 2), [.t 2, .t 29]⟩, ⟨none, none, (.st 2), [.t 3, .t 30]⟩, ⟨(some 4), none, .mv, [.c (.int .i64 9)]⟩]) .ret) .skip)) (.seq (.reg [⟨(some 31), none, (.ldn 2), [.t 5]⟩, ⟨(some 32), none, (.call F_ident_Clone 0), [.t 31]⟩, ⟨(some 33), none, (.ldn 2), [.t 6]⟩, ⟨(some 34), none, (.call F_ident_Clone 0), [.t 33]⟩, ⟨none, none, (.st 2), [.t 2, .t 32]⟩, ⟨none, none, (.st 2), [.t 3, .t 34]⟩, ⟨(some 4), none, .mv, [.c (.int .i64 0)]⟩]) .ret)))))
theorem comp_ident_Split : compF Try.prog (mset [] [] []) (cset [] [] []) (wset [] []) Try.f15 = some c_ident_Split := by kernel_rfl
theorem ok_ident_Split : fnOk Try.prog F_ident_Split = true := by kernel_rfl
theorem calls_ident_Split {args : List AV} {r : AV} (h : RunsX Try.prog 0 (Gives [.cn 2 2, .cn 3 2, .t 4] r) [.c c_ident_Split] (args ++ List.replicate (35 - args.length) (.tup [])) [] zeroC) : PCalls Try.prog F_ident_Split args r :=
  pcallsF Try.checked.mixed Try.func15 ok_ident_Split comp_ident_Split rfl (rs := [.cn 2 2, .cn 3 2, .t 4]) (by kernel_rfl) h
theorem hcalls_ident_Split {args : List AV} {Hin Hout : Heap} {nx nx2 : Ctr} {r : AV} (φ : Nat) (ks : List (Nat × Nat)) (h : RunsX Try.prog φ (GivesH ks [.cn 2 2, .cn 3 2, .t 4] r Hout nx2) [.c c_ident_Split] (args ++ List.replicate (35 - args.length) (.tup [])) Hin nx) : HCalls Try.prog F_ident_Split args Hin nx r Hout nx2 :=
  hcallsF Try.checked.mixed Try.func15 ok_ident_Split comp_ident_Split rfl (rs := [.cn 2 2, .cn 3 2, .t 4]) (by kernel_rfl) φ ks h

/-- pedlar/ident.split: parameters [24], results [.cn 2 2, .cn 3 2], calls ident_leaf, ident_All, ident_node, ident_Nothing, ident_split -/
def c_ident_split : Cd := (.seq (.reg [⟨(some 1), none, .box, [.t 0]⟩, ⟨(some 2), none, (.new [(.bool false), .nils] 2), []⟩, ⟨(some 3), none, (.new [(.bool false), .nils] 3), []⟩]) (.seq (.reg [⟨(some 11), none, (.bld [(.bool false), .nils] []), []⟩, ⟨(some 4), none, (.new [(.bool false), .nils] 4), []⟩, ⟨none, none, (.st 2), [.t 4, .t 11]⟩]) (.seq (.seq (.reg [⟨(some 12), none, (.ldn 2), [.t 1]⟩, ⟨(some 13), none, (.call F_ident_leaf 0), [.t 12]⟩]) (.cond (.t 13) (.seq (.reg [⟨(some 14), none, (.call F_ident_All 0), []⟩, ⟨(some 15), none, (.ldn 2), [.t 4]⟩, ⟨(some 16), none, (.call F_ident_node 0), [.t 14, .t 15]⟩, ⟨(some 17), none, (.ldn 2), [.t 4]⟩, ⟨(some 18), none, (.call F_ident_All 0), []⟩, ⟨(some 19), none, (.call F_ident_node 0), [.t 17, .t 18]⟩, ⟨none, none, (.st 2), [.t 2, .t 16]⟩, ⟨none, none, (.st 2), [.t 3, .t 19]⟩]) .ret) .skip)) (.seq (.reg [⟨(some 20), none, (.fa 1), [.t 1]⟩, ⟨(some 21), none, .ld1r, [.t 20]⟩, ⟨(some 22), none, (.ixS 2), [.t 21, .c (.int .i64 0)]⟩, ⟨(some 23), none, (.ldnr 2), [.t 22]⟩, ⟨(some 24), none, (.fa 1), [.t 1]⟩, ⟨(some 25), none, .ld1r, [.t 24]⟩, ⟨(some 26), none, (.ixS 2), [.t 25, .c (.int .i64 1)]⟩, ⟨(some 27), none, (.ldnr 2), [.t 26]⟩, ⟨(some 5), none, (.new [(.bool false), .nils] 5), []⟩, ⟨(some 6), none, (.new [(.bool false), .nils] 6), []⟩, ⟨none, none, (.stk 2 5), [.t 5, .t 23]⟩, ⟨none, none, (.stk 2 6), [.t 6, .t 27]⟩]) (.seq (.blk 0 [] (.seq (.reg [⟨(some 29), none, (.ldn 2), [.t 5]⟩, ⟨(some 30), none, (.call F_ident_Nothing 0), [.t 29]⟩, ⟨(some 28), none, .mv, [.t 30]⟩]) (.cond (.t 28) (.seq (.reg [⟨(some 32), none, (.ldn 2), [.t 6]⟩, ⟨(some 33), none, (.call F_ident_split 0), [.t 32]⟩, ⟨(some 31), none, .mv, [.t 33]⟩, ⟨(some 34), none, (.ext 0), [.t 31]⟩, ⟨(some 35), none, (.ext 1), [.t 31]⟩, ⟨(some 7), none, (.new [(.bool false), .nils] 7), []⟩, ⟨(some 8), none, (.new [(.bool false), .nils] 8), []⟩, ⟨none, none, (.st 2), [.t 7, .t 34]⟩, ⟨none, none, (.st 2), [.t 8, .t 35]⟩]) (.seq (.reg [⟨(some 36), none, (.ldn 2), [.t 4]⟩, ⟨(some 37), none, (.ldn 2), [.t 7]⟩, ⟨(some 38), none, (.call F_ident_node 0), [.t 36, .t 37]⟩, ⟨(some 39), none, (.ldn 2), [.t 4]⟩, ⟨(some 40), none, (.ldn 2), [.t 8]⟩, ⟨(some 41), none, (.call F_ident_node 0), [.t 39, .t 40]⟩, ⟨none, none, (.st 2), [.t 2, .t 38]⟩, ⟨none, none, (.st 2), [.t 3, .t 41]⟩]) .ret)) (.seq (.reg [⟨(some 43), none, (.ldn 2), [.t 6]⟩, ⟨(some 44), none, (.call F_ident_Nothing 0), [.t 43]⟩, ⟨(some 42), none, .mv, [.t 44]⟩]) (.cond (.t 42) (.seq (.reg [⟨(some 46), none, (.ldn 2), [.t 5]⟩, ⟨(some 47), none, (.call F_ident_split 0), [.t 46]⟩, ⟨(some 45), none, .mv, [.t 47]⟩, ⟨(some 48), none, (.ext 0), [.t 45]⟩, ⟨(some 49), none, (.ext 1), [.t 45]⟩, ⟨(some 9), none, (.new [(.bool false), .nils] 9), []⟩, ⟨(some 10), none, (.new [(.bool false), .nils] 10), []⟩, ⟨none, none, (.st 2), [.t 9, .t 48]⟩, ⟨none, none, (.st 2), [.t 10, .t 49]⟩]) (.seq (.reg [⟨(some 50), none, (.ldn 2), [.t 9]⟩, ⟨(some 51), none, (.ldn 2), [.t 4]⟩, ⟨(some 52), none, (.call F_ident_node 0), [.t 50, .t 51]⟩, ⟨(some 53), none, (.ldn 2), [.t 10]⟩, ⟨(some 54), none, (.ldn 2), [.t 4]⟩, ⟨(some 55), none, (.call F_ident_node 0), [.t 53, .t 54]⟩, ⟨none, none, (.st 2), [.t 2, .t 52]⟩, ⟨none, none, (.st 2), [.t 3, .t 55]⟩]) .ret)) .skip))))) (.seq (.reg [⟨(some 56), none, (.ldn 2), [.t 5]⟩, ⟨(some 57), none, (.ldn 2), [.t 4]⟩, ⟨(some 58), none, (.call F_ident_node 0), [.t 56, .t 57]⟩, ⟨(some 59), none, (.ldn 2), [.t 4]⟩, ⟨(some 60), none, (.ldn 2), [.t 6]⟩, ⟨(some 61), none, (.call F_ident_node 0), [.t 59, .t 60]⟩, ⟨none, none, (.st 2), [.t 2, .t 58]⟩, ⟨none, none, (.st 2), [.t 3, .t 61]⟩]) .ret))))))
theorem comp_ident_split : compF Try.prog (mset [] [21, 23, 25, 27] [5, 6]) (cset [] [] []) (wset [] []) Try.f85 = some c_ident_split := by kernel_rfl
theorem ok_ident_split : fnOk Try.prog F_ident_split = true := by kernel_rfl
theorem calls_ident_split {args : List AV} {r : AV} (h : RunsX Try.prog 0 (Gives [.cn 2 2, .cn 3 2] r) [.c c_ident_split] (args ++ List.replicate (62 - args.length) (.tup [])) [] zeroC) : PCalls Try.prog F_ident_split args r :=
  pcallsF Try.checked.mixed Try.func85 ok_ident_split comp_ident_split rfl (rs := [.cn 2 2, .cn 3 2]) (by kernel_rfl) h
theorem hcalls_ident_split {args : List AV} {Hin Hout : Heap} {nx nx2 : Ctr} {r : AV} (φ : Nat) (ks : List (Nat × Nat)) (h : RunsX Try.prog φ (GivesH ks [.cn 2 2, .cn 3 2] r Hout nx2) [.c c_ident_split] (args ++ List.replicate (62 - args.length) (.tup [])) Hin nx) : HCalls Try.prog F_ident_split args Hin nx r Hout nx2 :=
  hcallsF Try.checked.mixed Try.func85 ok_ident_split comp_ident_split rfl (rs := [.cn 2 2, .cn 3 2]) (by kernel_rfl) φ ks h

/-- pedlar/pedlarref04.Split: parameters [24], results [.cn 2 2, .cn 3 2, .t 4], calls ref04_Same, ref04_Split, ref04_Right -/
def c_ref04_Split : Cd := (.seq (.reg [⟨(some 1), none, .box, [.t 0]⟩, ⟨(some 2), none, (.new [(.bool false), .nils] 2), []⟩, ⟨(some 3), none, (.new [(.bool false), .nils] 3), []⟩, ⟨(some 4), none, .mv, [.c (.bool false)]⟩]) (.seq (.seq (.reg [⟨(some 13), none, (.fa 1), [.t 1]⟩, ⟨(some 14), none, .ld1, [.t 13]⟩, ⟨(some 15), none, .len, [.t 14]⟩, ⟨(some 16), none, (.bin .eql), [.t 15, .c (.int .i64 0)]⟩]) (.cond (.t 16) (.seq (.reg [⟨(some 17), none, (.bld [(.bool false), .nils] [(0, 1)]), [.c (.bool true)]⟩, ⟨(some 18), none, (.bld [(.bool false), .nils] []), []⟩, ⟨(some 19), none, (.lit 2 2), [.t 17, .t 18]⟩, ⟨(some 20), none, (.bld [(.bool false), .nils] [(1, 1)]), [.t 19]⟩, ⟨(some 21), none, (.bld [(.bool false), .nils] []), []⟩, ⟨(some 22), none, (.bld [(.bool false), .nils] [(0, 1)]), [.c (.bool true)]⟩, ⟨(some 23), none, (.lit 2 2), [.t 21, .t 22]⟩, ⟨(some 24), none, (.bld [(.bool false), .nils] [(1, 1)]), [.t 23]⟩, ⟨none, none, (.stk 2 2), [.t 2, .t 20]⟩, ⟨none, none, (.stk 2 3), [.t 3, .t 24]⟩, ⟨(some 4), none, .mv, [.c (.bool true)]⟩]) .ret) .skip)) (.seq (.reg [⟨(some 25), none, (.fa 1), [.t 1]⟩, ⟨(some 26), none, .ld1r, [.t 25]⟩, ⟨(some 27), none, (.ixS 2), [.t 26, .c (.int .i64 0)]⟩, ⟨(some 28), none, (.ldnr 2), [.t 27]⟩, ⟨(some 29), none, (.fa 1), [.t 1]⟩, ⟨(some 30), none, .ld1r, [.t 29]⟩, ⟨(some 31), none, (.ixS 2), [.t 30, .c (.int .i64 1)]⟩, ⟨(some 32), none, (.ldnr 2), [.t 31]⟩, ⟨(some 5), none, (.new [(.bool false), .nils] 5), []⟩, ⟨(some 6), none, (.new [(.bool false), .nils] 6), []⟩, ⟨none, none, (.stk 2 5), [.t 5, .t 28]⟩, ⟨none, none, (.stk 2 6), [.t 6, .t 32]⟩]) (.seq (.reg [⟨(some 33), none, (.bld [(.bool false), .nils] []), []⟩, ⟨(some 7), none, (.new [(.bool false), .nils] 7), []⟩, ⟨none, none, (.stk 2 7), [.t 7, .t 33]⟩]) (.seq (.reg [⟨(some 8), none, (.new [(.bool false), .nils] 8), []⟩, ⟨(some 9), none, (.new [(.bool false), .nils] 9), []⟩]) (.seq (.seq (.reg [⟨(some 34), none, (.ldn 2), [.t 5]⟩, ⟨(some 35), none, (.ldn 2), [.t 7]⟩, ⟨(some 36), none, (.call F_ref04_Same 0), [.t 34, .t 35]⟩, ⟨(some 37), none, .mv, [.t 36]⟩, ⟨(some 38), (some (37, false)), (.ldn 2), [.t 6]⟩, ⟨(some 39), (some (37, false)), (.ldn 2), [.t 7]⟩, ⟨(some 40), (some (37, false)), (.call F_ref04_Same 0), [.t 38, .t 39]⟩, ⟨(some 41), none, .pick, [.t 37, .c (.bool true), .t 40]⟩]) (.cond (.t 41) (.seq (.reg [⟨(some 43), none, (.ldn 2), [.t 6]⟩, ⟨(some 44), none, (.call F_ref04_Split 0), [.t 43]⟩, ⟨(some 42), none, .mv, [.t 44]⟩, ⟨(some 45), none, (.ext 0), [.t 42]⟩, ⟨(some 46), none, (.ext 1), [.t 42]⟩, ⟨(some 47), none, (.ext 2), [.t 42]⟩, ⟨(some 10), none, (.new [(.bool false), .nils] 10), []⟩, ⟨(some 11), none, (.new [(.bool false), .nils] 11), []⟩, ⟨none, none, (.stk 2 10), [.t 10, .t 45]⟩, ⟨none, none, (.stk 2 11), [.t 11, .t 46]⟩, ⟨(some 12), none, .mv, [.t 47]⟩]) (.seq (.reg [⟨(some 48), none, (.ldnk 2 7), [.t 7]⟩, ⟨(some 49), none, (.ldnk 2 10), [.t 10]⟩, ⟨(some 50), none, (.litr 2 2), [.t 48, .t 49]⟩, ⟨(some 51), none, (.bld [(.bool false), .nils] [(1, 1)]), [.t 50]⟩, ⟨(some 52), none, (.ldnk 2 7), [.t 7]⟩, ⟨(some 53), none, (.ldnk 2 11), [.t 11]⟩, ⟨(some 54), none, (.litr 2 2), [.t 52, .t 53]⟩, ⟨(some 55), none, (.bld [(.bool false), .nils] [(1, 1)]), [.t 54]⟩, ⟨none, none, (.stk 2 8), [.t 8, .t 51]⟩, ⟨none, none, (.stk 2 9), [.t 9, .t 55]⟩]) (.seq (.reg [⟨(some 56), none, (.ldn 2), [.t 6]⟩, ⟨(some 57), none, (.ldn 2), [.t 7]⟩, ⟨(some 58), none, (.call F_ref04_Same 0), [.t 56, .t 57]⟩]) (.cond (.t 58) (.seq (.reg [⟨(some 60), none, (.ldn 2), [.t 5]⟩, ⟨(some 61), none, (.call F_ref04_Split 0), [.t 60]⟩, ⟨(some 59), none, .mv, [.t 61]⟩, ⟨(some 62), none, (.ext 0), [.t 59]⟩, ⟨(some 63), none, (.ext 1), [.t 59]⟩, ⟨(some 64), none, (.ext 2), [.t 59]⟩, ⟨none, none, (.stk 2 10), [.t 10, .t 62]⟩, ⟨none, none, (.stk 2 11), [.t 11, .t 63]⟩]) (.reg [⟨(some 65), none, (.ldnk 2 10), [.t 10]⟩, ⟨(some 66), none, (.ldnk 2 7), [.t 7]⟩, ⟨(some 67), none, (.litr 2 2), [.t 65, .t 66]⟩, ⟨(some 68), none, (.bld [(.bool false), .nils] [(1, 1)]), [.t 67]⟩, ⟨(some 69), none, (.ldnk 2 11), [.t 11]⟩, ⟨(some 70), none, (.ldnk 2 7), [.t 7]⟩, ⟨(some 71), none, (.litr 2 2), [.t 69, .t 70]⟩, ⟨(some 72), none, (.bld [(.bool false), .nils] [(1, 1)]), [.t 71]⟩, ⟨none, none, (.stk 2 8), [.t 8, .t 68]⟩, ⟨none, none, (.stk 2 9), [.t 9, .t 72]⟩])) .skip)))) (.reg [⟨(some 73), none, (.ldnk 2 5), [.t 5]⟩, ⟨(some 74), none, (.ldnk 2 7), [.t 7]⟩, ⟨(some 75), none, (.litr 2 2), [.t 73, .t 74]⟩, ⟨(some 76), none, (.bld [(.bool false), .nils] [(1, 1)]), [.t 75]⟩, ⟨(some 77), none, (.ldnk 2 7), [.t 7]⟩, ⟨(some 78), none, (.ldnk 2 6), [.t 6]⟩, ⟨(some 79), none, (.litr 2 2), [.t 77, .t 78]⟩, ⟨(some 80), none, (.bld [(.bool false), .nils] [(1, 1)]), [.t 79]⟩, ⟨none, none, (.stk 2 8), [.t 8, .t 76]⟩, ⟨none, none, (.stk 2 9), [.t 9, .t 80]⟩]))) (.seq (.reg [⟨(some 81), none, (.ldnk 2 8), [.t 8]⟩, ⟨(some 82), none, (.ldnk 2 9), [.t 9]⟩, ⟨(some 83), none, (.ldnk 2 8), [.t 8]⟩, ⟨(some 84), none, (.call F_ref04_Right 0), [.t 83]⟩, ⟨(some 85), none, .mv, [.t 84]⟩, ⟨(some 86), (some (85, true)), (.ldnk 2 9), [.t 9]⟩, ⟨(some 87), (some (85, true)), (.call F_ref04_Right 0), [.t 86]⟩, ⟨(some 88), none, .pick, [.t 85, .t 87, .c (.bool false)]⟩, ⟨none, none, (.stk 2 2), [.t 2, .t 81]⟩, ⟨none, none, (.stk 2 3), [.t 3, .t 82]⟩, ⟨(some 4), none, .mv, [.t 88]⟩]) .ret)))))))
theorem comp_ref04_Split : compF Try.prog (mset [] [26, 28, 30, 32, 48, 49, 50, 52, 53, 54, 65, 66, 67, 69, 70, 71, 73, 74, 75, 77, 78, 79, 81, 82, 83, 86] [5, 6, 7, 10, 11, 8, 9, 2, 3]) (cset [] [] []) (wset [] []) Try.f17 = some c_ref04_Split := by kernel_rfl
theorem ok_ref04_Split : fnOk Try.prog F_ref04_Split = true := by kernel_rfl
theorem calls_ref04_Split {args : List AV} {r : AV} (h : RunsX Try.prog 0 (Gives [.cn 2 2, .cn 3 2, .t 4] r) [.c c_ref04_Split] (args ++ List.replicate (89 - args.length) (.tup [])) [] zeroC) : PCalls Try.prog F_ref04_Split args r :=
  pcallsF Try.checked.mixed Try.func17 ok_ref04_Split comp_ref04_Split rfl (rs := [.cn 2 2, .cn 3 2, .t 4]) (by kernel_rfl) h
theorem hcalls_ref04_Split {args : List AV} {Hin Hout : Heap} {nx nx2 : Ctr} {r : AV} (φ : Nat) (ks : List (Nat × Nat)) (h : RunsX Try.prog φ (GivesH ks [.cn 2 2, .cn 3 2, .t 4] r Hout nx2) [.c c_ref04_Split] (args ++ List.replicate (89 - args.length) (.tup [])) Hin nx) : HCalls Try.prog F_ref04_Split args Hin nx r Hout nx2 :=
  hcallsF Try.checked.mixed Try.func17 ok_ref04_Split comp_ref04_Split rfl (rs := [.cn 2 2, .cn 3 2, .t 4]) (by kernel_rfl) φ ks h

/-- pedlar/pedlarlaw04.IdentSplits: parameters [24], results [.t 2], calls law04_awake, law04_Few, ident_Split, ref04_Right, ref04_Split, ref04_Same, ident_Nothing, ident_Apart, ident_Join -/
def c_law04_IdentSplits : Cd := (.seq (.reg [⟨(some 1), none, .box, [.t 0]⟩, ⟨(some 2), none, .mv, [.c (.bool false)]⟩]) (.seq (.seq (.reg [⟨(some 11), none, (.call F_law04_awake 0), []⟩, ⟨(some 12), none, .not, [.t 11]⟩, ⟨(some 13), none, .mv, [.t 12]⟩, ⟨(some 14), (some (13, false)), (.ldn 2), [.t 1]⟩, ⟨(some 15), (some (13, false)), (.call F_law04_Few 0), [.t 14, .c (.int .i64 30)]⟩, ⟨(some 16), (some (13, false)), .not, [.t 15]⟩, ⟨(some 17), none, .pick, [.t 13, .c (.bool true), .t 16]⟩]) (.cond (.t 17) (.seq (.reg [⟨(some 18), none, (.call F_law04_awake 0), []⟩, ⟨(some 2), none, .mv, [.t 18]⟩]) .ret) .skip)) (.seq (.reg [⟨(some 20), none, (.ldn 2), [.t 1]⟩, ⟨(some 21), none, (.call F_ident_Split 0), [.t 20]⟩, ⟨(some 19), none, .mv, [.t 21]⟩, ⟨(some 22), none, (.ext 0), [.t 19]⟩, ⟨(some 23), none, (.ext 1), [.t 19]⟩, ⟨(some 24), none, (.ext 2), [.t 19]⟩, ⟨(some 3), none, (.new [(.bool false), .nils] 3), []⟩, ⟨(some 4), none, (.new [(.bool false), .nils] 4), []⟩, ⟨none, none, (.st 2), [.t 3, .t 22]⟩, ⟨none, none, (.st 2), [.t 4, .t 23]⟩, ⟨(some 5), none, .mv, [.t 24]⟩]) (.seq (.seq (.reg [⟨(some 25), none, (.ldn 2), [.t 1]⟩, ⟨(some 26), none, (.call F_ref04_Right 0), [.t 25]⟩, ⟨(some 27), none, .not, [.t 26]⟩, ⟨(some 28), none, .mv, [.t 27]⟩, ⟨(some 29), (some (28, false)), (.fa 1), [.t 1]⟩, ⟨(some 30), (some (28, false)), .ld1, [.t 29]⟩, ⟨(some 31), (some (28, false)), .len, [.t 30]⟩, ⟨(some 32), (some (28, false)), (.bin .eql), [.t 31, .c (.int .i64 0)]⟩, ⟨(some 33), (some (28, false)), .mv, [.t 32]⟩, ⟨(some 34), (some (33, true)), (.fa 0), [.t 1]⟩, ⟨(some 35), (some (33, true)), .ld1, [.t 34]⟩, ⟨(some 36), (some (33, true)), .not, [.t 35]⟩, ⟨(some 37), (some (28, false)), .pick, [.t 33, .t 36, .c (.bool false)]⟩, ⟨(some 38), none, .pick, [.t 28, .c (.bool true), .t 37]⟩]) (.cond (.t 38) (.seq (.reg [⟨(some 39), none, .mv, [.t 5]⟩, ⟨(some 40), none, (.bin .eql), [.t 39, .c (.int .i64 1)]⟩, ⟨(some 41), none, .mv, [.t 40]⟩, ⟨(some 42), (some (41, true)), (.fa 1), [.t 3]⟩, ⟨(some 43), (some (41, true)), .ld1, [.t 42]⟩, ⟨(some 44), (some (41, true)), .len, [.t 43]⟩, ⟨(some 45), (some (41, true)), (.fa 1), [.t 4]⟩, ⟨(some 46), (some (41, true)), .ld1, [.t 45]⟩, ⟨(some 47), (some (41, true)), .len, [.t 46]⟩, ⟨(some 48), (some (41, true)), (.bin .add), [.t 44, .t 47]⟩, ⟨(some 49), (some (41, true)), (.bin .eql), [.t 48, .c (.int .i64 0)]⟩, ⟨(some 50), none, .pick, [.t 41, .t 49, .c (.bool false)]⟩, ⟨(some 51), none, .mv, [.t 50]⟩, ⟨(some 52), (some (51, true)), (.fa 0), [.t 3]⟩, ⟨(some 53), (some (51, true)), .ld1, [.t 52]⟩, ⟨(some 54), (some (51, true)), .not, [.t 53]⟩, ⟨(some 55), none, .pick, [.t 51, .t 54, .c (.bool false)]⟩, ⟨(some 56), none, .mv, [.t 55]⟩, ⟨(some 57), (some (56, true)), (.fa 0), [.t 4]⟩, ⟨(some 58), (some (56, true)), .ld1, [.t 57]⟩, ⟨(some 59), (some (56, true)), .not, [.t 58]⟩, ⟨(some 60), none, .pick, [.t 56, .t 59, .c (.bool false)]⟩, ⟨(some 2), none, .mv, [.t 60]⟩]) .ret) .skip)) (.seq (.reg [⟨(some 62), none, (.ldn 2), [.t 1]⟩, ⟨(some 63), none, (.call F_ref04_Split 0), [.t 62]⟩, ⟨(some 61), none, .mv, [.t 63]⟩, ⟨(some 64), none, (.ext 0), [.t 61]⟩, ⟨(some 65), none, (.ext 1), [.t 61]⟩, ⟨(some 66), none, (.ext 2), [.t 61]⟩, ⟨(some 6), none, (.new [(.bool false), .nils] 6), []⟩, ⟨(some 7), none, (.new [(.bool false), .nils] 7), []⟩, ⟨none, none, (.st 2), [.t 6, .t 64]⟩, ⟨none, none, (.st 2), [.t 7, .t 65]⟩, ⟨(some 8), none, .mv, [.t 66]⟩]) (.seq (.seq (.reg [⟨(some 67), none, .mv, [.t 8]⟩, ⟨(some 68), none, .not, [.t 67]⟩]) (.cond (.t 68) (.seq (.reg [⟨(some 69), none, .mv, [.t 5]⟩, ⟨(some 70), none, (.bin .eql), [.t 69, .c (.int .i64 9)]⟩, ⟨(some 71), none, .mv, [.t 70]⟩, ⟨(some 72), (some (71, true)), (.fa 1), [.t 3]⟩, ⟨(some 73), (some (71, true)), .ld1, [.t 72]⟩, ⟨(some 74), (some (71, true)), .len, [.t 73]⟩, ⟨(some 75), (some (71, true)), (.fa 1), [.t 4]⟩, ⟨(some 76), (some (71, true)), .ld1, [.t 75]⟩, ⟨(some 77), (some (71, true)), .len, [.t 76]⟩, ⟨(some 78), (some (71, true)), (.bin .add), [.t 74, .t 77]⟩, ⟨(some 79), (some (71, true)), (.bin .eql), [.t 78, .c (.int .i64 0)]⟩, ⟨(some 80), none, .pick, [.t 71, .t 79, .c (.bool false)]⟩, ⟨(some 2), none, .mv, [.t 80]⟩]) .ret) .skip)) (.seq (.seq (.reg [⟨(some 81), none, .mv, [.t 5]⟩, ⟨(some 82), none, (.bin .neq), [.t 81, .c (.int .i64 0)]⟩, ⟨(some 83), none, .mv, [.t 82]⟩, ⟨(some 84), (some (83, false)), (.ldn 2), [.t 3]⟩, ⟨(some 85), (some (83, false)), (.ldn 2), [.t 6]⟩, ⟨(some 86), (some (83, false)), (.call F_ref04_Same 0), [.t 84, .t 85]⟩, ⟨(some 87), (some (83, false)), .not, [.t 86]⟩, ⟨(some 88), none, .pick, [.t 83, .c (.bool true), .t 87]⟩, ⟨(some 89), none, .mv, [.t 88]⟩, ⟨(some 90), (some (89, false)), (.ldn 2), [.t 4]⟩, ⟨(some 91), (some (89, false)), (.ldn 2), [.t 7]⟩, ⟨(some 92), (some (89, false)), (.call F_ref04_Same 0), [.t 90, .t 91]⟩, ⟨(some 93), (some (89, false)), .not, [.t 92]⟩, ⟨(some 94), none, .pick, [.t 89, .c (.bool true), .t 93]⟩, ⟨(some 95), none, .mv, [.t 94]⟩, ⟨(some 96), (some (95, false)), (.ldn 2), [.t 3]⟩, ⟨(some 97), (some (95, false)), (.call F_ident_Nothing 0), [.t 96]⟩, ⟨(some 98), none, .pick, [.t 95, .c (.bool true), .t 97]⟩, ⟨(some 99), none, .mv, [.t 98]⟩, ⟨(some 100), (some (99, false)), (.ldn 2), [.t 4]⟩, ⟨(some 101), (some (99, false)), (.call F_ident_Nothing 0), [.t 100]⟩, ⟨(some 102), none, .pick, [.t 99, .c (.bool true), .t 101]⟩, ⟨(some 103), none, .mv, [.t 102]⟩, ⟨(some 104), (some (103, false)), (.ldn 2), [.t 3]⟩, ⟨(some 105), (some (103, false)), (.ldn 2), [.t 4]⟩, ⟨(some 106), (some (103, false)), (.call F_ident_Apart 0), [.t 104, .t 105]⟩, ⟨(some 107), (some (103, false)), .not, [.t 106]⟩, ⟨(some 108), none, .pick, [.t 103, .c (.bool true), .t 107]⟩]) (.cond (.t 108) (.seq (.reg [⟨(some 2), none, .mv, [.c (.bool false)]⟩]) .ret) .skip)) (.seq (.reg [⟨(some 110), none, (.ldn 2), [.t 4]⟩, ⟨(some 111), none, (.ldn 2), [.t 3]⟩, ⟨(some 112), none, (.call F_ident_Join 0), [.t 110, .t 111]⟩, ⟨(some 109), none, .mv, [.t 112]⟩, ⟨(some 113), none, (.ext 0), [.t 109]⟩, ⟨(some 114), none, (.ext 1), [.t 109]⟩, ⟨(some 9), none, (.new [(.bool false), .nils] 9), []⟩, ⟨none, none, (.st 2), [.t 9, .t 113]⟩, ⟨(some 10), none, .mv, [.t 114]⟩]) (.seq (.reg [⟨(some 115), none, .mv, [.t 10]⟩, ⟨(some 116), none, (.bin .eql), [.t 115, .c (.int .i64 0)]⟩, ⟨(some 117), none, .mv, [.t 116]⟩, ⟨(some 118), (some (117, true)), (.ldn 2), [.t 9]⟩, ⟨(some 119), (some (117, true)), (.ldn 2), [.t 1]⟩, ⟨(some 120), (some (117, true)), (.call F_ref04_Same 0), [.t 118, .t 119]⟩, ⟨(some 121), none, .pick, [.t 117, .t 120, .c (.bool false)]⟩, ⟨(some 2), none, .mv, [.t 121]⟩]) .ret)))))))))
theorem comp_law04_IdentSplits : compF Try.prog (mset [] [] []) (cset [] [] []) (wset [] []) Try.f3 = some c_law04_IdentSplits := by kernel_rfl
theorem ok_law04_IdentSplits : fnOk Try.prog F_law04_IdentSplits = true := by kernel_rfl
theorem calls_law04_IdentSplits {args : List AV} {r : AV} (h : RunsX Try.prog 0 (Gives [.t 2] r) [.c c_law04_IdentSplits] (args ++ List.replicate (122 - args.length) (.tup [])) [] zeroC) : PCalls Try.prog F_law04_IdentSplits args r :=
  pcallsF Try.checked.mixed Try.func3 ok_law04_IdentSplits comp_law04_IdentSplits rfl (rs := [.t 2]) (by kernel_rfl) h
theorem hcalls_law04_IdentSplits {args : List AV} {Hin Hout : Heap} {nx nx2 : Ctr} {r : AV} (φ : Nat) (ks : List (Nat × Nat)) (h : RunsX Try.prog φ (GivesH ks [.t 2] r Hout nx2) [.c c_law04_IdentSplits] (args ++ List.replicate (122 - args.length) (.tup [])) Hin nx) : HCalls Try.prog F_law04_IdentSplits args Hin nx r Hout nx2 :=
  hcallsF Try.checked.mixed Try.func3 ok_law04_IdentSplits comp_law04_IdentSplits rfl (rs := [.t 2]) (by kernel_rfl) φ ks h

def tab_CdSplit : List (Nat × Cd × Nat × List RS) := [(F_ident_Split, c_ident_Split, 35, [.cn 2 2, .cn 3 2, .t 4]), (F_ident_split, c_ident_split, 62, [.cn 2 2, .cn 3 2]), (F_ref04_Split, c_ref04_Split, 89, [.cn 2 2, .cn 3 2, .t 4]), (F_law04_IdentSplits, c_law04_IdentSplits, 122, [.t 2])]
theorem tok_CdSplit : TabOk Try.prog (tabOf tab_CdSplit) := tab_cons calls_ident_Split hcalls_ident_Split (tab_cons calls_ident_split hcalls_ident_split (tab_cons calls_ref04_Split hcalls_ref04_Split (tab_cons calls_law04_IdentSplits hcalls_law04_IdentSplits (tab_nil))))
end Go.Proofs.Ytmokhopjnjecbab
/- The functions' bodies, compiled; printed by a program of mine (gen.py); that they are is checked here. -/
namespace Go.Proofs.Ytmokhopjnjecbab
open Go.Ev
set_option maxRecDepth 100000

/-- pedlar/ident.Join: parameters [24, 24], results [.cn 4 2, .t 5], calls ident_Apart, ident_join, ident_Right, ident_Clone -/
def c_ident_Join : Cd := (.seq (.reg [⟨(some 2), none, .box, [.t 0]⟩, ⟨(some 3), none, .box, [.t 1]⟩, ⟨(some 4), none, (.new [(.bool false), .nils] 4), []⟩, ⟨(some 5), none, .mv, [.c (.int .i64 0)]⟩]) (.seq (.seq (.reg [⟨(some 7), none, (.ldn 2), [.t 2]⟩, ⟨(some 8), none, (.ldn 2), [.t 3]⟩, ⟨(some 9), none, (.call F_ident_Apart 0), [.t 7, .t 8]⟩, ⟨(some 10), none, .not, [.t 9]⟩]) (.cond (.t 10) (.seq (.reg [⟨(some 11), none, (.bld [(.bool false), .nils] []), []⟩, ⟨none, none, (.st 2), [.t 4, .t 11]⟩, ⟨(some 5), none, .mv, [.c (.int .i64 1)]⟩]) .ret) .skip)) (.seq (.reg [⟨(some 12), none, (.ldn 2), [.t 2]⟩, ⟨(some 13), none, (.ldn 2), [.t 3]⟩, ⟨(some 14), none, (.call F_ident_join 0), [.t 12, .t 13]⟩, ⟨(some 6), none, (.new [(.bool false), .nils] 6), []⟩, ⟨none, none, (.st 2), [.t 6, .t 14]⟩]) (.seq (.seq (.reg [⟨(some 15), none, (.ldn 2), [.t 6]⟩, ⟨(some 16), none, (.call F_ident_Right 0), [.t 15]⟩, ⟨(some 17), none, .not, [.t 16]⟩]) (.cond (.t 17) (.seq (.reg [⟨(some 18), none, (.bld [(.bool false), .nils] []), []⟩, ⟨none, none, (.st 2), [.t 4, .t 18]⟩, ⟨(some 5), none, .mv, [.c (.int .i64 9)]⟩]) .ret) .skip)) (.seq (.reg [⟨(some 19), none, (.ldn 2), [.t 6]⟩, ⟨(some 20), none, (.call F_ident_Clone 0), [.t 19]⟩, ⟨none, none, (.st 2), [.t 4, .t 20]⟩, ⟨(some 5), none, .mv, [.c (.int .i64 0)]⟩]) .ret)))))
theorem comp_ident_Join : compF Try.prog (mset [] [] []) (cset [] [] []) (wset [] []) Try.f21 = some c_ident_Join := by kernel_rfl
theorem ok_ident_Join : fnOk Try.prog F_ident_Join = true := by kernel_rfl
theorem calls_ident_Join {args : List AV} {r : AV} (h : RunsX Try.prog 0 (Gives [.cn 4 2, .t 5] r) [.c c_ident_Join] (args ++ List.replicate (21 - args.length) (.tup [])) [] zeroC) : PCalls Try.prog F_ident_Join args r :=
  pcallsF Try.checked.mixed Try.func21 ok_ident_Join comp_ident_Join rfl (rs := [.cn 4 2, .t 5]) (by kernel_rfl) h
theorem hcalls_ident_Join {args : List AV} {Hin Hout : Heap} {nx nx2 : Ctr} {r : AV} (φ : Nat) (ks : List (Nat × Nat)) (h : RunsX Try.prog φ (GivesH ks [.cn 4 2, .t 5] r Hout nx2) [.c c_ident_Join] (args ++ List.replicate (21 - args.length) (.tup [])) Hin nx) : HCalls Try.prog F_ident_Join args Hin nx r Hout nx2 :=
  hcallsF Try.checked.mixed Try.func21 ok_ident_Join comp_ident_Join rfl (rs := [.cn 4 2, .t 5]) (by kernel_rfl) φ ks h

/-- pedlar/ident.Apart: parameters [24, 24], results [.t 4], calls ident_Right, ident_apart -/
def c_ident_Apart : Cd := (.seq (.reg [⟨(some 2), none, .box, [.t 0]⟩, ⟨(some 3), none, .box, [.t 1]⟩, ⟨(some 4), none, .mv, [.c (.bool false)]⟩]) (.seq (.reg [⟨(some 5), none, (.ldn 2), [.t 2]⟩, ⟨(some 6), none, (.call F_ident_Right 0), [.t 5]⟩, ⟨(some 7), none, .mv, [.t 6]⟩, ⟨(some 8), (some (7, true)), (.ldn 2), [.t 3]⟩, ⟨(some 9), (some (7, true)), (.call F_ident_Right 0), [.t 8]⟩, ⟨(some 10), none, .pick, [.t 7, .t 9, .c (.bool false)]⟩, ⟨(some 11), none, .mv, [.t 10]⟩, ⟨(some 12), (some (11, true)), (.ldn 2), [.t 2]⟩, ⟨(some 13), (some (11, true)), (.ldn 2), [.t 3]⟩, ⟨(some 14), (some (11, true)), (.call F_ident_apart 0), [.t 12, .t 13]⟩, ⟨(some 15), none, .pick, [.t 11, .t 14, .c (.bool false)]⟩, ⟨(some 4), none, .mv, [.t 15]⟩]) .ret))
theorem comp_ident_Apart : compF Try.prog (mset [] [] []) (cset [] [] []) (wset [] []) Try.f20 = some c_ident_Apart := by kernel_rfl
theorem ok_ident_Apart : fnOk Try.prog F_ident_Apart = true := by kernel_rfl
theorem calls_ident_Apart {args : List AV} {r : AV} (h : RunsX Try.prog 0 (Gives [.t 4] r) [.c c_ident_Apart] (args ++ List.replicate (16 - args.length) (.tup [])) [] zeroC) : PCalls Try.prog F_ident_Apart args r :=
  pcallsF Try.checked.mixed Try.func20 ok_ident_Apart comp_ident_Apart rfl (rs := [.t 4]) (by kernel_rfl) h
theorem hcalls_ident_Apart {args : List AV} {Hin Hout : Heap} {nx nx2 : Ctr} {r : AV} (φ : Nat) (ks : List (Nat × Nat)) (h : RunsX Try.prog φ (GivesH ks [.t 4] r Hout nx2) [.c c_ident_Apart] (args ++ List.replicate (16 - args.length) (.tup [])) Hin nx) : HCalls Try.prog F_ident_Apart args Hin nx r Hout nx2 :=
  hcallsF Try.checked.mixed Try.func20 ok_ident_Apart comp_ident_Apart rfl (rs := [.t 4]) (by kernel_rfl) φ ks h

/-- pedlar/ident.join: parameters [24, 24], results [.cn 4 2], calls ident_Nothing, ident_join, ident_node -/
def c_ident_join : Cd := (.seq (.reg [⟨(some 2), none, .box, [.t 0]⟩, ⟨(some 3), none, .box, [.t 1]⟩, ⟨(some 4), none, (.new [(.bool false), .nils] 4), []⟩]) (.seq (.blk 0 [] (.seq (.reg [⟨(some 6), none, (.ldn 2), [.t 2]⟩, ⟨(some 7), none, (.call F_ident_Nothing 0), [.t 6]⟩, ⟨(some 5), none, .mv, [.t 7]⟩]) (.cond (.t 5) (.seq (.reg [⟨(some 8), none, (.ldn 2), [.t 3]⟩, ⟨none, none, (.st 2), [.t 4, .t 8]⟩]) .ret) (.seq (.reg [⟨(some 10), none, (.ldn 2), [.t 3]⟩, ⟨(some 11), none, (.call F_ident_Nothing 0), [.t 10]⟩, ⟨(some 9), none, .mv, [.t 11]⟩]) (.cond (.t 9) (.seq (.reg [⟨(some 12), none, (.ldn 2), [.t 2]⟩, ⟨none, none, (.st 2), [.t 4, .t 12]⟩]) .ret) .skip))))) (.seq (.reg [⟨(some 13), none, (.fa 1), [.t 2]⟩, ⟨(some 14), none, .ld1, [.t 13]⟩, ⟨(some 15), none, (.ixS 2), [.t 14, .c (.int .i64 0)]⟩, ⟨(some 16), none, (.ldn 2), [.t 15]⟩, ⟨(some 17), none, (.fa 1), [.t 3]⟩, ⟨(some 18), none, .ld1, [.t 17]⟩, ⟨(some 19), none, (.ixS 2), [.t 18, .c (.int .i64 0)]⟩, ⟨(some 20), none, (.ldn 2), [.t 19]⟩, ⟨(some 21), none, (.call F_ident_join 0), [.t 16, .t 20]⟩, ⟨(some 22), none, (.fa 1), [.t 2]⟩, ⟨(some 23), none, .ld1, [.t 22]⟩, ⟨(some 24), none, (.ixS 2), [.t 23, .c (.int .i64 1)]⟩, ⟨(some 25), none, (.ldn 2), [.t 24]⟩, ⟨(some 26), none, (.fa 1), [.t 3]⟩, ⟨(some 27), none, .ld1, [.t 26]⟩, ⟨(some 28), none, (.ixS 2), [.t 27, .c (.int .i64 1)]⟩, ⟨(some 29), none, (.ldn 2), [.t 28]⟩, ⟨(some 30), none, (.call F_ident_join 0), [.t 25, .t 29]⟩, ⟨(some 31), none, (.call F_ident_node 0), [.t 21, .t 30]⟩, ⟨none, none, (.st 2), [.t 4, .t 31]⟩]) .ret)))
theorem comp_ident_join : compF Try.prog (mset [] [] []) (cset [] [] []) (wset [] []) Try.f91 = some c_ident_join := by kernel_rfl
theorem ok_ident_join : fnOk Try.prog F_ident_join = true := by kernel_rfl
theorem calls_ident_join {args : List AV} {r : AV} (h : RunsX Try.prog 0 (Gives [.cn 4 2] r) [.c c_ident_join] (args ++ List.replicate (32 - args.length) (.tup [])) [] zeroC) : PCalls Try.prog F_ident_join args r :=
  pcallsF Try.checked.mixed Try.func91 ok_ident_join comp_ident_join rfl (rs := [.cn 4 2]) (by kernel_rfl) h
theorem hcalls_ident_join {args : List AV} {Hin Hout : Heap} {nx nx2 : Ctr} {r : AV} (φ : Nat) (ks : List (Nat × Nat)) (h : RunsX Try.prog φ (GivesH ks [.cn 4 2] r Hout nx2) [.c c_ident_join] (args ++ List.replicate (32 - args.length) (.tup [])) Hin nx) : HCalls Try.prog F_ident_join args Hin nx r Hout nx2 :=
  hcallsF Try.checked.mixed Try.func91 ok_ident_join comp_ident_join rfl (rs := [.cn 4 2]) (by kernel_rfl) φ ks h

/-- pedlar/ident.apart: parameters [24, 24], results [.t 4], calls ident_Nothing, ident_leaf, ident_apart -/
def c_ident_apart : Cd := (.seq (.reg [⟨(some 2), none, .box, [.t 0]⟩, ⟨(some 3), none, .box, [.t 1]⟩, ⟨(some 4), none, .mv, [.c (.bool false)]⟩]) (.seq (.blk 0 [] (.seq (.reg [⟨(some 6), none, (.ldn 2), [.t 2]⟩, ⟨(some 7), none, (.call F_ident_Nothing 0), [.t 6]⟩, ⟨(some 8), none, .mv, [.t 7]⟩, ⟨(some 9), (some (8, false)), (.ldn 2), [.t 3]⟩, ⟨(some 10), (some (8, false)), (.call F_ident_Nothing 0), [.t 9]⟩, ⟨(some 11), none, .pick, [.t 8, .c (.bool true), .t 10]⟩, ⟨(some 5), none, .mv, [.t 11]⟩]) (.cond (.t 5) (.seq (.reg [⟨(some 4), none, .mv, [.c (.bool true)]⟩]) .ret) (.seq (.reg [⟨(some 13), none, (.ldn 2), [.t 2]⟩, ⟨(some 14), none, (.call F_ident_leaf 0), [.t 13]⟩, ⟨(some 15), none, .mv, [.t 14]⟩, ⟨(some 16), (some (15, false)), (.ldn 2), [.t 3]⟩, ⟨(some 17), (some (15, false)), (.call F_ident_leaf 0), [.t 16]⟩, ⟨(some 18), none, .pick, [.t 15, .c (.bool true), .t 17]⟩, ⟨(some 12), none, .mv, [.t 18]⟩]) (.cond (.t 12) (.seq (.reg [⟨(some 4), none, .mv, [.c (.bool false)]⟩]) .ret) .skip))))) (.seq (.reg [⟨(some 19), none, (.fa 1), [.t 2]⟩, ⟨(some 20), none, .ld1, [.t 19]⟩, ⟨(some 21), none, (.ixS 2), [.t 20, .c (.int .i64 0)]⟩, ⟨(some 22), none, (.ldn 2), [.t 21]⟩, ⟨(some 23), none, (.fa 1), [.t 3]⟩, ⟨(some 24), none, .ld1, [.t 23]⟩, ⟨(some 25), none, (.ixS 2), [.t 24, .c (.int .i64 0)]⟩, ⟨(some 26), none, (.ldn 2), [.t 25]⟩, ⟨(some 27), none, (.call F_ident_apart 0), [.t 22, .t 26]⟩, ⟨(some 28), none, .mv, [.t 27]⟩, ⟨(some 29), (some (28, true)), (.fa 1), [.t 2]⟩, ⟨(some 30), (some (28, true)), .ld1, [.t 29]⟩, ⟨(some 31), (some (28, true)), (.ixS 2), [.t 30, .c (.int .i64 1)]⟩, ⟨(some 32), (some (28, true)), (.ldn 2), [.t 31]⟩, ⟨(some 33), (some (28, true)), (.fa 1), [.t 3]⟩, ⟨(some 34), (some (28, true)), .ld1, [.t 33]⟩, ⟨(some 35), (some (28, true)), (.ixS 2), [.t 34, .c (.int .i64 1)]⟩, ⟨(some 36), (some (28, true)), (.ldn 2), [.t 35]⟩, ⟨(some 37), (some (28, true)), (.call F_ident_apart 0), [.t 32, .t 36]⟩, ⟨(some 38), none, .pick, [.t 28, .t 37, .c (.bool false)]⟩, ⟨(some 4), none, .mv, [.t 38]⟩]) .ret)))
theorem comp_ident_apart : compF Try.prog (mset [] [] []) (cset [] [] []) (wset [] []) Try.f90 = some c_ident_apart := by kernel_rfl
theorem ok_ident_apart : fnOk Try.prog F_ident_apart = true := by kernel_rfl
theorem calls_ident_apart {args : List AV} {r : AV} (h : RunsX Try.prog 0 (Gives [.t 4] r) [.c c_ident_apart] (args ++ List.replicate (39 - args.length) (.tup [])) [] zeroC) : PCalls Try.prog F_ident_apart args r :=
  pcallsF Try.checked.mixed Try.func90 ok_ident_apart comp_ident_apart rfl (rs := [.t 4]) (by kernel_rfl) h
theorem hcalls_ident_apart {args : List AV} {Hin Hout : Heap} {nx nx2 : Ctr} {r : AV} (φ : Nat) (ks : List (Nat × Nat)) (h : RunsX Try.prog φ (GivesH ks [.t 4] r Hout nx2) [.c c_ident_apart] (args ++ List.replicate (39 - args.length) (.tup [])) Hin nx) : HCalls Try.prog F_ident_apart args Hin nx r Hout nx2 :=
  hcallsF Try.checked.mixed Try.func90 ok_ident_apart comp_ident_apart rfl (rs := [.t 4]) (by kernel_rfl) φ ks h

/-- pedlar/ident.node: parameters [24, 24], results [.cn 4 2], calls ident_leaf -/
def c_ident_node : Cd := (.seq (.reg [⟨(some 2), none, .box, [.t 0]⟩, ⟨(some 3), none, .box, [.t 1]⟩, ⟨(some 4), none, (.new [(.bool false), .nils] 4), []⟩]) (.seq (.seq (.reg [⟨(some 5), none, (.ldn 2), [.t 2]⟩, ⟨(some 6), none, (.call F_ident_leaf 0), [.t 5]⟩, ⟨(some 7), none, .mv, [.t 6]⟩, ⟨(some 8), (some (7, true)), (.ldn 2), [.t 3]⟩, ⟨(some 9), (some (7, true)), (.call F_ident_leaf 0), [.t 8]⟩, ⟨(some 10), none, .pick, [.t 7, .t 9, .c (.bool false)]⟩, ⟨(some 11), none, .mv, [.t 10]⟩, ⟨(some 12), (some (11, true)), (.fa 0), [.t 2]⟩, ⟨(some 13), (some (11, true)), .ld1, [.t 12]⟩, ⟨(some 14), (some (11, true)), (.fa 0), [.t 3]⟩, ⟨(some 15), (some (11, true)), .ld1, [.t 14]⟩, ⟨(some 16), (some (11, true)), (.eqb false), [.t 13, .t 15]⟩, ⟨(some 17), none, .pick, [.t 11, .t 16, .c (.bool false)]⟩]) (.cond (.t 17) (.seq (.reg [⟨(some 18), none, (.fa 0), [.t 2]⟩, ⟨(some 19), none, .ld1, [.t 18]⟩, ⟨(some 20), none, (.bld [(.bool false), .nils] [(0, 1)]), [.t 19]⟩, ⟨none, none, (.st 2), [.t 4, .t 20]⟩]) .ret) .skip)) (.seq (.reg [⟨(some 21), none, (.ldn 2), [.t 2]⟩, ⟨(some 22), none, (.ldn 2), [.t 3]⟩, ⟨(some 23), none, (.lit 2 2), [.t 21, .t 22]⟩, ⟨(some 24), none, (.bld [(.bool false), .nils] [(1, 1)]), [.t 23]⟩, ⟨none, none, (.st 2), [.t 4, .t 24]⟩]) .ret)))
theorem comp_ident_node : compF Try.prog (mset [] [] []) (cset [] [] []) (wset [] []) Try.f142 = some c_ident_node := by kernel_rfl
theorem ok_ident_node : fnOk Try.prog F_ident_node = true := by kernel_rfl
theorem calls_ident_node {args : List AV} {r : AV} (h : RunsX Try.prog 0 (Gives [.cn 4 2] r) [.c c_ident_node] (args ++ List.replicate (25 - args.length) (.tup [])) [] zeroC) : PCalls Try.prog F_ident_node args r :=
  pcallsF Try.checked.mixed Try.func142 ok_ident_node comp_ident_node rfl (rs := [.cn 4 2]) (by kernel_rfl) h
theorem hcalls_ident_node {args : List AV} {Hin Hout : Heap} {nx nx2 : Ctr} {r : AV} (φ : Nat) (ks : List (Nat × Nat)) (h : RunsX Try.prog φ (GivesH ks [.cn 4 2] r Hout nx2) [.c c_ident_node] (args ++ List.replicate (25 - args.length) (.tup [])) Hin nx) : HCalls Try.prog F_ident_node args Hin nx r Hout nx2 :=
  hcallsF Try.checked.mixed Try.func142 ok_ident_node comp_ident_node rfl (rs := [.cn 4 2]) (by kernel_rfl) φ ks h

def tab_CdJoin : List (Nat × Cd × Nat × List RS) := [(F_ident_Join, c_ident_Join, 21, [.cn 4 2, .t 5]), (F_ident_Apart, c_ident_Apart, 16, [.t 4]), (F_ident_join, c_ident_join, 32, [.cn 4 2]), (F_ident_apart, c_ident_apart, 39, [.t 4]), (F_ident_node, c_ident_node, 25, [.cn 4 2])]
theorem tok_CdJoin : TabOk Try.prog (tabOf tab_CdJoin) := tab_cons calls_ident_Join hcalls_ident_Join (tab_cons calls_ident_Apart hcalls_ident_Apart (tab_cons calls_ident_join hcalls_ident_join (tab_cons calls_ident_apart hcalls_ident_apart (tab_cons calls_ident_node hcalls_ident_node (tab_nil)))))
end Go.Proofs.Ytmokhopjnjecbab
/- The walk through the identities' functions, on. -/
-- short
namespace Go.Proofs.Ytmokhopjnjecbab
open Go.Ev
set_option linter.unusedVariables false
set_option linter.unusedSimpArgs false
set_option maxRecDepth 100000
variable {R : List AV → Heap → Ctr → Prop} {k : List It} {H : Heap} {nx : Ctr} {φ : Nat}

theorem same_loop4 (d : Nat) (hd : d < 1000) (ihd : ∀ a b : Tree, a.size < 2 ^ 60 → PCalls Try.prog F_ident_same [tv a, tv b, .int .i64 (d : Nat)] (.bool (sm d a b))) (a b : Tree) (hl : a.ps.length = b.ps.length) (hs : a.size < 2 ^ 60) : ∀ (post pre post2 pre2 : List Tree), a.ps = pre ++ post → b.ps = pre2 ++ post2 → pre.length = pre2.length → ∀ nx : Ctr,
    RunsX Try.prog 0 (Gives [.t 6] (.bool (smL (sm d) post post2))) (i_ident_same_0 ++ [.c c_ident_same_k0]) (s_ident_same_0 (.int .i64 ((d + 1 : Nat) : Int)) (.ro [.bool a.one, .fz 2 (tavs a.ps) none]) (.ro [.bool b.one, .fz 2 (tavs b.ps) none]) (.int .i64 (a.ps.length : Nat)) (.int .i64 (pre.length : Nat))) [] nx := by
  have hls := len_size a
  intro post
  induction post with
  | nil =>
    intro pre post2 pre2 h1 h2 h3 nx
    have h5 : a.ps.length = pre.length := by rw [h1]; simp
    refine round (its := [.blk 0 wb_ident_same_0]) (k0 := [.c c_ident_same_k0]) 100 trivial trivial (fun A eA => ?_)
    simp (disch := first | omega | (simp only [avs_len, List.length_cons, List.length_append, List.length_nil, List.length_take, List.length_drop, List.length_map]; omega) | (simp only [cells, scal1, allSz, List.length_cons, List.length_nil, List.length_append, List.length_map, List.all_cons, List.all_nil, avs_len, beq_self_eq_true, Bool.and_self, and_self, or_true, true_or, reduceCtorEq, *]; done) | fail) only [c_ident_same, wl_ident_same_0, s_ident_same_0, c_ident_same_l0, wb_ident_same_0, c_ident_same_k0, go_sem, Nat.reduceAdd, Nat.reduceSub, Nat.reduceMul, Nat.reduceLT, Nat.reduceLeDiff, Int.reduceToNat, Nat.reduceEqDiff, Nat.reduceBEq, ↓reduceIte, reduceCtorEq, eA]
    refine walk0 (its := [.c c_ident_same_k0]) 100 trivial (fun A eA => ?_)
    simp (disch := first | omega | (simp only [avs_len, List.length_cons, List.length_append, List.length_nil, List.length_take, List.length_drop, List.length_map]; omega) | (simp only [cells, scal1, allSz, List.length_cons, List.length_nil, List.length_append, List.length_map, List.all_cons, List.all_nil, avs_len, beq_self_eq_true, Bool.and_self, and_self, or_true, true_or, reduceCtorEq, *]; done) | fail) only [c_ident_same, wl_ident_same_0, s_ident_same_0, c_ident_same_l0, wb_ident_same_0, c_ident_same_k0, go_sem, Nat.reduceAdd, Nat.reduceSub, Nat.reduceMul, Nat.reduceLT, Nat.reduceLeDiff, Int.reduceToNat, Nat.reduceEqDiff, Nat.reduceBEq, ↓reduceIte, reduceCtorEq, eA]
    cases post2 <;> exact doneG rfl
  | cons p post ih =>
    intro pre post2 pre2 h1 h2 h3 nx
    cases post2 with
    | nil => have h7 := congrArg List.length h1; have h8 := congrArg List.length h2; simp only [List.length_append, List.length_nil, List.length_cons] at h7 h8; omega
    | cons q post2 =>
      have hlt : pre.length < a.ps.length := by rw [h1]; simp
      have hpm : p ∈ a.ps := by rw [h1]; simp
      have hpz := size_lt hpm
      have g0 : (tavs a.ps)[pre.length]? = some (tv p) := by rw [tavs_get, h1]; simp
      have g1 : (tavs b.ps)[pre.length]? = some (tv q) := by rw [tavs_get, h2, h3]; simp
      have w1 : IntKind.i64.wrap ((pre.length : Int) + 1) = ((pre.length + 1 : Nat) : Int) := by rw [IntKind.wrap_i64]; omega
      have w2 : IntKind.i64.wrap (((d + 1 : Nat) : Int) - 1) = ((d : Nat) : Int) := by rw [IntKind.wrap_i64]; omega
      refine round (its := [.blk 0 wb_ident_same_0]) (k0 := [.c c_ident_same_k0]) 100 trivial trivial (fun A eA => ?_)
      simp (disch := first | omega | (simp only [avs_len, List.length_cons, List.length_append, List.length_nil, List.length_take, List.length_drop, List.length_map]; omega) | (simp only [cells, scal1, allSz, List.length_cons, List.length_nil, List.length_append, List.length_map, List.all_cons, List.all_nil, avs_len, beq_self_eq_true, Bool.and_self, and_self, or_true, true_or, reduceCtorEq, *]; done) | fail) only [c_ident_same, wl_ident_same_0, s_ident_same_0, c_ident_same_l0, wb_ident_same_0, c_ident_same_k0, go_sem, Nat.reduceAdd, Nat.reduceSub, Nat.reduceMul, Nat.reduceLT, Nat.reduceLeDiff, Int.reduceToNat, Nat.reduceEqDiff, Nat.reduceBEq, ↓reduceIte, reduceCtorEq, eA, Int.toNat_natCast, g0, g1, w2, scal1, List.all_cons, List.all_nil, Bool.and_self]
      refine call0 100 trivial trivial (ihd p q (by omega)) (.inl rfl) (fun A eA => ?_)
      cases hq : sm d p q with
      | false =>
        simp (disch := first | omega | (simp only [avs_len, List.length_cons, List.length_append, List.length_nil, List.length_take, List.length_drop, List.length_map]; omega) | (simp only [cells, scal1, allSz, List.length_cons, List.length_nil, List.length_append, List.length_map, List.all_cons, List.all_nil, avs_len, beq_self_eq_true, Bool.and_self, and_self, or_true, true_or, reduceCtorEq, *]; done) | fail) only [c_ident_same, wl_ident_same_0, s_ident_same_0, c_ident_same_l0, wb_ident_same_0, c_ident_same_k0, go_sem, Nat.reduceAdd, Nat.reduceSub, Nat.reduceMul, Nat.reduceLT, Nat.reduceLeDiff, Int.reduceToNat, Nat.reduceEqDiff, Nat.reduceBEq, ↓reduceIte, reduceCtorEq, eA]
        simp only [smL, hq, Bool.false_and]
        exact doneG rfl
      | true =>
        simp (disch := first | omega | (simp only [avs_len, List.length_cons, List.length_append, List.length_nil, List.length_take, List.length_drop, List.length_map]; omega) | (simp only [cells, scal1, allSz, List.length_cons, List.length_nil, List.length_append, List.length_map, List.all_cons, List.all_nil, avs_len, beq_self_eq_true, Bool.and_self, and_self, or_true, true_or, reduceCtorEq, *]; done) | fail) only [c_ident_same, wl_ident_same_0, s_ident_same_0, c_ident_same_l0, wb_ident_same_0, c_ident_same_k0, go_sem, Nat.reduceAdd, Nat.reduceSub, Nat.reduceMul, Nat.reduceLT, Nat.reduceLeDiff, Int.reduceToNat, Nat.reduceEqDiff, Nat.reduceBEq, ↓reduceIte, reduceCtorEq, eA, w1]
        simp only [smL, hq, Bool.true_and]
        have hih := ih (pre ++ [p]) post2 (pre2 ++ [q]) (by rw [h1]; simp) (by rw [h2]; simp) (by simp [h3]) nx
        rw [show (pre ++ [p]).length = pre.length + 1 by simp] at hih
        exact hih
theorem same4_calls : ∀ (d : Nat) (a b : Tree), d < 1000 → a.size < 2 ^ 60 → PCalls Try.prog F_ident_same [tv a, tv b, .int .i64 (d : Nat)] (.bool (sm d a b)) := by
  intro d
  induction d with
  | zero =>
    intro a b _ _
    refine calls_ident_same (walk0 100 trivial (fun A eA => ?_))
    simp (disch := first | omega | (simp only [avs_len, List.length_cons, List.length_append, List.length_nil, List.length_take, List.length_drop, List.length_map]; omega) | (simp only [cells, scal1, allSz, List.length_cons, List.length_nil, List.length_append, List.length_map, List.all_cons, List.all_nil, avs_len, beq_self_eq_true, Bool.and_self, and_self, or_true, true_or, reduceCtorEq, *]; done) | fail) only [c_ident_same, wl_ident_same_0, s_ident_same_0, c_ident_same_l0, wb_ident_same_0, c_ident_same_k0, go_sem, Nat.reduceAdd, Nat.reduceSub, Nat.reduceMul, Nat.reduceLT, Nat.reduceLeDiff, Int.reduceToNat, Nat.reduceEqDiff, Nat.reduceBEq, ↓reduceIte, reduceCtorEq, eA, scal1, tavs_len]
    exact doneG rfl
  | succ d ih =>
    intro a b hd hs
    refine calls_ident_same (walk0 100 trivial (fun A eA => ?_))
    simp only [sm]
    by_cases h1 : a.one = b.one
    · by_cases h2 : a.ps.length = b.ps.length
      · simp (disch := first | omega | (simp only [avs_len, List.length_cons, List.length_append, List.length_nil, List.length_take, List.length_drop, List.length_map]; omega) | (simp only [cells, scal1, allSz, List.length_cons, List.length_nil, List.length_append, List.length_map, List.all_cons, List.all_nil, avs_len, beq_self_eq_true, Bool.and_self, and_self, or_true, true_or, reduceCtorEq, *]; done) | fail) only [c_ident_same, wl_ident_same_0, s_ident_same_0, c_ident_same_l0, wb_ident_same_0, c_ident_same_k0, go_sem, Nat.reduceAdd, Nat.reduceSub, Nat.reduceMul, Nat.reduceLT, Nat.reduceLeDiff, Int.reduceToNat, Nat.reduceEqDiff, Nat.reduceBEq, ↓reduceIte, reduceCtorEq, eA, scal1, tavs_len, h1, beq_self_eq_true]
        rw [← h1, Bool.true_and]
        have := same_loop4 d (by omega) (fun a b hz => ih a b (by omega) hz) a b h2 hs a.ps [] b.ps [] rfl rfl rfl zeroC
        rw [← h1] at this
        exact this
      · simp (disch := first | omega | (simp only [avs_len, List.length_cons, List.length_append, List.length_nil, List.length_take, List.length_drop, List.length_map]; omega) | (simp only [cells, scal1, allSz, List.length_cons, List.length_nil, List.length_append, List.length_map, List.all_cons, List.all_nil, avs_len, beq_self_eq_true, Bool.and_self, and_self, or_true, true_or, reduceCtorEq, *]; done) | fail) only [c_ident_same, wl_ident_same_0, s_ident_same_0, c_ident_same_l0, wb_ident_same_0, c_ident_same_k0, go_sem, Nat.reduceAdd, Nat.reduceSub, Nat.reduceMul, Nat.reduceLT, Nat.reduceLeDiff, Int.reduceToNat, Nat.reduceEqDiff, Nat.reduceBEq, ↓reduceIte, reduceCtorEq, eA, scal1, tavs_len, h1, beq_self_eq_true]
        exact doneG rfl
    · have hb : (a.one == b.one) = false := by simp [h1]
      simp (disch := first | omega | (simp only [avs_len, List.length_cons, List.length_append, List.length_nil, List.length_take, List.length_drop, List.length_map]; omega) | (simp only [cells, scal1, allSz, List.length_cons, List.length_nil, List.length_append, List.length_map, List.all_cons, List.all_nil, avs_len, beq_self_eq_true, Bool.and_self, and_self, or_true, true_or, reduceCtorEq, *]; done) | fail) only [c_ident_same, wl_ident_same_0, s_ident_same_0, c_ident_same_l0, wb_ident_same_0, c_ident_same_k0, go_sem, Nat.reduceAdd, Nat.reduceSub, Nat.reduceMul, Nat.reduceLT, Nat.reduceLeDiff, Int.reduceToNat, Nat.reduceEqDiff, Nat.reduceBEq, ↓reduceIte, reduceCtorEq, eA, scal1, tavs_len, hb]
      simp only [h1, false_and, decide_false, Bool.false_and]
      exact doneG rfl
theorem Same4_calls (a b : Tree) (hs : a.size < 2 ^ 60) : PCalls Try.prog F_ident_Same [tv a, tv b] (.bool (sm 8 a b)) := by
  refine calls_ident_Same (walk0 100 trivial (fun A eA => ?_))
  simp (disch := first | omega | (simp only [avs_len, List.length_cons, List.length_append, List.length_nil, List.length_take, List.length_drop, List.length_map]; omega) | (simp only [cells, scal1, allSz, List.length_cons, List.length_nil, List.length_append, List.length_map, List.all_cons, List.all_nil, avs_len, beq_self_eq_true, Bool.and_self, and_self, or_true, true_or, reduceCtorEq, *]; done) | fail) only [c_ident_Same, go_sem, Nat.reduceAdd, Nat.reduceSub, Nat.reduceMul, Nat.reduceLT, Nat.reduceLeDiff, Int.reduceToNat, Nat.reduceEqDiff, Nat.reduceBEq, ↓reduceIte, reduceCtorEq, eA, scal1, tavs_len]
  refine call0 100 trivial trivial (same4_calls 8 a b (by omega) hs) (.inl rfl) (fun A eA => ?_)
  simp (disch := first | omega | (simp only [avs_len, List.length_cons, List.length_append, List.length_nil, List.length_take, List.length_drop, List.length_map]; omega) | (simp only [cells, scal1, allSz, List.length_cons, List.length_nil, List.length_append, List.length_map, List.all_cons, List.all_nil, avs_len, beq_self_eq_true, Bool.and_self, and_self, or_true, true_or, reduceCtorEq, *]; done) | fail) only [c_ident_Same, go_sem, Nat.reduceAdd, Nat.reduceSub, Nat.reduceMul, Nat.reduceLT, Nat.reduceLeDiff, Int.reduceToNat, Nat.reduceEqDiff, Nat.reduceBEq, ↓reduceIte, reduceCtorEq, eA]
  exact doneG rfl
theorem refSame_loop (a b : Tree) (hl : a.ps.length = b.ps.length) (hs : a.size < 2 ^ 60) (ihd : ∀ p ∈ a.ps, ∀ q : Tree, PCalls Try.prog F_ref04_Same [tv p, tv q] (.bool (teq p q))) : ∀ (post pre post2 pre2 : List Tree), a.ps = pre ++ post → b.ps = pre2 ++ post2 → pre.length = pre2.length → ∀ nx : Ctr,
    RunsX Try.prog 0 (Gives [.t 4] (.bool (smL teq post post2))) (i_ref04_Same_0 ++ [.c c_ref04_Same_k0]) (s_ref04_Same_0 (.ro [.bool a.one, .fz 2 (tavs a.ps) none]) (.ro [.bool b.one, .fz 2 (tavs b.ps) none]) (.int .i64 (a.ps.length : Nat)) (.int .i64 (pre.length : Nat))) [] nx := by
  have hls := len_size a
  intro post
  induction post with
  | nil =>
    intro pre post2 pre2 h1 h2 h3 nx
    have h5 : a.ps.length = pre.length := by rw [h1]; simp
    refine round (its := [.blk 0 wb_ref04_Same_0]) (k0 := [.c c_ref04_Same_k0]) 100 trivial trivial (fun A eA => ?_)
    simp (disch := first | omega | (simp only [avs_len, List.length_cons, List.length_append, List.length_nil, List.length_take, List.length_drop, List.length_map]; omega) | (simp only [cells, scal1, allSz, List.length_cons, List.length_nil, List.length_append, List.length_map, List.all_cons, List.all_nil, avs_len, beq_self_eq_true, Bool.and_self, and_self, or_true, true_or, reduceCtorEq, *]; done) | fail) only [c_ref04_Same, wl_ref04_Same_0, s_ref04_Same_0, c_ref04_Same_l0, wb_ref04_Same_0, c_ref04_Same_k0, go_sem, Nat.reduceAdd, Nat.reduceSub, Nat.reduceMul, Nat.reduceLT, Nat.reduceLeDiff, Int.reduceToNat, Nat.reduceEqDiff, Nat.reduceBEq, ↓reduceIte, reduceCtorEq, eA]
    refine walk0 (its := [.c c_ref04_Same_k0]) 100 trivial (fun A eA => ?_)
    simp (disch := first | omega | (simp only [avs_len, List.length_cons, List.length_append, List.length_nil, List.length_take, List.length_drop, List.length_map]; omega) | (simp only [cells, scal1, allSz, List.length_cons, List.length_nil, List.length_append, List.length_map, List.all_cons, List.all_nil, avs_len, beq_self_eq_true, Bool.and_self, and_self, or_true, true_or, reduceCtorEq, *]; done) | fail) only [c_ref04_Same, wl_ref04_Same_0, s_ref04_Same_0, c_ref04_Same_l0, wb_ref04_Same_0, c_ref04_Same_k0, go_sem, Nat.reduceAdd, Nat.reduceSub, Nat.reduceMul, Nat.reduceLT, Nat.reduceLeDiff, Int.reduceToNat, Nat.reduceEqDiff, Nat.reduceBEq, ↓reduceIte, reduceCtorEq, eA]
    cases post2 <;> exact doneG rfl
  | cons p post ih =>
    intro pre post2 pre2 h1 h2 h3 nx
    cases post2 with
    | nil => have h7 := congrArg List.length h1; have h8 := congrArg List.length h2; simp only [List.length_append, List.length_nil, List.length_cons] at h7 h8; omega
    | cons q post2 =>
      have hlt : pre.length < a.ps.length := by rw [h1]; simp
      have hpm : p ∈ a.ps := by rw [h1]; simp
      have g0 : (tavs a.ps)[pre.length]? = some (tv p) := by rw [tavs_get, h1]; simp
      have g1 : (tavs b.ps)[pre.length]? = some (tv q) := by rw [tavs_get, h2, h3]; simp
      have w1 : IntKind.i64.wrap ((pre.length : Int) + 1) = ((pre.length + 1 : Nat) : Int) := by rw [IntKind.wrap_i64]; omega
      refine round (its := [.blk 0 wb_ref04_Same_0]) (k0 := [.c c_ref04_Same_k0]) 100 trivial trivial (fun A eA => ?_)
      simp (disch := first | omega | (simp only [avs_len, List.length_cons, List.length_append, List.length_nil, List.length_take, List.length_drop, List.length_map]; omega) | (simp only [cells, scal1, allSz, List.length_cons, List.length_nil, List.length_append, List.length_map, List.all_cons, List.all_nil, avs_len, beq_self_eq_true, Bool.and_self, and_self, or_true, true_or, reduceCtorEq, *]; done) | fail) only [c_ref04_Same, wl_ref04_Same_0, s_ref04_Same_0, c_ref04_Same_l0, wb_ref04_Same_0, c_ref04_Same_k0, go_sem, Nat.reduceAdd, Nat.reduceSub, Nat.reduceMul, Nat.reduceLT, Nat.reduceLeDiff, Int.reduceToNat, Nat.reduceEqDiff, Nat.reduceBEq, ↓reduceIte, reduceCtorEq, eA, Int.toNat_natCast, g0, g1, scal1, List.all_cons, List.all_nil, Bool.and_self]
      refine call0 100 trivial trivial (ihd p hpm q) (.inl rfl) (fun A eA => ?_)
      cases hq : teq p q with
      | false =>
        simp (disch := first | omega | (simp only [avs_len, List.length_cons, List.length_append, List.length_nil, List.length_take, List.length_drop, List.length_map]; omega) | (simp only [cells, scal1, allSz, List.length_cons, List.length_nil, List.length_append, List.length_map, List.all_cons, List.all_nil, avs_len, beq_self_eq_true, Bool.and_self, and_self, or_true, true_or, reduceCtorEq, *]; done) | fail) only [c_ref04_Same, wl_ref04_Same_0, s_ref04_Same_0, c_ref04_Same_l0, wb_ref04_Same_0, c_ref04_Same_k0, go_sem, Nat.reduceAdd, Nat.reduceSub, Nat.reduceMul, Nat.reduceLT, Nat.reduceLeDiff, Int.reduceToNat, Nat.reduceEqDiff, Nat.reduceBEq, ↓reduceIte, reduceCtorEq, eA]
        simp only [smL, hq, Bool.false_and]
        exact doneG rfl
      | true =>
        simp (disch := first | omega | (simp only [avs_len, List.length_cons, List.length_append, List.length_nil, List.length_take, List.length_drop, List.length_map]; omega) | (simp only [cells, scal1, allSz, List.length_cons, List.length_nil, List.length_append, List.length_map, List.all_cons, List.all_nil, avs_len, beq_self_eq_true, Bool.and_self, and_self, or_true, true_or, reduceCtorEq, *]; done) | fail) only [c_ref04_Same, wl_ref04_Same_0, s_ref04_Same_0, c_ref04_Same_l0, wb_ref04_Same_0, c_ref04_Same_k0, go_sem, Nat.reduceAdd, Nat.reduceSub, Nat.reduceMul, Nat.reduceLT, Nat.reduceLeDiff, Int.reduceToNat, Nat.reduceEqDiff, Nat.reduceBEq, ↓reduceIte, reduceCtorEq, eA, w1]
        simp only [smL, hq, Bool.true_and]
        have hih := ih (pre ++ [p]) post2 (pre2 ++ [q]) (by rw [h1]; simp) (by rw [h2]; simp) (by simp [h3]) nx
        rw [show (pre ++ [p]).length = pre.length + 1 by simp] at hih
        exact hih
theorem refSame_calls : ∀ (a : Tree), a.size < 2 ^ 60 → ∀ b, PCalls Try.prog F_ref04_Same [tv a, tv b] (.bool (teq a b)) := by
  intro a
  induction a using Tree.ind with
  | h a ih =>
    intro hs b
    rw [teq_step]
    refine calls_ref04_Same (walk0 100 trivial (fun A eA => ?_))
    by_cases h1 : a.one = b.one
    · by_cases h2 : a.ps.length = b.ps.length
      · simp (disch := first | omega | (simp only [avs_len, List.length_cons, List.length_append, List.length_nil, List.length_take, List.length_drop, List.length_map]; omega) | (simp only [cells, scal1, allSz, List.length_cons, List.length_nil, List.length_append, List.length_map, List.all_cons, List.all_nil, avs_len, beq_self_eq_true, Bool.and_self, and_self, or_true, true_or, reduceCtorEq, *]; done) | fail) only [c_ref04_Same, wl_ref04_Same_0, s_ref04_Same_0, c_ref04_Same_l0, wb_ref04_Same_0, c_ref04_Same_k0, go_sem, Nat.reduceAdd, Nat.reduceSub, Nat.reduceMul, Nat.reduceLT, Nat.reduceLeDiff, Int.reduceToNat, Nat.reduceEqDiff, Nat.reduceBEq, ↓reduceIte, reduceCtorEq, eA, scal1, tavs_len, h1, beq_self_eq_true]
        rw [← h1, Bool.true_and]
        have := refSame_loop a b h2 hs (fun p hp q => ih p hp (by have := size_lt hp; omega) q) a.ps [] b.ps [] rfl rfl rfl zeroC
        rw [← h1] at this
        exact this
      · simp (disch := first | omega | (simp only [avs_len, List.length_cons, List.length_append, List.length_nil, List.length_take, List.length_drop, List.length_map]; omega) | (simp only [cells, scal1, allSz, List.length_cons, List.length_nil, List.length_append, List.length_map, List.all_cons, List.all_nil, avs_len, beq_self_eq_true, Bool.and_self, and_self, or_true, true_or, reduceCtorEq, *]; done) | fail) only [c_ref04_Same, wl_ref04_Same_0, s_ref04_Same_0, c_ref04_Same_l0, wb_ref04_Same_0, c_ref04_Same_k0, go_sem, Nat.reduceAdd, Nat.reduceSub, Nat.reduceMul, Nat.reduceLT, Nat.reduceLeDiff, Int.reduceToNat, Nat.reduceEqDiff, Nat.reduceBEq, ↓reduceIte, reduceCtorEq, eA, scal1, tavs_len, h1, beq_self_eq_true]
        exact doneG rfl
    · have hb : (a.one == b.one) = false := by simp [h1]
      simp (disch := first | omega | (simp only [avs_len, List.length_cons, List.length_append, List.length_nil, List.length_take, List.length_drop, List.length_map]; omega) | (simp only [cells, scal1, allSz, List.length_cons, List.length_nil, List.length_append, List.length_map, List.all_cons, List.all_nil, avs_len, beq_self_eq_true, Bool.and_self, and_self, or_true, true_or, reduceCtorEq, *]; done) | fail) only [c_ref04_Same, wl_ref04_Same_0, s_ref04_Same_0, c_ref04_Same_l0, wb_ref04_Same_0, c_ref04_Same_k0, go_sem, Nat.reduceAdd, Nat.reduceSub, Nat.reduceMul, Nat.reduceLT, Nat.reduceLeDiff, Int.reduceToNat, Nat.reduceEqDiff, Nat.reduceBEq, ↓reduceIte, reduceCtorEq, eA, scal1, tavs_len, hb]
      simp only [h1, false_and, decide_false, Bool.false_and]
      exact doneG rfl
end Go.Proofs.Ytmokhopjnjecbab
/- The walk through the identities' functions, on. -/
-- short
namespace Go.Proofs.Ytmokhopjnjecbab
open Go.Ev
set_option linter.unusedVariables false
set_option linter.unusedSimpArgs false
set_option maxRecDepth 100000
variable {R : List AV → Heap → Ctr → Prop} {k : List It} {H : Heap} {nx : Ctr} {φ : Nat}

/-- No deeper than that? -/
noncomputable def flatb (d : Nat) (t : Tree) : Bool := @decide (flatTo d t) (Classical.propDecidable _)
theorem flatb_true {d : Nat} {t : Tree} : flatb d t = true ↔ flatTo d t := by simp [flatb]
theorem flatb_false {d : Nat} {t : Tree} : flatb d t = false ↔ ¬ flatTo d t := by simp [flatb]
theorem shallow_loop (d : Nat) (hd : d < 1000) (ihd : ∀ t : Tree, t.size < 2 ^ 60 → PCalls Try.prog F_ident_shallow [tv t, .int .i64 (d : Nat)] (.bool (flatb d t))) (a : Tree) (hs : a.size < 2 ^ 60) : ∀ (post pre : List Tree), a.ps = pre ++ post → (∀ p ∈ pre, flatTo d p) → ∀ nx : Ctr,
    RunsX Try.prog 0 (Gives [.t 4] (.bool (flatb (d + 1) a))) (i_ident_shallow_0 ++ [.c c_ident_shallow_k0]) (s_ident_shallow_0 (.int .i64 ((d + 1 : Nat) : Int)) (.fz 2 (tavs a.ps) none) (.int .i64 (a.ps.length : Nat)) (.int .i64 (pre.length : Nat))) [] nx := by
  have hls := len_size a
  intro post
  induction post with
  | nil =>
    intro pre h1 h2 nx
    have h5 : a.ps.length = pre.length := by rw [h1]; simp
    have h6 : flatb (d + 1) a = true := by rw [flatb_true]; intro p hp; rw [h1, List.append_nil] at hp; exact h2 p hp
    refine round (its := [.blk 0 wb_ident_shallow_0]) (k0 := [.c c_ident_shallow_k0]) 100 trivial trivial (fun A eA => ?_)
    simp (disch := first | omega | (simp only [avs_len, List.length_cons, List.length_append, List.length_nil, List.length_take, List.length_drop, List.length_map]; omega) | (simp only [cells, scal1, allSz, List.length_cons, List.length_nil, List.length_append, List.length_map, List.all_cons, List.all_nil, avs_len, beq_self_eq_true, Bool.and_self, and_self, or_true, true_or, reduceCtorEq, *]; done) | fail) only [c_ident_shallow, wl_ident_shallow_0, s_ident_shallow_0, c_ident_shallow_l0, wb_ident_shallow_0, c_ident_shallow_k0, go_sem, Nat.reduceAdd, Nat.reduceSub, Nat.reduceMul, Nat.reduceLT, Nat.reduceLeDiff, Int.reduceToNat, Nat.reduceEqDiff, Nat.reduceBEq, ↓reduceIte, reduceCtorEq, eA]
    refine walk0 (its := [.c c_ident_shallow_k0]) 100 trivial (fun A eA => ?_)
    simp (disch := first | omega | (simp only [avs_len, List.length_cons, List.length_append, List.length_nil, List.length_take, List.length_drop, List.length_map]; omega) | (simp only [cells, scal1, allSz, List.length_cons, List.length_nil, List.length_append, List.length_map, List.all_cons, List.all_nil, avs_len, beq_self_eq_true, Bool.and_self, and_self, or_true, true_or, reduceCtorEq, *]; done) | fail) only [c_ident_shallow, wl_ident_shallow_0, s_ident_shallow_0, c_ident_shallow_l0, wb_ident_shallow_0, c_ident_shallow_k0, go_sem, Nat.reduceAdd, Nat.reduceSub, Nat.reduceMul, Nat.reduceLT, Nat.reduceLeDiff, Int.reduceToNat, Nat.reduceEqDiff, Nat.reduceBEq, ↓reduceIte, reduceCtorEq, eA, h6]
    exact doneG rfl
  | cons p post ih =>
    intro pre h1 h2 nx
    have hlt : pre.length < a.ps.length := by rw [h1]; simp
    have hpm : p ∈ a.ps := by rw [h1]; simp
    have hpz := size_lt hpm
    have g0 : (tavs a.ps)[pre.length]? = some (tv p) := by rw [tavs_get, h1]; simp
    have w1 : IntKind.i64.wrap ((pre.length : Int) + 1) = ((pre.length + 1 : Nat) : Int) := by rw [IntKind.wrap_i64]; omega
    have w2 : IntKind.i64.wrap (((d + 1 : Nat) : Int) - 1) = ((d : Nat) : Int) := by rw [IntKind.wrap_i64]; omega
    have hno : ¬ flatTo d p → flatb (d + 1) a = false := by intro hx; rw [flatb_false]; intro h; exact hx (h p hpm)
    refine round (its := [.blk 0 wb_ident_shallow_0]) (k0 := [.c c_ident_shallow_k0]) 100 trivial trivial (fun A eA => ?_)
    by_cases hd0 : d = 0
    · subst hd0
      simp (disch := first | omega | (simp only [avs_len, List.length_cons, List.length_append, List.length_nil, List.length_take, List.length_drop, List.length_map]; omega) | (simp only [cells, scal1, allSz, List.length_cons, List.length_nil, List.length_append, List.length_map, List.all_cons, List.all_nil, avs_len, beq_self_eq_true, Bool.and_self, and_self, or_true, true_or, reduceCtorEq, *]; done) | fail) only [c_ident_shallow, wl_ident_shallow_0, s_ident_shallow_0, c_ident_shallow_l0, wb_ident_shallow_0, c_ident_shallow_k0, go_sem, Nat.reduceAdd, Nat.reduceSub, Nat.reduceMul, Nat.reduceLT, Nat.reduceLeDiff, Int.reduceToNat, Nat.reduceEqDiff, Nat.reduceBEq, ↓reduceIte, reduceCtorEq, eA, Int.toNat_natCast, g0, w2, scal1, List.all_cons, List.all_nil, Bool.and_self]
      rw [hno (by simp [flatTo])]
      exact doneG rfl
    · simp (disch := first | omega | (simp only [avs_len, List.length_cons, List.length_append, List.length_nil, List.length_take, List.length_drop, List.length_map]; omega) | (simp only [cells, scal1, allSz, List.length_cons, List.length_nil, List.length_append, List.length_map, List.all_cons, List.all_nil, avs_len, beq_self_eq_true, Bool.and_self, and_self, or_true, true_or, reduceCtorEq, *]; done) | fail) only [c_ident_shallow, wl_ident_shallow_0, s_ident_shallow_0, c_ident_shallow_l0, wb_ident_shallow_0, c_ident_shallow_k0, go_sem, Nat.reduceAdd, Nat.reduceSub, Nat.reduceMul, Nat.reduceLT, Nat.reduceLeDiff, Int.reduceToNat, Nat.reduceEqDiff, Nat.reduceBEq, ↓reduceIte, reduceCtorEq, eA, Int.toNat_natCast, g0, w2, scal1, List.all_cons, List.all_nil, Bool.and_self]
      refine call0 100 trivial trivial (ihd p (by omega)) (.inl rfl) (fun A eA => ?_)
      cases hq : flatb d p with
      | false =>
        simp (disch := first | omega | (simp only [avs_len, List.length_cons, List.length_append, List.length_nil, List.length_take, List.length_drop, List.length_map]; omega) | (simp only [cells, scal1, allSz, List.length_cons, List.length_nil, List.length_append, List.length_map, List.all_cons, List.all_nil, avs_len, beq_self_eq_true, Bool.and_self, and_self, or_true, true_or, reduceCtorEq, *]; done) | fail) only [c_ident_shallow, wl_ident_shallow_0, s_ident_shallow_0, c_ident_shallow_l0, wb_ident_shallow_0, c_ident_shallow_k0, go_sem, Nat.reduceAdd, Nat.reduceSub, Nat.reduceMul, Nat.reduceLT, Nat.reduceLeDiff, Int.reduceToNat, Nat.reduceEqDiff, Nat.reduceBEq, ↓reduceIte, reduceCtorEq, eA]
        rw [hno (flatb_false.1 hq)]
        exact doneG rfl
      | true =>
        simp (disch := first | omega | (simp only [avs_len, List.length_cons, List.length_append, List.length_nil, List.length_take, List.length_drop, List.length_map]; omega) | (simp only [cells, scal1, allSz, List.length_cons, List.length_nil, List.length_append, List.length_map, List.all_cons, List.all_nil, avs_len, beq_self_eq_true, Bool.and_self, and_self, or_true, true_or, reduceCtorEq, *]; done) | fail) only [c_ident_shallow, wl_ident_shallow_0, s_ident_shallow_0, c_ident_shallow_l0, wb_ident_shallow_0, c_ident_shallow_k0, go_sem, Nat.reduceAdd, Nat.reduceSub, Nat.reduceMul, Nat.reduceLT, Nat.reduceLeDiff, Int.reduceToNat, Nat.reduceEqDiff, Nat.reduceBEq, ↓reduceIte, reduceCtorEq, eA, w1]
        have hih := ih (pre ++ [p]) (by rw [h1]; simp) (by intro x hx; rcases List.mem_append.1 hx with hx | hx; exact h2 x hx; rw [List.mem_singleton.1 hx]; exact flatb_true.1 hq) (bump nx 6)
        rw [show (pre ++ [p]).length = pre.length + 1 by simp] at hih
        exact hih
theorem shallow_calls : ∀ (d : Nat) (t : Tree), d < 1000 → t.size < 2 ^ 60 → PCalls Try.prog F_ident_shallow [tv t, .int .i64 (d : Nat)] (.bool (flatb d t)) := by
  intro d
  induction d with
  | zero =>
    intro t _ hs
    have hls := len_size t
    have h6 : flatb 0 t = false := by rw [flatb_false]; simp [flatTo]
    refine calls_ident_shallow (walk0 100 trivial (fun A eA => ?_))
    simp (disch := first | omega | (simp only [avs_len, List.length_cons, List.length_append, List.length_nil, List.length_take, List.length_drop, List.length_map]; omega) | (simp only [cells, scal1, allSz, List.length_cons, List.length_nil, List.length_append, List.length_map, List.all_cons, List.all_nil, avs_len, beq_self_eq_true, Bool.and_self, and_self, or_true, true_or, reduceCtorEq, *]; done) | fail) only [c_ident_shallow, wl_ident_shallow_0, s_ident_shallow_0, c_ident_shallow_l0, wb_ident_shallow_0, c_ident_shallow_k0, go_sem, Nat.reduceAdd, Nat.reduceSub, Nat.reduceMul, Nat.reduceLT, Nat.reduceLeDiff, Int.reduceToNat, Nat.reduceEqDiff, Nat.reduceBEq, ↓reduceIte, reduceCtorEq, eA, scal1, tavs_len]
    refine round (its := [.blk 0 wb_ident_shallow_0]) (k0 := [.c c_ident_shallow_k0]) 100 trivial trivial (fun A eA => ?_)
    by_cases h0 : t.ps = []
    · have h5 : t.ps.length = 0 := by rw [h0]; rfl
      simp (disch := first | omega | (simp only [avs_len, List.length_cons, List.length_append, List.length_nil, List.length_take, List.length_drop, List.length_map]; omega) | (simp only [cells, scal1, allSz, List.length_cons, List.length_nil, List.length_append, List.length_map, List.all_cons, List.all_nil, avs_len, beq_self_eq_true, Bool.and_self, and_self, or_true, true_or, reduceCtorEq, *]; done) | fail) only [c_ident_shallow, wl_ident_shallow_0, s_ident_shallow_0, c_ident_shallow_l0, wb_ident_shallow_0, c_ident_shallow_k0, go_sem, Nat.reduceAdd, Nat.reduceSub, Nat.reduceMul, Nat.reduceLT, Nat.reduceLeDiff, Int.reduceToNat, Nat.reduceEqDiff, Nat.reduceBEq, ↓reduceIte, reduceCtorEq, eA]
      refine walk0 (its := [.c c_ident_shallow_k0]) 100 trivial (fun A eA => ?_)
      simp (disch := first | omega | (simp only [avs_len, List.length_cons, List.length_append, List.length_nil, List.length_take, List.length_drop, List.length_map]; omega) | (simp only [cells, scal1, allSz, List.length_cons, List.length_nil, List.length_append, List.length_map, List.all_cons, List.all_nil, avs_len, beq_self_eq_true, Bool.and_self, and_self, or_true, true_or, reduceCtorEq, *]; done) | fail) only [c_ident_shallow, wl_ident_shallow_0, s_ident_shallow_0, c_ident_shallow_l0, wb_ident_shallow_0, c_ident_shallow_k0, go_sem, Nat.reduceAdd, Nat.reduceSub, Nat.reduceMul, Nat.reduceLT, Nat.reduceLeDiff, Int.reduceToNat, Nat.reduceEqDiff, Nat.reduceBEq, ↓reduceIte, reduceCtorEq, eA, h6]
      exact doneG rfl
    · obtain ⟨p, ps, hp⟩ : ∃ p ps, t.ps = p :: ps := by cases h : t.ps with | nil => exact absurd h h0 | cons p ps => exact ⟨p, ps, rfl⟩
      have hlt : 0 < t.ps.length := by rw [hp]; simp
      have g0 : (tavs t.ps)[0]? = some (tv p) := by rw [tavs_get, hp]; simp
      simp (disch := first | omega | (simp only [avs_len, List.length_cons, List.length_append, List.length_nil, List.length_take, List.length_drop, List.length_map]; omega) | (simp only [cells, scal1, allSz, List.length_cons, List.length_nil, List.length_append, List.length_map, List.all_cons, List.all_nil, avs_len, beq_self_eq_true, Bool.and_self, and_self, or_true, true_or, reduceCtorEq, *]; done) | fail) only [c_ident_shallow, wl_ident_shallow_0, s_ident_shallow_0, c_ident_shallow_l0, wb_ident_shallow_0, c_ident_shallow_k0, go_sem, Nat.reduceAdd, Nat.reduceSub, Nat.reduceMul, Nat.reduceLT, Nat.reduceLeDiff, Int.reduceToNat, Nat.reduceEqDiff, Nat.reduceBEq, ↓reduceIte, reduceCtorEq, eA, Int.toNat_natCast, g0, scal1, List.all_cons, List.all_nil, Bool.and_self, h6]
      exact doneG rfl
  | succ d ih =>
    intro t hd hs
    refine calls_ident_shallow (walk0 100 trivial (fun A eA => ?_))
    simp (disch := first | omega | (simp only [avs_len, List.length_cons, List.length_append, List.length_nil, List.length_take, List.length_drop, List.length_map]; omega) | (simp only [cells, scal1, allSz, List.length_cons, List.length_nil, List.length_append, List.length_map, List.all_cons, List.all_nil, avs_len, beq_self_eq_true, Bool.and_self, and_self, or_true, true_or, reduceCtorEq, *]; done) | fail) only [c_ident_shallow, wl_ident_shallow_0, s_ident_shallow_0, c_ident_shallow_l0, wb_ident_shallow_0, c_ident_shallow_k0, go_sem, Nat.reduceAdd, Nat.reduceSub, Nat.reduceMul, Nat.reduceLT, Nat.reduceLeDiff, Int.reduceToNat, Nat.reduceEqDiff, Nat.reduceBEq, ↓reduceIte, reduceCtorEq, eA, scal1, tavs_len]
    exact shallow_loop d (by omega) (fun t h => ih t (by omega) h) t hs t.ps [] rfl (by simp) zeroC
/-- The rows appended, frozen, are the list. -/
theorem wk_tree {o : Bool} {x : AV} {ps : List Tree} (h : Wk1 x (.fz 2 (tavs ps) none)) : Wk1 (.agg [.bool o, x]) (tv (.mk o ps)) := by
  refine Wk1.agg rfl (fun j a b ha hb => ?_)
  rcases j with _ | _ | j
  · simp at ha hb; subst ha hb; exact Wk1.refl _
  · simp at ha hb; subst ha hb; exact h
  · simp at ha
theorem wk_leaf (o : Bool) : Wk1 (.agg [.bool o, .nils]) (tv (.mk o [])) := wk_tree (by simp only [tavs]; exact Wk1.nils 2)
theorem cat_len : ∀ ps : List Tree, (catCells (tavs ps)).length = ps.length * 2
  | [] => by simp [tavs, catCells]
  | p :: ps => by simp only [tavs, catCells, tav_tv, cells, List.length_append, cat_len ps, List.length_cons, List.length_nil]; omega
theorem cat_snoc : ∀ (ps : List Tree) (p : Tree), catCells (tavs (ps ++ [p])) = catCells (tavs ps) ++ [.bool p.one, .fz 2 (tavs p.ps) none]
  | [], p => by simp [tavs, catCells, tav_tv, cells]
  | q :: ps, p => by simp only [List.cons_append, tavs, catCells, cat_snoc ps p, List.append_assoc]
theorem frz_cat {α : Type} (n : Nat) (H : Heap) : ∀ (ps : List Tree) (ok : List AV → List (Nat × Nat) → α) (bd : α), mapK (frzK (n + 1) H) (catCells (tavs ps)) ok bd = ok (catCells (tavs ps)) []
  | [], ok, bd => by simp [tavs, catCells, mapK]
  | p :: ps, ok, bd => by simp only [tavs, catCells, tav_tv, cells, List.cons_append, List.nil_append, mapK, frzK_bool, frzK_fz, frz_cat n H ps, List.append_nil]
theorem chunk_cat : ∀ (ps : List Tree), chunk 2 ps.length (catCells (tavs ps)) = tavs ps := by
  intro ps
  show chunkN 2 _ _ = _
  induction ps with
  | nil => rfl
  | cons p ps ih => simp only [tavs, catCells, tav_tv, cells, List.length_cons, chunkN, List.cons_append, List.nil_append, List.take, List.drop, ih]
theorem cat_take (ps : List Tree) : (catCells (tavs ps)).take (ps.length * 2) = catCells (tavs ps) := by rw [← cat_len, List.take_length]
abbrev cloneH (o : Bool) (e : Option Nat) (pre : List Tree) : Heap := (0, 4, 0, some [.bool false, .nils]) :: (0, 6, 0, some [.bool o, accV 0 39 2 e pre.length]) :: accE 0 39 e (catCells (tavs pre))
theorem clone_loop (d : Nat) (hd : d < 1000) (ihd : ∀ t : Tree, t.size < 2 ^ 32 → flatTo d t → PCalls Try.prog F_ident_clone [tv t, .int .i64 (d : Nat)] (.tup [tv t, .bool true])) (a : Tree) (hs : a.size < 2 ^ 32) (hfl : flatTo (d + 1) a) : ∀ (post pre : List Tree), a.ps = pre ++ post → ∀ (e : Option Nat) (nx : Ctr), (e = none → pre = []) →
    RunsX Try.prog 0 (Gives [.cn 4 2, .t 5] (.tup [tv a, .bool true])) (i_ident_clone_0 ++ [.c c_ident_clone_k0]) (s_ident_clone_0 (.int .i64 ((d + 1 : Nat) : Int)) (.ptr 0 4 0 0) (.ptr 0 6 0 0) (.fz 2 (tavs a.ps) none) (.int .i64 (a.ps.length : Nat)) (.int .i64 (pre.length : Nat))) (cloneH a.one e pre) nx := by
  have hls := len_size a
  intro post
  induction post with
  | nil =>
    intro pre h1 e nx he
    rw [List.append_nil] at h1
    have h5 : a.ps.length = pre.length := by rw [h1]
    refine round (its := [.blk 0 wb_ident_clone_0]) (k0 := [.c c_ident_clone_k0]) 100 trivial trivial (fun A eA => ?_)
    cases e with
    | none =>
      have hp := he rfl
      simp (disch := first | omega | (simp only [avs_len, List.length_cons, List.length_append, List.length_nil, List.length_take, List.length_drop, List.length_map]; omega) | (simp only [cells, scal1, allSz, List.length_cons, List.length_nil, List.length_append, List.length_map, List.all_cons, List.all_nil, avs_len, beq_self_eq_true, Bool.and_self, and_self, or_true, true_or, reduceCtorEq, *]; done) | fail) only [c_ident_clone, wl_ident_clone_0, s_ident_clone_0, c_ident_clone_l0, wb_ident_clone_0, c_ident_clone_k0, go_sem, Nat.reduceAdd, Nat.reduceSub, Nat.reduceMul, Nat.reduceLT, Nat.reduceLeDiff, Int.reduceToNat, Nat.reduceEqDiff, Nat.reduceBEq, ↓reduceIte, reduceCtorEq, eA, cloneH, accV, accE]
      refine walk0 (its := [.c c_ident_clone_k0]) 100 trivial (fun A eA => ?_)
      simp (disch := first | omega | (simp only [avs_len, List.length_cons, List.length_append, List.length_nil, List.length_take, List.length_drop, List.length_map]; omega) | (simp only [cells, scal1, allSz, List.length_cons, List.length_nil, List.length_append, List.length_map, List.all_cons, List.all_nil, avs_len, beq_self_eq_true, Bool.and_self, and_self, or_true, true_or, reduceCtorEq, *]; done) | fail) only [c_ident_clone, wl_ident_clone_0, s_ident_clone_0, c_ident_clone_l0, wb_ident_clone_0, c_ident_clone_k0, go_sem, Nat.reduceAdd, Nat.reduceSub, Nat.reduceMul, Nat.reduceLT, Nat.reduceLeDiff, Int.reduceToNat, Nat.reduceEqDiff, Nat.reduceBEq, ↓reduceIte, reduceCtorEq, eA]
      refine doneW rfl (Wk1.tup rfl (fun j x y hx hy => ?_))
      rcases j with _ | _ | j
      · simp at hx hy; subst hx hy; have := wk_leaf a.one; show Wk1 _ (.agg [.bool a.one, .fz 2 (tavs a.ps) none]); rw [h1, hp]; exact this
      · simp at hx hy; subst hx hy; exact Wk1.refl _
      · simp at hx
    | some g =>
      simp (disch := first | omega | (simp only [avs_len, List.length_cons, List.length_append, List.length_nil, List.length_take, List.length_drop, List.length_map]; omega) | (simp only [cells, scal1, allSz, List.length_cons, List.length_nil, List.length_append, List.length_map, List.all_cons, List.all_nil, avs_len, beq_self_eq_true, Bool.and_self, and_self, or_true, true_or, reduceCtorEq, *]; done) | fail) only [c_ident_clone, wl_ident_clone_0, s_ident_clone_0, c_ident_clone_l0, wb_ident_clone_0, c_ident_clone_k0, go_sem, Nat.reduceAdd, Nat.reduceSub, Nat.reduceMul, Nat.reduceLT, Nat.reduceLeDiff, Int.reduceToNat, Nat.reduceEqDiff, Nat.reduceBEq, ↓reduceIte, reduceCtorEq, eA, cloneH, accV, accE]
      refine walk0 (its := [.c c_ident_clone_k0]) 100 trivial (fun A eA => ?_)
      simp (disch := first | omega | (simp only [avs_len, List.length_cons, List.length_append, List.length_nil, List.length_take, List.length_drop, List.length_map]; omega) | (simp only [cells, scal1, allSz, List.length_cons, List.length_nil, List.length_append, List.length_map, List.all_cons, List.all_nil, avs_len, beq_self_eq_true, Bool.and_self, and_self, or_true, true_or, reduceCtorEq, *]; done) | fail) only [c_ident_clone, wl_ident_clone_0, s_ident_clone_0, c_ident_clone_l0, wb_ident_clone_0, c_ident_clone_k0, go_sem, Nat.reduceAdd, Nat.reduceSub, Nat.reduceMul, Nat.reduceLT, Nat.reduceLeDiff, Int.reduceToNat, Nat.reduceEqDiff, Nat.reduceBEq, ↓reduceIte, reduceCtorEq, eA]
      refine doneG ?_
      simp (disch := first | omega | (simp only [avs_len, List.length_cons, List.length_append, List.length_nil, List.length_take, List.length_drop, List.length_map]; omega) | (simp only [cells, scal1, allSz, List.length_cons, List.length_nil, List.length_append, List.length_map, List.all_cons, List.all_nil, avs_len, beq_self_eq_true, Bool.and_self, and_self, or_true, true_or, reduceCtorEq, *]; done) | fail) only [go_sem, Nat.reduceAdd, Nat.reduceSub, Nat.reduceMul, Nat.reduceLT, Nat.reduceLeDiff, Int.reduceToNat, Nat.reduceEqDiff, Nat.reduceBEq, ↓reduceIte, reduceCtorEq, cat_len, cat_take, ↓frz_cat, chunk_cat]
      show _ = some (AV.tup [.agg [.bool a.one, .fz 2 (tavs a.ps) none], _])
      rw [h1]
  | cons p post ih =>
    intro pre h1 e nx he
    have hlt : pre.length < a.ps.length := by rw [h1]; simp
    have hpm : p ∈ a.ps := by rw [h1]; simp
    have hpz := size_lt hpm
    have g0 : (tavs a.ps)[pre.length]? = some (tv p) := by rw [tavs_get, h1]; simp
    have w1 : IntKind.i64.wrap ((pre.length : Int) + 1) = ((pre.length + 1 : Nat) : Int) := by rw [IntKind.wrap_i64]; omega
    have w2 : IntKind.i64.wrap (((d + 1 : Nat) : Int) - 1) = ((d : Nat) : Int) := by rw [IntKind.wrap_i64]; omega
    have hpf : flatTo d p := hfl p hpm
    have hd0 : d ≠ 0 := by rintro rfl; exact hpf
    refine round (its := [.blk 0 wb_ident_clone_0]) (k0 := [.c c_ident_clone_k0]) 100 trivial trivial (fun A eA => ?_)
    cases e with
    | none =>
      have hp := he rfl
      simp (disch := first | omega | (simp only [avs_len, List.length_cons, List.length_append, List.length_nil, List.length_take, List.length_drop, List.length_map]; omega) | (simp only [cells, scal1, allSz, List.length_cons, List.length_nil, List.length_append, List.length_map, List.all_cons, List.all_nil, avs_len, beq_self_eq_true, Bool.and_self, and_self, or_true, true_or, reduceCtorEq, *]; done) | fail) only [c_ident_clone, wl_ident_clone_0, s_ident_clone_0, c_ident_clone_l0, wb_ident_clone_0, c_ident_clone_k0, go_sem, Nat.reduceAdd, Nat.reduceSub, Nat.reduceMul, Nat.reduceLT, Nat.reduceLeDiff, Int.reduceToNat, Nat.reduceEqDiff, Nat.reduceBEq, ↓reduceIte, reduceCtorEq, eA, Int.toNat_natCast, g0, w2, scal1, List.all_cons, List.all_nil, Bool.and_self, cloneH, accV, accE]
      refine call0 100 trivial trivial (ihd p (by omega) hpf) (.inl rfl) (fun A eA => ?_)
      simp (disch := first | omega | (simp only [avs_len, List.length_cons, List.length_append, List.length_nil, List.length_take, List.length_drop, List.length_map]; omega) | (simp only [cells, scal1, allSz, List.length_cons, List.length_nil, List.length_append, List.length_map, List.all_cons, List.all_nil, avs_len, beq_self_eq_true, Bool.and_self, and_self, or_true, true_or, reduceCtorEq, *]; done) | fail) only [c_ident_clone, wl_ident_clone_0, s_ident_clone_0, c_ident_clone_l0, wb_ident_clone_0, c_ident_clone_k0, go_sem, Nat.reduceAdd, Nat.reduceSub, Nat.reduceMul, Nat.reduceLT, Nat.reduceLeDiff, Int.reduceToNat, Nat.reduceEqDiff, Nat.reduceBEq, ↓reduceIte, reduceCtorEq, eA, w1, ↓appK, allSz, catCells, scal1, List.all_cons, List.all_nil, Bool.and_self]
      have hih := ih (pre ++ [p]) (by rw [h1]; simp) (some (nx 39)) (bump (bump (bump nx 8) 9) 39) (by simp)
      simp only [cloneH, List.length_append, List.length_cons, List.length_nil, Nat.zero_add, cat_snoc] at hih
      subst hp
      exact hih
    | some g =>
      simp (disch := first | omega | (simp only [avs_len, List.length_cons, List.length_append, List.length_nil, List.length_take, List.length_drop, List.length_map]; omega) | (simp only [cells, scal1, allSz, List.length_cons, List.length_nil, List.length_append, List.length_map, List.all_cons, List.all_nil, avs_len, beq_self_eq_true, Bool.and_self, and_self, or_true, true_or, reduceCtorEq, *]; done) | fail) only [c_ident_clone, wl_ident_clone_0, s_ident_clone_0, c_ident_clone_l0, wb_ident_clone_0, c_ident_clone_k0, go_sem, Nat.reduceAdd, Nat.reduceSub, Nat.reduceMul, Nat.reduceLT, Nat.reduceLeDiff, Int.reduceToNat, Nat.reduceEqDiff, Nat.reduceBEq, ↓reduceIte, reduceCtorEq, eA, Int.toNat_natCast, g0, w2, scal1, List.all_cons, List.all_nil, Bool.and_self, cloneH, accV, accE]
      refine call0 100 trivial trivial (ihd p (by omega) hpf) (.inl rfl) (fun A eA => ?_)
      simp (disch := first | omega | (simp only [avs_len, List.length_cons, List.length_append, List.length_nil, List.length_take, List.length_drop, List.length_map]; omega) | (simp only [cells, scal1, allSz, List.length_cons, List.length_nil, List.length_append, List.length_map, List.all_cons, List.all_nil, avs_len, beq_self_eq_true, Bool.and_self, and_self, or_true, true_or, reduceCtorEq, *]; done) | fail) only [c_ident_clone, wl_ident_clone_0, s_ident_clone_0, c_ident_clone_l0, wb_ident_clone_0, c_ident_clone_k0, go_sem, Nat.reduceAdd, Nat.reduceSub, Nat.reduceMul, Nat.reduceLT, Nat.reduceLeDiff, Int.reduceToNat, Nat.reduceEqDiff, Nat.reduceBEq, ↓reduceIte, reduceCtorEq, eA, w1, ↓appK, allSz, catCells, cat_len, scal1, List.all_cons, List.all_nil, Bool.and_self]
      have hih := ih (pre ++ [p]) (by rw [h1]; simp) (some (nx 39)) (bump (bump (bump nx 8) 9) 39) (by simp)
      simp only [cloneH, List.length_append, List.length_cons, List.length_nil, Nat.zero_add, cat_snoc] at hih
      exact hih
theorem clone_calls : ∀ (d : Nat) (t : Tree), d < 1000 → t.size < 2 ^ 32 → flatTo d t → PCalls Try.prog F_ident_clone [tv t, .int .i64 (d : Nat)] (.tup [tv t, .bool true]) := by
  intro d
  induction d with
  | zero => intro t _ _ h; exact absurd h (by simp [flatTo])
  | succ d ih =>
    intro t hd hs hf
    refine calls_ident_clone (walk0 100 trivial (fun A eA => ?_))
    simp (disch := first | omega | (simp only [avs_len, List.length_cons, List.length_append, List.length_nil, List.length_take, List.length_drop, List.length_map]; omega) | (simp only [cells, scal1, allSz, List.length_cons, List.length_nil, List.length_append, List.length_map, List.all_cons, List.all_nil, avs_len, beq_self_eq_true, Bool.and_self, and_self, or_true, true_or, reduceCtorEq, *]; done) | fail) only [c_ident_clone, wl_ident_clone_0, s_ident_clone_0, c_ident_clone_l0, wb_ident_clone_0, c_ident_clone_k0, go_sem, Nat.reduceAdd, Nat.reduceSub, Nat.reduceMul, Nat.reduceLT, Nat.reduceLeDiff, Int.reduceToNat, Nat.reduceEqDiff, Nat.reduceBEq, ↓reduceIte, reduceCtorEq, eA, scal1, tavs_len, List.all_cons, List.all_nil, Bool.and_self]
    exact clone_loop d (by omega) (fun t h => ih t (by omega) h) t hs hf t.ps [] rfl none _ (fun _ => rfl)
noncomputable def cloneT (t : Tree) : Tree := if flatb 8 t then t else .mk false []
theorem Clone_calls (t : Tree) (hs : t.size < 2 ^ 32) : PCalls Try.prog F_ident_Clone [tv t] (tv (cloneT t)) := by
  refine calls_ident_Clone (walk0 100 trivial (fun A eA => ?_))
  simp (disch := first | omega | (simp only [avs_len, List.length_cons, List.length_append, List.length_nil, List.length_take, List.length_drop, List.length_map]; omega) | (simp only [cells, scal1, allSz, List.length_cons, List.length_nil, List.length_append, List.length_map, List.all_cons, List.all_nil, avs_len, beq_self_eq_true, Bool.and_self, and_self, or_true, true_or, reduceCtorEq, *]; done) | fail) only [c_ident_Clone, go_sem, Nat.reduceAdd, Nat.reduceSub, Nat.reduceMul, Nat.reduceLT, Nat.reduceLeDiff, Int.reduceToNat, Nat.reduceEqDiff, Nat.reduceBEq, ↓reduceIte, reduceCtorEq, eA, scal1, tavs_len]
  refine call0 100 trivial trivial (shallow_calls 8 t (by omega) (by omega)) (.inl rfl) (fun A eA => ?_)
  cases hq : flatb 8 t with
  | false =>
    simp (disch := first | omega | (simp only [avs_len, List.length_cons, List.length_append, List.length_nil, List.length_take, List.length_drop, List.length_map]; omega) | (simp only [cells, scal1, allSz, List.length_cons, List.length_nil, List.length_append, List.length_map, List.all_cons, List.all_nil, avs_len, beq_self_eq_true, Bool.and_self, and_self, or_true, true_or, reduceCtorEq, *]; done) | fail) only [c_ident_Clone, go_sem, Nat.reduceAdd, Nat.reduceSub, Nat.reduceMul, Nat.reduceLT, Nat.reduceLeDiff, Int.reduceToNat, Nat.reduceEqDiff, Nat.reduceBEq, ↓reduceIte, reduceCtorEq, eA, scal1, List.all_cons, List.all_nil, Bool.and_self]
    rw [show cloneT t = .mk false [] by simp [cloneT, hq]]
    exact doneW rfl (wk_leaf false)
  | true =>
    simp (disch := first | omega | (simp only [avs_len, List.length_cons, List.length_append, List.length_nil, List.length_take, List.length_drop, List.length_map]; omega) | (simp only [cells, scal1, allSz, List.length_cons, List.length_nil, List.length_append, List.length_map, List.all_cons, List.all_nil, avs_len, beq_self_eq_true, Bool.and_self, and_self, or_true, true_or, reduceCtorEq, *]; done) | fail) only [c_ident_Clone, go_sem, Nat.reduceAdd, Nat.reduceSub, Nat.reduceMul, Nat.reduceLT, Nat.reduceLeDiff, Int.reduceToNat, Nat.reduceEqDiff, Nat.reduceBEq, ↓reduceIte, reduceCtorEq, eA, scal1, List.all_cons, List.all_nil, Bool.and_self]
    refine call0 100 trivial trivial (clone_calls 8 t (by omega) hs (flatb_true.1 hq)) (.inl rfl) (fun A eA => ?_)
    simp (disch := first | omega | (simp only [avs_len, List.length_cons, List.length_append, List.length_nil, List.length_take, List.length_drop, List.length_map]; omega) | (simp only [cells, scal1, allSz, List.length_cons, List.length_nil, List.length_append, List.length_map, List.all_cons, List.all_nil, avs_len, beq_self_eq_true, Bool.and_self, and_self, or_true, true_or, reduceCtorEq, *]; done) | fail) only [c_ident_Clone, go_sem, Nat.reduceAdd, Nat.reduceSub, Nat.reduceMul, Nat.reduceLT, Nat.reduceLeDiff, Int.reduceToNat, Nat.reduceEqDiff, Nat.reduceBEq, ↓reduceIte, reduceCtorEq, eA, scal1, List.all_cons, List.all_nil, Bool.and_self]
    rw [show cloneT t = t by simp [cloneT, hq]]
    exact doneG rfl
theorem All_calls : PCalls Try.prog F_ident_All [] (tv (.mk true [])) := by
  refine calls_ident_All (walk0 100 trivial (fun A eA => ?_))
  simp (disch := first | omega | (simp only [avs_len, List.length_cons, List.length_append, List.length_nil, List.length_take, List.length_drop, List.length_map]; omega) | (simp only [cells, scal1, allSz, List.length_cons, List.length_nil, List.length_append, List.length_map, List.all_cons, List.all_nil, avs_len, beq_self_eq_true, Bool.and_self, and_self, or_true, true_or, reduceCtorEq, *]; done) | fail) only [c_ident_All, go_sem, Nat.reduceAdd, Nat.reduceSub, Nat.reduceMul, Nat.reduceLT, Nat.reduceLeDiff, Int.reduceToNat, Nat.reduceEqDiff, Nat.reduceBEq, ↓reduceIte, reduceCtorEq, eA, scal1, tavs_len]
  exact doneW rfl (wk_leaf true)
end Go.Proofs.Ytmokhopjnjecbab
/- The walk through the reference's functions on identities. -/
-- short
namespace Go.Proofs.Ytmokhopjnjecbab
open Go.Ev
set_option linter.unusedVariables false
set_option linter.unusedSimpArgs false
set_option maxRecDepth 100000
variable {R : List AV → Heap → Ctr → Prop} {k : List It} {H : Heap} {nx : Ctr} {φ : Nat}

theorem deep_loop (d : Nat) (hd : d < 1000) (ihd : ∀ t : Tree, t.size < 2 ^ 60 → PCalls Try.prog F_ref04_Deep [tv t, .int .i64 (d : Nat)] (.int .i64 (deep d t : Nat))) (a : Tree) (hs : a.size < 2 ^ 60) : ∀ (post pre : List Tree), a.ps = pre ++ post → ∀ (n : Nat) (nx : Ctr), n ≤ 2000 →
    RunsX Try.prog 0 (Gives [.t 4] (.int .i64 ((deepL (deep d) n post + 1 : Nat) : Int))) (i_ref04_Deep_0 ++ [.c c_ref04_Deep_k0]) (s_ref04_Deep_0 (.int .i64 ((d + 1 : Nat) : Int)) (.ro [.bool a.one, .fz 2 (tavs a.ps) none]) (.int .i64 (n : Nat)) (.int .i64 (a.ps.length : Nat)) (.int .i64 (pre.length : Nat))) [] nx := by
  have hls := len_size a
  intro post
  induction post with
  | nil =>
    intro pre h1 n nx hn
    have h5 : a.ps.length = pre.length := by rw [h1]; simp
    have w1 : IntKind.i64.wrap ((n : Int) + 1) = ((n + 1 : Nat) : Int) := by rw [IntKind.wrap_i64]; omega
    refine round (its := [.blk 0 wb_ref04_Deep_0]) (k0 := [.c c_ref04_Deep_k0]) 100 trivial trivial (fun A eA => ?_)
    simp (disch := first | omega | (simp only [avs_len, List.length_cons, List.length_append, List.length_nil, List.length_take, List.length_drop, List.length_map]; omega) | (simp only [cells, scal1, allSz, List.length_cons, List.length_nil, List.length_append, List.length_map, List.all_cons, List.all_nil, avs_len, beq_self_eq_true, Bool.and_self, and_self, or_true, true_or, reduceCtorEq, *]; done) | fail) only [c_ref04_Deep, wl_ref04_Deep_0, s_ref04_Deep_0, c_ref04_Deep_l0, wb_ref04_Deep_0, c_ref04_Deep_k0, go_sem, Nat.reduceAdd, Nat.reduceSub, Nat.reduceMul, Nat.reduceLT, Nat.reduceLeDiff, Int.reduceToNat, Nat.reduceEqDiff, Nat.reduceBEq, ↓reduceIte, reduceCtorEq, eA]
    refine walk0 (its := [.c c_ref04_Deep_k0]) 100 trivial (fun A eA => ?_)
    simp (disch := first | omega | (simp only [avs_len, List.length_cons, List.length_append, List.length_nil, List.length_take, List.length_drop, List.length_map]; omega) | (simp only [cells, scal1, allSz, List.length_cons, List.length_nil, List.length_append, List.length_map, List.all_cons, List.all_nil, avs_len, beq_self_eq_true, Bool.and_self, and_self, or_true, true_or, reduceCtorEq, *]; done) | fail) only [c_ref04_Deep, wl_ref04_Deep_0, s_ref04_Deep_0, c_ref04_Deep_l0, wb_ref04_Deep_0, c_ref04_Deep_k0, go_sem, Nat.reduceAdd, Nat.reduceSub, Nat.reduceMul, Nat.reduceLT, Nat.reduceLeDiff, Int.reduceToNat, Nat.reduceEqDiff, Nat.reduceBEq, ↓reduceIte, reduceCtorEq, eA, w1]
    exact doneG rfl
  | cons p post ih =>
    intro pre h1 n nx hn
    have hlt : pre.length < a.ps.length := by rw [h1]; simp
    have hpm : p ∈ a.ps := by rw [h1]; simp
    have hpz := size_lt hpm
    have g0 : (tavs a.ps)[pre.length]? = some (tv p) := by rw [tavs_get, h1]; simp
    have w1 : IntKind.i64.wrap ((pre.length : Int) + 1) = ((pre.length + 1 : Nat) : Int) := by rw [IntKind.wrap_i64]; omega
    have w2 : IntKind.i64.wrap (((d + 1 : Nat) : Int) - 1) = ((d : Nat) : Int) := by rw [IntKind.wrap_i64]; omega
    have hm := deep_max d p
    have w3 : (if ((deep d p : Nat) : Int) > (n : Int) then ((deep d p : Nat) : Int) else (n : Int)) = ((max n (deep d p) : Nat) : Int) := by split <;> omega
    refine round (its := [.blk 0 wb_ref04_Deep_0]) (k0 := [.c c_ref04_Deep_k0]) 100 trivial trivial (fun A eA => ?_)
    simp (disch := first | omega | (simp only [avs_len, List.length_cons, List.length_append, List.length_nil, List.length_take, List.length_drop, List.length_map]; omega) | (simp only [cells, scal1, allSz, List.length_cons, List.length_nil, List.length_append, List.length_map, List.all_cons, List.all_nil, avs_len, beq_self_eq_true, Bool.and_self, and_self, or_true, true_or, reduceCtorEq, *]; done) | fail) only [c_ref04_Deep, wl_ref04_Deep_0, s_ref04_Deep_0, c_ref04_Deep_l0, wb_ref04_Deep_0, c_ref04_Deep_k0, go_sem, Nat.reduceAdd, Nat.reduceSub, Nat.reduceMul, Nat.reduceLT, Nat.reduceLeDiff, Int.reduceToNat, Nat.reduceEqDiff, Nat.reduceBEq, ↓reduceIte, reduceCtorEq, eA, Int.toNat_natCast, g0, w2, scal1, List.all_cons, List.all_nil, Bool.and_self]
    refine call0 100 trivial trivial (ihd p (by omega)) (.inl rfl) (fun A eA => ?_)
    simp (disch := first | omega | (simp only [avs_len, List.length_cons, List.length_append, List.length_nil, List.length_take, List.length_drop, List.length_map]; omega) | (simp only [cells, scal1, allSz, List.length_cons, List.length_nil, List.length_append, List.length_map, List.all_cons, List.all_nil, avs_len, beq_self_eq_true, Bool.and_self, and_self, or_true, true_or, reduceCtorEq, *]; done) | fail) only [c_ref04_Deep, wl_ref04_Deep_0, s_ref04_Deep_0, c_ref04_Deep_l0, wb_ref04_Deep_0, c_ref04_Deep_k0, go_sem, Nat.reduceAdd, Nat.reduceSub, Nat.reduceMul, Nat.reduceLT, Nat.reduceLeDiff, Int.reduceToNat, Nat.reduceEqDiff, Nat.reduceBEq, ↓reduceIte, reduceCtorEq, eA, w1, w3]
    simp only [deepL]
    have hih := ih (pre ++ [p]) (by rw [h1]; simp) (max n (deep d p)) nx (by omega)
    rw [show (pre ++ [p]).length = pre.length + 1 by simp] at hih
    exact hih
theorem deep_calls : ∀ (d : Nat) (t : Tree), d < 1000 → t.size < 2 ^ 60 → PCalls Try.prog F_ref04_Deep [tv t, .int .i64 (d : Nat)] (.int .i64 (deep d t : Nat)) := by
  intro d
  induction d with
  | zero =>
    intro t _ _
    refine calls_ref04_Deep (walk0 100 trivial (fun A eA => ?_))
    simp (disch := first | omega | (simp only [avs_len, List.length_cons, List.length_append, List.length_nil, List.length_take, List.length_drop, List.length_map]; omega) | (simp only [cells, scal1, allSz, List.length_cons, List.length_nil, List.length_append, List.length_map, List.all_cons, List.all_nil, avs_len, beq_self_eq_true, Bool.and_self, and_self, or_true, true_or, reduceCtorEq, *]; done) | fail) only [c_ref04_Deep, wl_ref04_Deep_0, s_ref04_Deep_0, c_ref04_Deep_l0, wb_ref04_Deep_0, c_ref04_Deep_k0, go_sem, Nat.reduceAdd, Nat.reduceSub, Nat.reduceMul, Nat.reduceLT, Nat.reduceLeDiff, Int.reduceToNat, Nat.reduceEqDiff, Nat.reduceBEq, ↓reduceIte, reduceCtorEq, eA, scal1, tavs_len]
    exact doneG rfl
  | succ d ih =>
    intro t hd hs
    refine calls_ref04_Deep (walk0 100 trivial (fun A eA => ?_))
    simp (disch := first | omega | (simp only [avs_len, List.length_cons, List.length_append, List.length_nil, List.length_take, List.length_drop, List.length_map]; omega) | (simp only [cells, scal1, allSz, List.length_cons, List.length_nil, List.length_append, List.length_map, List.all_cons, List.all_nil, avs_len, beq_self_eq_true, Bool.and_self, and_self, or_true, true_or, reduceCtorEq, *]; done) | fail) only [c_ref04_Deep, wl_ref04_Deep_0, s_ref04_Deep_0, c_ref04_Deep_l0, wb_ref04_Deep_0, c_ref04_Deep_k0, go_sem, Nat.reduceAdd, Nat.reduceSub, Nat.reduceMul, Nat.reduceLT, Nat.reduceLeDiff, Int.reduceToNat, Nat.reduceEqDiff, Nat.reduceBEq, ↓reduceIte, reduceCtorEq, eA, scal1, tavs_len]
    exact deep_loop d (by omega) (fun t h => ih t (by omega) h) t hs t.ps [] rfl 0 zeroC (by omega)
theorem lcount_loop (d : Nat) (hd : d < 1000) (ihd : ∀ t : Tree, PCalls Try.prog F_law04_count [tv t, .int .i64 (d : Nat)] (.int .i64 (lcnt d t : Nat))) (a : Tree) : ∀ (post pre : List Tree), a.ps = pre ++ post → ∀ (n : Nat) (nx : Ctr), n ≤ 1000 → pre.length ≤ n →
    RunsX Try.prog 0 (Gives [.t 4] (.int .i64 (lcntL (lcnt d) n post : Nat))) (i_law04_count_0 ++ [.c c_law04_count_k0]) (s_law04_count_0 (.int .i64 ((d + 1 : Nat) : Int)) (.ro [.bool a.one, .fz 2 (tavs a.ps) none]) (.int .i64 (n : Nat)) (.int .i64 (a.ps.length : Nat)) (.int .i64 (pre.length : Nat))) [] nx := by
  intro post
  induction post with
  | nil =>
    intro pre h1 n nx hn hpn
    have h5 : a.ps.length = pre.length := by rw [h1]; simp
    refine round (its := [.blk 0 wb_law04_count_0]) (k0 := [.c c_law04_count_k0]) 100 trivial trivial (fun A eA => ?_)
    simp (disch := first | omega | (simp only [avs_len, List.length_cons, List.length_append, List.length_nil, List.length_take, List.length_drop, List.length_map]; omega) | (simp only [cells, scal1, allSz, List.length_cons, List.length_nil, List.length_append, List.length_map, List.all_cons, List.all_nil, avs_len, beq_self_eq_true, Bool.and_self, and_self, or_true, true_or, reduceCtorEq, *]; done) | fail) only [c_law04_count, wl_law04_count_0, s_law04_count_0, c_law04_count_l0, wb_law04_count_0, c_law04_count_k0, go_sem, Nat.reduceAdd, Nat.reduceSub, Nat.reduceMul, Nat.reduceLT, Nat.reduceLeDiff, Int.reduceToNat, Nat.reduceEqDiff, Nat.reduceBEq, ↓reduceIte, reduceCtorEq, eA]
    refine walk0 (its := [.c c_law04_count_k0]) 100 trivial (fun A eA => ?_)
    simp (disch := first | omega | (simp only [avs_len, List.length_cons, List.length_append, List.length_nil, List.length_take, List.length_drop, List.length_map]; omega) | (simp only [cells, scal1, allSz, List.length_cons, List.length_nil, List.length_append, List.length_map, List.all_cons, List.all_nil, avs_len, beq_self_eq_true, Bool.and_self, and_self, or_true, true_or, reduceCtorEq, *]; done) | fail) only [c_law04_count, wl_law04_count_0, s_law04_count_0, c_law04_count_l0, wb_law04_count_0, c_law04_count_k0, go_sem, Nat.reduceAdd, Nat.reduceSub, Nat.reduceMul, Nat.reduceLT, Nat.reduceLeDiff, Int.reduceToNat, Nat.reduceEqDiff, Nat.reduceBEq, ↓reduceIte, reduceCtorEq, eA]
    exact doneG rfl
  | cons p post ih =>
    intro pre h1 n nx hn hpn
    have hlt : pre.length < a.ps.length := by rw [h1]; simp
    have hpm : p ∈ a.ps := by rw [h1]; simp
    have g0 : (tavs a.ps)[pre.length]? = some (tv p) := by rw [tavs_get, h1]; simp
    have w1 : IntKind.i64.wrap ((pre.length : Int) + 1) = ((pre.length + 1 : Nat) : Int) := by rw [IntKind.wrap_i64]; omega
    have w2 : IntKind.i64.wrap (((d + 1 : Nat) : Int) - 1) = ((d : Nat) : Int) := by rw [IntKind.wrap_i64]; omega
    have hm := lcnt_le d p
    have hm1 := lcnt_pos d p
    have w3 : IntKind.i64.wrap ((n : Int) + (lcnt d p : Nat)) = ((n + lcnt d p : Nat) : Int) := by rw [IntKind.wrap_i64]; omega
    refine round (its := [.blk 0 wb_law04_count_0]) (k0 := [.c c_law04_count_k0]) 100 trivial trivial (fun A eA => ?_)
    simp (disch := first | omega | (simp only [avs_len, List.length_cons, List.length_append, List.length_nil, List.length_take, List.length_drop, List.length_map]; omega) | (simp only [cells, scal1, allSz, List.length_cons, List.length_nil, List.length_append, List.length_map, List.all_cons, List.all_nil, avs_len, beq_self_eq_true, Bool.and_self, and_self, or_true, true_or, reduceCtorEq, *]; done) | fail) only [c_law04_count, wl_law04_count_0, s_law04_count_0, c_law04_count_l0, wb_law04_count_0, c_law04_count_k0, go_sem, Nat.reduceAdd, Nat.reduceSub, Nat.reduceMul, Nat.reduceLT, Nat.reduceLeDiff, Int.reduceToNat, Nat.reduceEqDiff, Nat.reduceBEq, ↓reduceIte, reduceCtorEq, eA, Int.toNat_natCast, g0, w2, scal1, List.all_cons, List.all_nil, Bool.and_self]
    refine call0 100 trivial trivial (ihd p) (.inl rfl) (fun A eA => ?_)
    by_cases hq : 1000 < n + lcnt d p
    · simp only [lcntL, if_pos hq]
      simp (disch := first | omega | (simp only [avs_len, List.length_cons, List.length_append, List.length_nil, List.length_take, List.length_drop, List.length_map]; omega) | (simp only [cells, scal1, allSz, List.length_cons, List.length_nil, List.length_append, List.length_map, List.all_cons, List.all_nil, avs_len, beq_self_eq_true, Bool.and_self, and_self, or_true, true_or, reduceCtorEq, *]; done) | fail) only [c_law04_count, wl_law04_count_0, s_law04_count_0, c_law04_count_l0, wb_law04_count_0, c_law04_count_k0, go_sem, Nat.reduceAdd, Nat.reduceSub, Nat.reduceMul, Nat.reduceLT, Nat.reduceLeDiff, Int.reduceToNat, Nat.reduceEqDiff, Nat.reduceBEq, ↓reduceIte, reduceCtorEq, eA, w3]
      exact doneG rfl
    · simp only [lcntL, if_neg hq]
      simp (disch := first | omega | (simp only [avs_len, List.length_cons, List.length_append, List.length_nil, List.length_take, List.length_drop, List.length_map]; omega) | (simp only [cells, scal1, allSz, List.length_cons, List.length_nil, List.length_append, List.length_map, List.all_cons, List.all_nil, avs_len, beq_self_eq_true, Bool.and_self, and_self, or_true, true_or, reduceCtorEq, *]; done) | fail) only [c_law04_count, wl_law04_count_0, s_law04_count_0, c_law04_count_l0, wb_law04_count_0, c_law04_count_k0, go_sem, Nat.reduceAdd, Nat.reduceSub, Nat.reduceMul, Nat.reduceLT, Nat.reduceLeDiff, Int.reduceToNat, Nat.reduceEqDiff, Nat.reduceBEq, ↓reduceIte, reduceCtorEq, eA, w1, w3]
      have hih := ih (pre ++ [p]) (by rw [h1]; simp) (n + lcnt d p) nx (by omega) (by simp; omega)
      rw [show (pre ++ [p]).length = pre.length + 1 by simp] at hih
      exact hih
theorem lcount_calls : ∀ (d : Nat) (t : Tree), d < 1000 → PCalls Try.prog F_law04_count [tv t, .int .i64 (d : Nat)] (.int .i64 (lcnt d t : Nat)) := by
  intro d
  induction d with
  | zero =>
    intro t _
    refine calls_law04_count (walk0 100 trivial (fun A eA => ?_))
    simp (disch := first | omega | (simp only [avs_len, List.length_cons, List.length_append, List.length_nil, List.length_take, List.length_drop, List.length_map]; omega) | (simp only [cells, scal1, allSz, List.length_cons, List.length_nil, List.length_append, List.length_map, List.all_cons, List.all_nil, avs_len, beq_self_eq_true, Bool.and_self, and_self, or_true, true_or, reduceCtorEq, *]; done) | fail) only [c_law04_count, wl_law04_count_0, s_law04_count_0, c_law04_count_l0, wb_law04_count_0, c_law04_count_k0, go_sem, Nat.reduceAdd, Nat.reduceSub, Nat.reduceMul, Nat.reduceLT, Nat.reduceLeDiff, Int.reduceToNat, Nat.reduceEqDiff, Nat.reduceBEq, ↓reduceIte, reduceCtorEq, eA, scal1, tavs_len]
    exact doneG rfl
  | succ d ih =>
    intro t hd
    refine calls_law04_count (walk0 100 trivial (fun A eA => ?_))
    simp (disch := first | omega | (simp only [avs_len, List.length_cons, List.length_append, List.length_nil, List.length_take, List.length_drop, List.length_map]; omega) | (simp only [cells, scal1, allSz, List.length_cons, List.length_nil, List.length_append, List.length_map, List.all_cons, List.all_nil, avs_len, beq_self_eq_true, Bool.and_self, and_self, or_true, true_or, reduceCtorEq, *]; done) | fail) only [c_law04_count, wl_law04_count_0, s_law04_count_0, c_law04_count_l0, wb_law04_count_0, c_law04_count_k0, go_sem, Nat.reduceAdd, Nat.reduceSub, Nat.reduceMul, Nat.reduceLT, Nat.reduceLeDiff, Int.reduceToNat, Nat.reduceEqDiff, Nat.reduceBEq, ↓reduceIte, reduceCtorEq, eA, scal1, tavs_len]
    exact lcount_loop d (by omega) (fun t => ih t (by omega)) t t.ps [] rfl 1 zeroC (by omega) (by simp)
theorem Few_calls (t : Tree) : PCalls Try.prog F_law04_Few [tv t, .int .i64 30] (.bool (decide (lcnt 30 t ≤ 1000))) := by
  refine calls_law04_Few (walk0 100 trivial (fun A eA => ?_))
  simp (disch := first | omega | (simp only [avs_len, List.length_cons, List.length_append, List.length_nil, List.length_take, List.length_drop, List.length_map]; omega) | (simp only [cells, scal1, allSz, List.length_cons, List.length_nil, List.length_append, List.length_map, List.all_cons, List.all_nil, avs_len, beq_self_eq_true, Bool.and_self, and_self, or_true, true_or, reduceCtorEq, *]; done) | fail) only [c_law04_Few, go_sem, Nat.reduceAdd, Nat.reduceSub, Nat.reduceMul, Nat.reduceLT, Nat.reduceLeDiff, Int.reduceToNat, Nat.reduceEqDiff, Nat.reduceBEq, ↓reduceIte, reduceCtorEq, eA, scal1, tavs_len]
  refine call0 100 trivial trivial (lcount_calls 30 t (by omega)) (.inl rfl) (fun A eA => ?_)
  simp (disch := first | omega | (simp only [avs_len, List.length_cons, List.length_append, List.length_nil, List.length_take, List.length_drop, List.length_map]; omega) | (simp only [cells, scal1, allSz, List.length_cons, List.length_nil, List.length_append, List.length_map, List.all_cons, List.all_nil, avs_len, beq_self_eq_true, Bool.and_self, and_self, or_true, true_or, reduceCtorEq, *]; done) | fail) only [c_law04_Few, go_sem, Nat.reduceAdd, Nat.reduceSub, Nat.reduceMul, Nat.reduceLT, Nat.reduceLeDiff, Int.reduceToNat, Nat.reduceEqDiff, Nat.reduceBEq, ↓reduceIte, reduceCtorEq, eA]
  by_cases h : lcnt 30 t ≤ 1000
  · simp (disch := first | omega | (simp only [avs_len, List.length_cons, List.length_append, List.length_nil, List.length_take, List.length_drop, List.length_map]; omega) | (simp only [cells, scal1, allSz, List.length_cons, List.length_nil, List.length_append, List.length_map, List.all_cons, List.all_nil, avs_len, beq_self_eq_true, Bool.and_self, and_self, or_true, true_or, reduceCtorEq, *]; done) | fail) only [go_sem, Nat.reduceAdd, Nat.reduceSub, Nat.reduceMul, Nat.reduceLT, Nat.reduceLeDiff, Int.reduceToNat, Nat.reduceEqDiff, Nat.reduceBEq, ↓reduceIte, reduceCtorEq]
    exact doneG rfl
  · simp (disch := first | omega | (simp only [avs_len, List.length_cons, List.length_append, List.length_nil, List.length_take, List.length_drop, List.length_map]; omega) | (simp only [cells, scal1, allSz, List.length_cons, List.length_nil, List.length_append, List.length_map, List.all_cons, List.all_nil, avs_len, beq_self_eq_true, Bool.and_self, and_self, or_true, true_or, reduceCtorEq, *]; done) | fail) only [go_sem, Nat.reduceAdd, Nat.reduceSub, Nat.reduceMul, Nat.reduceLT, Nat.reduceLeDiff, Int.reduceToNat, Nat.reduceEqDiff, Nat.reduceBEq, ↓reduceIte, reduceCtorEq]
    exact doneG rfl
theorem refCount_a {t l r : Tree} {n1 n2 : Nat} {x y : Bool} (hlr : t.ps = [l, r]) (ho : t.one = false) (c1 : PCalls Try.prog F_ref04_count [tv l] (.tup [.int .i64 (n1 : Nat), .bool x])) (c2 : PCalls Try.prog F_ref04_count [tv r] (.tup [.int .i64 (n2 : Nat), .bool y])) (b1 : n1 ≤ 1000) (b2 : n2 ≤ 1000) (k0 : l.ps.length = 0) (k1 : r.ps.length = 0) : PCalls Try.prog F_ref04_count [tv t] (.tup [.int .i64 ((min (n1 + n2 + 1) 1000 : Nat) : Int), .bool (x && y && !lfEq l r)]) := by
  have g0 : (tavs [l, r])[0]? = some (tv l) := by rw [tavs_get]; rfl
  have g1 : (tavs [l, r])[1]? = some (tv r) := by rw [tavs_get]; rfl
  have w1 : IntKind.i64.wrap ((n1 : Int) + (n2 : Nat)) = ((n1 + n2 : Nat) : Int) := by rw [IntKind.wrap_i64]; omega
  have w2 : IntKind.i64.wrap (((n1 + n2 : Nat) : Int) + 1) = ((n1 + n2 + 1 : Nat) : Int) := by rw [IntKind.wrap_i64]; omega
  have w3 : (if (1000 : Int) < ((n1 + n2 + 1 : Nat) : Int) then (1000 : Int) else ((n1 + n2 + 1 : Nat) : Int)) = ((min (n1 + n2 + 1) 1000 : Nat) : Int) := by split <;> omega
  refine calls_ref04_count (walk0 100 trivial (fun A eA => ?_))
  simp (disch := first | omega | (simp only [avs_len, List.length_cons, List.length_append, List.length_nil, List.length_take, List.length_drop, List.length_map]; omega) | (simp only [cells, scal1, allSz, List.length_cons, List.length_nil, List.length_append, List.length_map, List.all_cons, List.all_nil, avs_len, beq_self_eq_true, Bool.and_self, and_self, or_true, true_or, reduceCtorEq, *]; done) | fail) only [c_ref04_count, go_sem, Nat.reduceAdd, Nat.reduceSub, Nat.reduceMul, Nat.reduceLT, Nat.reduceLeDiff, Int.reduceToNat, Nat.reduceEqDiff, Nat.reduceBEq, ↓reduceIte, reduceCtorEq, eA, scal1, tavs_len, ho, hlr, g0, g1, List.all_cons, List.all_nil, Bool.and_self]
  refine call0 100 trivial trivial c1 (.inl rfl) (fun A eA => ?_)
  simp (disch := first | omega | (simp only [avs_len, List.length_cons, List.length_append, List.length_nil, List.length_take, List.length_drop, List.length_map]; omega) | (simp only [cells, scal1, allSz, List.length_cons, List.length_nil, List.length_append, List.length_map, List.all_cons, List.all_nil, avs_len, beq_self_eq_true, Bool.and_self, and_self, or_true, true_or, reduceCtorEq, *]; done) | fail) only [c_ref04_count, go_sem, Nat.reduceAdd, Nat.reduceSub, Nat.reduceMul, Nat.reduceLT, Nat.reduceLeDiff, Int.reduceToNat, Nat.reduceEqDiff, Nat.reduceBEq, ↓reduceIte, reduceCtorEq, eA, hlr, g0, g1, List.all_cons, List.all_nil, Bool.and_self, scal1]
  refine call0 100 trivial trivial c2 (.inl rfl) (fun A eA => ?_)
  cases x <;> cases y
  all_goals
    simp (disch := first | omega | (simp only [avs_len, List.length_cons, List.length_append, List.length_nil, List.length_take, List.length_drop, List.length_map]; omega) | (simp only [cells, scal1, allSz, List.length_cons, List.length_nil, List.length_append, List.length_map, List.all_cons, List.all_nil, avs_len, beq_self_eq_true, Bool.and_self, and_self, or_true, true_or, reduceCtorEq, *]; done) | fail) only [c_ref04_count, go_sem, Nat.reduceAdd, Nat.reduceSub, Nat.reduceMul, Nat.reduceLT, Nat.reduceLeDiff, Int.reduceToNat, Nat.reduceEqDiff, Nat.reduceBEq, ↓reduceIte, reduceCtorEq, eA, hlr, g0, g1, List.all_cons, List.all_nil, Bool.and_self, scal1, tavs_len, w1, w2, w3]
    refine doneG ?_
    simp (disch := first | omega | (simp only [avs_len, List.length_cons, List.length_append, List.length_nil, List.length_take, List.length_drop, List.length_map]; omega) | (simp only [cells, scal1, allSz, List.length_cons, List.length_nil, List.length_append, List.length_map, List.all_cons, List.all_nil, avs_len, beq_self_eq_true, Bool.and_self, and_self, or_true, true_or, reduceCtorEq, *]; done) | fail) only [go_sem, Nat.reduceAdd, Nat.reduceSub, Nat.reduceMul, Nat.reduceLT, Nat.reduceLeDiff, Int.reduceToNat, Nat.reduceEqDiff, Nat.reduceBEq, ↓reduceIte, reduceCtorEq, lfEq, w3]
    cases l.one <;> cases r.one <;> simp [k0, k1]
theorem refCount_b {t l r : Tree} {n1 n2 : Nat} {x y : Bool} (hlr : t.ps = [l, r]) (ho : t.one = false) (c1 : PCalls Try.prog F_ref04_count [tv l] (.tup [.int .i64 (n1 : Nat), .bool x])) (c2 : PCalls Try.prog F_ref04_count [tv r] (.tup [.int .i64 (n2 : Nat), .bool y])) (b1 : n1 ≤ 1000) (b2 : n2 ≤ 1000) (k0 : l.ps.length = 0) (k1 : ¬ r.ps.length = 0) : PCalls Try.prog F_ref04_count [tv t] (.tup [.int .i64 ((min (n1 + n2 + 1) 1000 : Nat) : Int), .bool (x && y && !lfEq l r)]) := by
  have g0 : (tavs [l, r])[0]? = some (tv l) := by rw [tavs_get]; rfl
  have g1 : (tavs [l, r])[1]? = some (tv r) := by rw [tavs_get]; rfl
  have w1 : IntKind.i64.wrap ((n1 : Int) + (n2 : Nat)) = ((n1 + n2 : Nat) : Int) := by rw [IntKind.wrap_i64]; omega
  have w2 : IntKind.i64.wrap (((n1 + n2 : Nat) : Int) + 1) = ((n1 + n2 + 1 : Nat) : Int) := by rw [IntKind.wrap_i64]; omega
  have w3 : (if (1000 : Int) < ((n1 + n2 + 1 : Nat) : Int) then (1000 : Int) else ((n1 + n2 + 1 : Nat) : Int)) = ((min (n1 + n2 + 1) 1000 : Nat) : Int) := by split <;> omega
  refine calls_ref04_count (walk0 100 trivial (fun A eA => ?_))
  simp (disch := first | omega | (simp only [avs_len, List.length_cons, List.length_append, List.length_nil, List.length_take, List.length_drop, List.length_map]; omega) | (simp only [cells, scal1, allSz, List.length_cons, List.length_nil, List.length_append, List.length_map, List.all_cons, List.all_nil, avs_len, beq_self_eq_true, Bool.and_self, and_self, or_true, true_or, reduceCtorEq, *]; done) | fail) only [c_ref04_count, go_sem, Nat.reduceAdd, Nat.reduceSub, Nat.reduceMul, Nat.reduceLT, Nat.reduceLeDiff, Int.reduceToNat, Nat.reduceEqDiff, Nat.reduceBEq, ↓reduceIte, reduceCtorEq, eA, scal1, tavs_len, ho, hlr, g0, g1, List.all_cons, List.all_nil, Bool.and_self]
  refine call0 100 trivial trivial c1 (.inl rfl) (fun A eA => ?_)
  simp (disch := first | omega | (simp only [avs_len, List.length_cons, List.length_append, List.length_nil, List.length_take, List.length_drop, List.length_map]; omega) | (simp only [cells, scal1, allSz, List.length_cons, List.length_nil, List.length_append, List.length_map, List.all_cons, List.all_nil, avs_len, beq_self_eq_true, Bool.and_self, and_self, or_true, true_or, reduceCtorEq, *]; done) | fail) only [c_ref04_count, go_sem, Nat.reduceAdd, Nat.reduceSub, Nat.reduceMul, Nat.reduceLT, Nat.reduceLeDiff, Int.reduceToNat, Nat.reduceEqDiff, Nat.reduceBEq, ↓reduceIte, reduceCtorEq, eA, hlr, g0, g1, List.all_cons, List.all_nil, Bool.and_self, scal1]
  refine call0 100 trivial trivial c2 (.inl rfl) (fun A eA => ?_)
  cases x <;> cases y
  all_goals
    simp (disch := first | omega | (simp only [avs_len, List.length_cons, List.length_append, List.length_nil, List.length_take, List.length_drop, List.length_map]; omega) | (simp only [cells, scal1, allSz, List.length_cons, List.length_nil, List.length_append, List.length_map, List.all_cons, List.all_nil, avs_len, beq_self_eq_true, Bool.and_self, and_self, or_true, true_or, reduceCtorEq, *]; done) | fail) only [c_ref04_count, go_sem, Nat.reduceAdd, Nat.reduceSub, Nat.reduceMul, Nat.reduceLT, Nat.reduceLeDiff, Int.reduceToNat, Nat.reduceEqDiff, Nat.reduceBEq, ↓reduceIte, reduceCtorEq, eA, hlr, g0, g1, List.all_cons, List.all_nil, Bool.and_self, scal1, tavs_len, w1, w2, w3]
    refine doneG ?_
    simp (disch := first | omega | (simp only [avs_len, List.length_cons, List.length_append, List.length_nil, List.length_take, List.length_drop, List.length_map]; omega) | (simp only [cells, scal1, allSz, List.length_cons, List.length_nil, List.length_append, List.length_map, List.all_cons, List.all_nil, avs_len, beq_self_eq_true, Bool.and_self, and_self, or_true, true_or, reduceCtorEq, *]; done) | fail) only [go_sem, Nat.reduceAdd, Nat.reduceSub, Nat.reduceMul, Nat.reduceLT, Nat.reduceLeDiff, Int.reduceToNat, Nat.reduceEqDiff, Nat.reduceBEq, ↓reduceIte, reduceCtorEq, lfEq, w3]
    simp [k0, k1]
theorem refCount_c {t l r : Tree} {n1 n2 : Nat} {x y : Bool} (hlr : t.ps = [l, r]) (ho : t.one = false) (c1 : PCalls Try.prog F_ref04_count [tv l] (.tup [.int .i64 (n1 : Nat), .bool x])) (c2 : PCalls Try.prog F_ref04_count [tv r] (.tup [.int .i64 (n2 : Nat), .bool y])) (b1 : n1 ≤ 1000) (b2 : n2 ≤ 1000) (k0 : ¬ l.ps.length = 0) : PCalls Try.prog F_ref04_count [tv t] (.tup [.int .i64 ((min (n1 + n2 + 1) 1000 : Nat) : Int), .bool (x && y && !lfEq l r)]) := by
  have g0 : (tavs [l, r])[0]? = some (tv l) := by rw [tavs_get]; rfl
  have g1 : (tavs [l, r])[1]? = some (tv r) := by rw [tavs_get]; rfl
  have w1 : IntKind.i64.wrap ((n1 : Int) + (n2 : Nat)) = ((n1 + n2 : Nat) : Int) := by rw [IntKind.wrap_i64]; omega
  have w2 : IntKind.i64.wrap (((n1 + n2 : Nat) : Int) + 1) = ((n1 + n2 + 1 : Nat) : Int) := by rw [IntKind.wrap_i64]; omega
  have w3 : (if (1000 : Int) < ((n1 + n2 + 1 : Nat) : Int) then (1000 : Int) else ((n1 + n2 + 1 : Nat) : Int)) = ((min (n1 + n2 + 1) 1000 : Nat) : Int) := by split <;> omega
  refine calls_ref04_count (walk0 100 trivial (fun A eA => ?_))
  simp (disch := first | omega | (simp only [avs_len, List.length_cons, List.length_append, List.length_nil, List.length_take, List.length_drop, List.length_map]; omega) | (simp only [cells, scal1, allSz, List.length_cons, List.length_nil, List.length_append, List.length_map, List.all_cons, List.all_nil, avs_len, beq_self_eq_true, Bool.and_self, and_self, or_true, true_or, reduceCtorEq, *]; done) | fail) only [c_ref04_count, go_sem, Nat.reduceAdd, Nat.reduceSub, Nat.reduceMul, Nat.reduceLT, Nat.reduceLeDiff, Int.reduceToNat, Nat.reduceEqDiff, Nat.reduceBEq, ↓reduceIte, reduceCtorEq, eA, scal1, tavs_len, ho, hlr, g0, g1, List.all_cons, List.all_nil, Bool.and_self]
  refine call0 100 trivial trivial c1 (.inl rfl) (fun A eA => ?_)
  simp (disch := first | omega | (simp only [avs_len, List.length_cons, List.length_append, List.length_nil, List.length_take, List.length_drop, List.length_map]; omega) | (simp only [cells, scal1, allSz, List.length_cons, List.length_nil, List.length_append, List.length_map, List.all_cons, List.all_nil, avs_len, beq_self_eq_true, Bool.and_self, and_self, or_true, true_or, reduceCtorEq, *]; done) | fail) only [c_ref04_count, go_sem, Nat.reduceAdd, Nat.reduceSub, Nat.reduceMul, Nat.reduceLT, Nat.reduceLeDiff, Int.reduceToNat, Nat.reduceEqDiff, Nat.reduceBEq, ↓reduceIte, reduceCtorEq, eA, hlr, g0, g1, List.all_cons, List.all_nil, Bool.and_self, scal1]
  refine call0 100 trivial trivial c2 (.inl rfl) (fun A eA => ?_)
  cases x <;> cases y
  all_goals
    simp (disch := first | omega | (simp only [avs_len, List.length_cons, List.length_append, List.length_nil, List.length_take, List.length_drop, List.length_map]; omega) | (simp only [cells, scal1, allSz, List.length_cons, List.length_nil, List.length_append, List.length_map, List.all_cons, List.all_nil, avs_len, beq_self_eq_true, Bool.and_self, and_self, or_true, true_or, reduceCtorEq, *]; done) | fail) only [c_ref04_count, go_sem, Nat.reduceAdd, Nat.reduceSub, Nat.reduceMul, Nat.reduceLT, Nat.reduceLeDiff, Int.reduceToNat, Nat.reduceEqDiff, Nat.reduceBEq, ↓reduceIte, reduceCtorEq, eA, hlr, g0, g1, List.all_cons, List.all_nil, Bool.and_self, scal1, tavs_len, w1, w2, w3]
    refine doneG ?_
    simp (disch := first | omega | (simp only [avs_len, List.length_cons, List.length_append, List.length_nil, List.length_take, List.length_drop, List.length_map]; omega) | (simp only [cells, scal1, allSz, List.length_cons, List.length_nil, List.length_append, List.length_map, List.all_cons, List.all_nil, avs_len, beq_self_eq_true, Bool.and_self, and_self, or_true, true_or, reduceCtorEq, *]; done) | fail) only [go_sem, Nat.reduceAdd, Nat.reduceSub, Nat.reduceMul, Nat.reduceLT, Nat.reduceLeDiff, Int.reduceToNat, Nat.reduceEqDiff, Nat.reduceBEq, ↓reduceIte, reduceCtorEq, lfEq, w3]
    simp [k0]
theorem refCount_nd {t l r : Tree} {n1 n2 : Nat} {x y : Bool} (hlr : t.ps = [l, r]) (ho : t.one = false) (c1 : PCalls Try.prog F_ref04_count [tv l] (.tup [.int .i64 (n1 : Nat), .bool x])) (c2 : PCalls Try.prog F_ref04_count [tv r] (.tup [.int .i64 (n2 : Nat), .bool y])) (b1 : n1 ≤ 1000) (b2 : n2 ≤ 1000) : PCalls Try.prog F_ref04_count [tv t] (.tup [.int .i64 ((min (n1 + n2 + 1) 1000 : Nat) : Int), .bool (x && y && !lfEq l r)]) := by
  by_cases k0 : l.ps.length = 0
  · by_cases k1 : r.ps.length = 0
    · exact refCount_a hlr ho c1 c2 b1 b2 k0 k1
    · exact refCount_b hlr ho c1 c2 b1 b2 k0 k1
  · exact refCount_c hlr ho c1 c2 b1 b2 k0
theorem refCount_calls : ∀ t : Tree, ∃ (n : Nat) (ok : Bool), PCalls Try.prog F_ref04_count [tv t] (.tup [.int .i64 (n : Nat), .bool ok]) ∧ n ≤ 1000 ∧ (ok = true ↔ ∃ b : B, t = b.t ∧ b.short = true) ∧ (∀ b : B, t = b.t → n = min b.nodes 1000) := by
  intro t
  induction t using Tree.ind with
  | h t ih =>
    have he := t.eta
    by_cases h0 : t.ps.length = 0
    · have h00 : t.ps = [] := List.eq_nil_of_length_eq_zero h0
      refine ⟨1, true, ?_, by omega, ?_, ?_⟩
      · refine calls_ref04_count (walk0 100 trivial (fun A eA => ?_))
        simp (disch := first | omega | (simp only [avs_len, List.length_cons, List.length_append, List.length_nil, List.length_take, List.length_drop, List.length_map]; omega) | (simp only [cells, scal1, allSz, List.length_cons, List.length_nil, List.length_append, List.length_map, List.all_cons, List.all_nil, avs_len, beq_self_eq_true, Bool.and_self, and_self, or_true, true_or, reduceCtorEq, *]; done) | fail) only [c_ref04_count, go_sem, Nat.reduceAdd, Nat.reduceSub, Nat.reduceMul, Nat.reduceLT, Nat.reduceLeDiff, Int.reduceToNat, Nat.reduceEqDiff, Nat.reduceBEq, ↓reduceIte, reduceCtorEq, eA, scal1, tavs_len]
        exact doneG rfl
      · simp only [true_iff]; exact ⟨.lf t.one, by rw [← he, h00]; rfl, rfl⟩
      · rintro b rfl
        cases b with
        | lf o => rfl
        | nd l r => simp [B.t, Tree.ps] at h00
    by_cases h2 : t.ps.length = 2
    · cases ho : t.one with
      | true =>
        refine ⟨0, false, ?_, by omega, ?_, ?_⟩
        · refine calls_ref04_count (walk0 100 trivial (fun A eA => ?_))
          simp (disch := first | omega | (simp only [avs_len, List.length_cons, List.length_append, List.length_nil, List.length_take, List.length_drop, List.length_map]; omega) | (simp only [cells, scal1, allSz, List.length_cons, List.length_nil, List.length_append, List.length_map, List.all_cons, List.all_nil, avs_len, beq_self_eq_true, Bool.and_self, and_self, or_true, true_or, reduceCtorEq, *]; done) | fail) only [c_ref04_count, go_sem, Nat.reduceAdd, Nat.reduceSub, Nat.reduceMul, Nat.reduceLT, Nat.reduceLeDiff, Int.reduceToNat, Nat.reduceEqDiff, Nat.reduceBEq, ↓reduceIte, reduceCtorEq, eA, scal1, tavs_len, ho]
          exact doneG rfl
        · simp only [Bool.false_eq_true, false_iff]
          rintro ⟨b, rfl, -⟩
          cases b with
          | lf o => simp [B.t, Tree.ps] at h0
          | nd l r => simp [B.t, Tree.one] at ho
        · rintro b rfl
          cases b with
          | lf o => simp [B.t, Tree.ps] at h0
          | nd l r => simp [B.t, Tree.one] at ho
      | false =>
        obtain ⟨l, r, hlr⟩ : ∃ l r, t.ps = [l, r] := by
          match t.ps, h2 with
          | [l, r], _ => exact ⟨l, r, rfl⟩
        obtain ⟨n1, x, c1, b1, e1, f1⟩ := ih l (by rw [hlr]; simp)
        obtain ⟨n2, y, c2, b2, e2, f2⟩ := ih r (by rw [hlr]; simp)
        have key : ∀ b : B, t = b.t → ∃ bl br, b = .nd bl br ∧ l = bl.t ∧ r = br.t := by
          rintro b rfl
          cases b with
          | lf o => simp [B.t, Tree.ps] at h0
          | nd bl br => simp [B.t, Tree.ps] at hlr; exact ⟨bl, br, rfl, hlr.1.symm, hlr.2.symm⟩
        refine ⟨min (n1 + n2 + 1) 1000, x && y && !lfEq l r, ?_, by omega, ?_, ?_⟩
        · exact refCount_nd hlr ho c1 c2 b1 b2
        · simp only [Bool.and_eq_true, e1, e2]
          constructor
          · rintro ⟨⟨⟨bl, rfl, s1⟩, ⟨br, rfl, s2⟩⟩, s3⟩
            exact ⟨.nd bl br, by rw [← he, hlr, ho]; rfl, by simp only [B.short, s1, s2, s3, Bool.and_self]⟩
          · rintro ⟨b, hb, hsh⟩
            obtain ⟨bl, br, rfl, rfl, rfl⟩ := key b hb
            simp only [B.short, Bool.and_eq_true] at hsh
            exact ⟨⟨⟨bl, rfl, hsh.1.1⟩, ⟨br, rfl, hsh.1.2⟩⟩, hsh.2⟩
        · intro b hb
          obtain ⟨bl, br, rfl, hl, hr⟩ := key b hb
          have := f1 bl hl
          have := f2 br hr
          simp only [B.nodes]
          omega
    · refine ⟨0, false, ?_, by omega, ?_, ?_⟩
      · refine calls_ref04_count (walk0 100 trivial (fun A eA => ?_))
        simp (disch := first | omega | (simp only [avs_len, List.length_cons, List.length_append, List.length_nil, List.length_take, List.length_drop, List.length_map]; omega) | (simp only [cells, scal1, allSz, List.length_cons, List.length_nil, List.length_append, List.length_map, List.all_cons, List.all_nil, avs_len, beq_self_eq_true, Bool.and_self, and_self, or_true, true_or, reduceCtorEq, *]; done) | fail) only [c_ref04_count, go_sem, Nat.reduceAdd, Nat.reduceSub, Nat.reduceMul, Nat.reduceLT, Nat.reduceLeDiff, Int.reduceToNat, Nat.reduceEqDiff, Nat.reduceBEq, ↓reduceIte, reduceCtorEq, eA, scal1, tavs_len]
        exact doneG rfl
      · simp only [Bool.false_eq_true, false_iff]
        rintro ⟨b, rfl, -⟩
        cases b with
        | lf o => simp [B.t, Tree.ps] at h0
        | nd l r => simp [B.t, Tree.ps] at h2
      · rintro b rfl
        cases b with
        | lf o => simp [B.t, Tree.ps] at h0
        | nd l r => simp [B.t, Tree.ps] at h2
theorem flat_dep : ∀ (d : Nat) (b : B), flatTo d b.t ↔ b.dep ≤ d
  | 0, .lf o => by simp [flatTo, B.dep]
  | 0, .nd l r => by simp [flatTo, B.dep]
  | d + 1, .lf o => by simp [flatTo, B.dep, B.t, Tree.ps]
  | d + 1, .nd l r => by simp only [flatTo, B.dep, B.t, Tree.ps, List.mem_cons, List.not_mem_nil, or_false, forall_eq_or_imp, forall_eq, flat_dep d l, flat_dep d r]; omega
theorem refRight_calls (t : Tree) (hs : t.size < 2 ^ 60) : PCalls Try.prog F_ref04_Right [tv t] (.bool (rtb t)) := by
  refine calls_ref04_Right (walk0 100 trivial (fun A eA => ?_))
  simp (disch := first | omega | (simp only [avs_len, List.length_cons, List.length_append, List.length_nil, List.length_take, List.length_drop, List.length_map]; omega) | (simp only [cells, scal1, allSz, List.length_cons, List.length_nil, List.length_append, List.length_map, List.all_cons, List.all_nil, avs_len, beq_self_eq_true, Bool.and_self, and_self, or_true, true_or, reduceCtorEq, *]; done) | fail) only [c_ref04_Right, go_sem, Nat.reduceAdd, Nat.reduceSub, Nat.reduceMul, Nat.reduceLT, Nat.reduceLeDiff, Int.reduceToNat, Nat.reduceEqDiff, Nat.reduceBEq, ↓reduceIte, reduceCtorEq, eA, scal1, tavs_len]
  refine call0 100 trivial trivial (deep_calls 8 t (by omega) hs) (.inl rfl) (fun A eA => ?_)
  have hno : ¬ Rt t → rtb t = false := fun h => by rw [Bool.eq_false_iff, ne_eq, rtb_true]; exact h
  by_cases h : deep 8 t ≤ 8
  · simp (disch := first | omega | (simp only [avs_len, List.length_cons, List.length_append, List.length_nil, List.length_take, List.length_drop, List.length_map]; omega) | (simp only [cells, scal1, allSz, List.length_cons, List.length_nil, List.length_append, List.length_map, List.all_cons, List.all_nil, avs_len, beq_self_eq_true, Bool.and_self, and_self, or_true, true_or, reduceCtorEq, *]; done) | fail) only [c_ref04_Right, go_sem, Nat.reduceAdd, Nat.reduceSub, Nat.reduceMul, Nat.reduceLT, Nat.reduceLeDiff, Int.reduceToNat, Nat.reduceEqDiff, Nat.reduceBEq, ↓reduceIte, reduceCtorEq, eA]
    obtain ⟨n, ok, c, hn, h1, h2⟩ := refCount_calls t
    refine call0 100 trivial trivial c (.inl rfl) (fun A eA => ?_)
    cases ok with
    | false =>
      simp (disch := first | omega | (simp only [avs_len, List.length_cons, List.length_append, List.length_nil, List.length_take, List.length_drop, List.length_map]; omega) | (simp only [cells, scal1, allSz, List.length_cons, List.length_nil, List.length_append, List.length_map, List.all_cons, List.all_nil, avs_len, beq_self_eq_true, Bool.and_self, and_self, or_true, true_or, reduceCtorEq, *]; done) | fail) only [c_ref04_Right, go_sem, Nat.reduceAdd, Nat.reduceSub, Nat.reduceMul, Nat.reduceLT, Nat.reduceLeDiff, Int.reduceToNat, Nat.reduceEqDiff, Nat.reduceBEq, ↓reduceIte, reduceCtorEq, eA]
      rw [hno (by rintro ⟨b, hb, -, -, hsh⟩; have := h1.2 ⟨b, hb, hsh⟩; cases this)]
      exact doneG rfl
    | true =>
      obtain ⟨b, rfl, hsh⟩ := h1.1 rfl
      have hn2 := h2 b rfl
      have hdp := (flat_dep 8 b).1 ((deep_le 8 _).1 h)
      by_cases h6 : n ≤ 60
      · simp (disch := first | omega | (simp only [avs_len, List.length_cons, List.length_append, List.length_nil, List.length_take, List.length_drop, List.length_map]; omega) | (simp only [cells, scal1, allSz, List.length_cons, List.length_nil, List.length_append, List.length_map, List.all_cons, List.all_nil, avs_len, beq_self_eq_true, Bool.and_self, and_self, or_true, true_or, reduceCtorEq, *]; done) | fail) only [c_ref04_Right, go_sem, Nat.reduceAdd, Nat.reduceSub, Nat.reduceMul, Nat.reduceLT, Nat.reduceLeDiff, Int.reduceToNat, Nat.reduceEqDiff, Nat.reduceBEq, ↓reduceIte, reduceCtorEq, eA]
        rw [rtb_true.2 ⟨b, rfl, hdp, by omega, hsh⟩]
        exact doneG rfl
      · simp (disch := first | omega | (simp only [avs_len, List.length_cons, List.length_append, List.length_nil, List.length_take, List.length_drop, List.length_map]; omega) | (simp only [cells, scal1, allSz, List.length_cons, List.length_nil, List.length_append, List.length_map, List.all_cons, List.all_nil, avs_len, beq_self_eq_true, Bool.and_self, and_self, or_true, true_or, reduceCtorEq, *]; done) | fail) only [c_ref04_Right, go_sem, Nat.reduceAdd, Nat.reduceSub, Nat.reduceMul, Nat.reduceLT, Nat.reduceLeDiff, Int.reduceToNat, Nat.reduceEqDiff, Nat.reduceBEq, ↓reduceIte, reduceCtorEq, eA]
        rw [hno (by rintro ⟨b', hb, -, h7, -⟩; obtain rfl := B.inj hb; omega)]
        exact doneG rfl
  · simp (disch := first | omega | (simp only [avs_len, List.length_cons, List.length_append, List.length_nil, List.length_take, List.length_drop, List.length_map]; omega) | (simp only [cells, scal1, allSz, List.length_cons, List.length_nil, List.length_append, List.length_map, List.all_cons, List.all_nil, avs_len, beq_self_eq_true, Bool.and_self, and_self, or_true, true_or, reduceCtorEq, *]; done) | fail) only [c_ref04_Right, go_sem, Nat.reduceAdd, Nat.reduceSub, Nat.reduceMul, Nat.reduceLT, Nat.reduceLeDiff, Int.reduceToNat, Nat.reduceEqDiff, Nat.reduceBEq, ↓reduceIte, reduceCtorEq, eA]
    rw [hno (by rintro ⟨b, rfl, h7, -, -⟩; exact h ((deep_le 8 _).2 ((flat_dep 8 b).2 h7)))]
    exact doneG rfl
theorem cloneT_deep (t : Tree) : (deep 8 t ≤ 8 → cloneT t = t) ∧ (¬ deep 8 t ≤ 8 → cloneT t = .mk false []) := by
  rw [deep_le]
  constructor
  · intro h; simp [cloneT, flatb_true.2 h]
  · intro h; simp [cloneT, flatb_false.2 h]
end Go.Proofs.Ytmokhopjnjecbab
