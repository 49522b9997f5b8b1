/- The functions' bodies, compiled; printed by a program of mine (gen.py); that they are is checked here. -/
import Derived.Test.YtmokhopjnjecbabM2
import Derived.Test.YtmokhopjnjecbabRows
import Derived.Eval
import Derived.KernelRfl
import Derived.Attr
namespace Go.Proofs.Ytmokhopjnjecbab
open Go.Ev
set_option maxRecDepth 100000

/-- slices.Clone[[]pedlar/api.Version,pedlar/api.Version]: parameters [37], results [.t 2], calls  -/
def c_slices_Clone_api_Version : Cd := (.seq (.reg [⟨(some 2), none, .mv, [.c .nils]⟩]) (.seq (.seq (.reg [⟨(some 3), none, .mv, [.t 0]⟩, ⟨(some 4), none, (.eqs false), [.t 3, .c .nils]⟩]) (.cond (.t 4) (.seq (.reg [⟨(some 2), none, .mv, [.c .nils]⟩]) .ret) .skip)) (.seq (.reg [⟨(some 5), none, (.lit 7 0), []⟩, ⟨(some 6), none, .mv, [.t 0]⟩, ⟨(some 7), none, (.app 7 88 7), [.t 5, .t 6]⟩, ⟨(some 2), none, .mv, [.t 7]⟩]) .ret)))
theorem comp_slices_Clone_api_Version : compF Try.prog (mset [] [] []) (cset [] [] []) (wset [] []) Try.f93 = some c_slices_Clone_api_Version := by kernel_rfl
theorem ok_slices_Clone_api_Version : fnOk Try.prog F_slices_Clone_api_Version = true := by kernel_rfl
theorem calls_slices_Clone_api_Version {args : List AV} {r : AV} (h : RunsX Try.prog 0 (Gives [.t 2] r) [.c c_slices_Clone_api_Version] (args ++ List.replicate (8 - args.length) (.tup [])) [] zeroC) : PCalls Try.prog F_slices_Clone_api_Version args r :=
  pcallsF Try.checked.mixed Try.func93 ok_slices_Clone_api_Version comp_slices_Clone_api_Version rfl (rs := [.t 2]) (by kernel_rfl) h
theorem hcalls_slices_Clone_api_Version {args : List AV} {Hin Hout : Heap} {nx nx2 : Ctr} {r : AV} (φ : Nat) (ks : List (Nat × Nat)) (h : RunsX Try.prog φ (GivesH ks [.t 2] r Hout nx2) [.c c_slices_Clone_api_Version] (args ++ List.replicate (8 - args.length) (.tup [])) Hin nx) : HCalls Try.prog F_slices_Clone_api_Version args Hin nx r Hout nx2 :=
  hcallsF Try.checked.mixed Try.func93 ok_slices_Clone_api_Version comp_slices_Clone_api_Version rfl (rs := [.t 2]) (by kernel_rfl) φ ks h

/-- pedlar/version.CloneAll: parameters [37], results [.t 2], calls version_Clone -/
def wl_version_CloneAll_0 : Mk := ⟨[true, true, true, false, true, true, false, false, false, true, true, true, true, true, true, true, true, true, true], [5]⟩
abbrev s_version_CloneAll_0 (t3 t6 t7 t8 : AV) : List AV := [.any, .any, .any, t3, .any, .any, t6, t7, t8, .any, .any, .any, .any, .any, .any, .any, .any, .any, .any]
def c_version_CloneAll_l0 : Cd := (.seq (.reg [⟨(some 9), none, (.bin .lss), [.t 8, .t 7]⟩]) (.seq (.cond (.t 9) .skip (.exit 0)) (.seq (.blk 1 [] (.seq (.reg [⟨(some 10), none, (.ixS 7), [.t 6, .t 8]⟩, ⟨(some 11), none, (.ldn 7), [.t 10]⟩, ⟨(some 5), none, (.new [(.int .i64 0), (.int .i64 0), (.str ⟨#[]⟩), (.str ⟨#[]⟩), (.bool false), (.int .i64 0), .nils] 5), []⟩, ⟨none, none, (.st 7), [.t 5, .t 11]⟩]) (.reg [⟨(some 12), none, .mv, [.t 3]⟩, ⟨(some 13), none, (.ldn 7), [.t 5]⟩, ⟨(some 14), none, (.call F_version_Clone 0), [.t 13]⟩, ⟨(some 15), none, (.lit 7 1), [.t 14]⟩, ⟨(some 16), none, (.app 7 88 16), [.t 12, .t 15]⟩, ⟨(some 3), none, .mv, [.t 16]⟩]))) (.reg [⟨(some 17), none, (.bin .add), [.t 8, .c (.int .i64 1)]⟩, ⟨(some 8), none, .mv, [.t 17]⟩]))))
def wb_version_CloneAll_0 : List Bool := [true, true, true, false, true, true, true, true, true, true, true, true, true, true, true, true, true, true, true]
abbrev e_version_CloneAll_0 (t3 : AV) : List AV := [.any, .any, .any, t3, .any, .any, .any, .any, .any, .any, .any, .any, .any, .any, .any, .any, .any, .any, .any]
abbrev i_version_CloneAll_0 : List It := [.lp wl_version_CloneAll_0 c_version_CloneAll_l0, .blk 0 wb_version_CloneAll_0]
def c_version_CloneAll_k0 : Cd := (.seq (.reg [⟨(some 18), none, .mv, [.t 3]⟩, ⟨(some 2), none, .mv, [.t 18]⟩]) .ret)
def c_version_CloneAll : Cd := (.seq (.reg [⟨(some 2), none, .mv, [.c .nils]⟩]) (.seq (.reg [⟨(some 3), none, .mv, [.c .nils]⟩]) (.seq (.seq (.reg [⟨(some 6), none, .mv, [.t 0]⟩, ⟨(some 7), none, .len, [.t 6]⟩, ⟨(some 8), none, .mv, [.c (.int .i64 0)]⟩]) (.blk 0 wb_version_CloneAll_0 (.loop wl_version_CloneAll_0 c_version_CloneAll_l0))) c_version_CloneAll_k0)))
theorem comp_version_CloneAll : compF Try.prog (mset [] [] []) (cset [] [] []) (wset [(0, wl_version_CloneAll_0, wb_version_CloneAll_0)] []) Try.f95 = some c_version_CloneAll := by kernel_rfl
theorem ok_version_CloneAll : fnOk Try.prog F_version_CloneAll = true := by kernel_rfl
theorem calls_version_CloneAll {args : List AV} {r : AV} (h : RunsX Try.prog 0 (Gives [.t 2] r) [.c c_version_CloneAll] (args ++ List.replicate (19 - args.length) (.tup [])) [] zeroC) : PCalls Try.prog F_version_CloneAll args r :=
  pcallsF Try.checked.mixed Try.func95 ok_version_CloneAll comp_version_CloneAll rfl (rs := [.t 2]) (by kernel_rfl) h
theorem hcalls_version_CloneAll {args : List AV} {Hin Hout : Heap} {nx nx2 : Ctr} {r : AV} (φ : Nat) (ks : List (Nat × Nat)) (h : RunsX Try.prog φ (GivesH ks [.t 2] r Hout nx2) [.c c_version_CloneAll] (args ++ List.replicate (19 - args.length) (.tup [])) Hin nx) : HCalls Try.prog F_version_CloneAll args Hin nx r Hout nx2 :=
  hcallsF Try.checked.mixed Try.func95 ok_version_CloneAll comp_version_CloneAll rfl (rs := [.t 2]) (by kernel_rfl) φ ks h

/-- slices.IndexFunc[[]pedlar/api.Version,pedlar/api.Version]: parameters [37, 50], results [.t 4], calls  -/
def wl_slices_IndexFunc_api_Version_0 : Mk := ⟨[false, false, true, true, true, true, true, false, false, true, true, true, true, true, true, true, true, true, true], []⟩
abbrev s_slices_IndexFunc_api_Version_0 (t0 t1 t7 t8 : AV) : List AV := [t0, t1, .any, .any, .any, .any, .any, t7, t8, .any, .any, .any, .any, .any, .any, .any, .any, .any, .any]
def c_slices_IndexFunc_api_Version_l0 : Cd := (.seq (.reg [⟨(some 9), none, (.bin .lss), [.t 8, .t 7]⟩]) (.seq (.cond (.t 9) .skip (.exit 0)) (.seq (.blk 1 [] (.seq (.reg [⟨(some 10), none, .mv, [.t 8]⟩, ⟨(some 5), none, .mv, [.t 10]⟩]) (.seq (.reg [⟨(some 11), none, .mv, [.t 1]⟩, ⟨(some 12), none, .mv, [.t 0]⟩, ⟨(some 13), none, .mv, [.t 5]⟩, ⟨(some 14), none, (.ixS 7), [.t 12, .t 13]⟩, ⟨(some 15), none, (.ldn 7), [.t 14]⟩, ⟨(some 16), none, (.callv 0), [.t 11, .t 15]⟩]) (.cond (.t 16) (.seq (.reg [⟨(some 17), none, .mv, [.t 5]⟩, ⟨(some 4), none, .mv, [.t 17]⟩]) .ret) .skip)))) (.reg [⟨(some 18), none, (.bin .add), [.t 8, .c (.int .i64 1)]⟩, ⟨(some 8), none, .mv, [.t 18]⟩]))))
def wb_slices_IndexFunc_api_Version_0 : List Bool := [true, true, true, true, true, true, true, true, true, true, true, true, true, true, true, true, true, true, true]
abbrev e_slices_IndexFunc_api_Version_0 : List AV := [.any, .any, .any, .any, .any, .any, .any, .any, .any, .any, .any, .any, .any, .any, .any, .any, .any, .any, .any]
abbrev i_slices_IndexFunc_api_Version_0 : List It := [.lp wl_slices_IndexFunc_api_Version_0 c_slices_IndexFunc_api_Version_l0, .blk 0 wb_slices_IndexFunc_api_Version_0]
def c_slices_IndexFunc_api_Version_k0 : Cd := (.seq (.reg [⟨(some 4), none, .mv, [.c (.int .i64 (-1))]⟩]) .ret)
def c_slices_IndexFunc_api_Version : Cd := (.seq (.reg [⟨(some 4), none, .mv, [.c (.int .i64 0)]⟩]) (.seq (.seq (.reg [⟨(some 6), none, .mv, [.t 0]⟩, ⟨(some 7), none, .len, [.t 6]⟩, ⟨(some 8), none, .mv, [.c (.int .i64 0)]⟩]) (.blk 0 wb_slices_IndexFunc_api_Version_0 (.loop wl_slices_IndexFunc_api_Version_0 c_slices_IndexFunc_api_Version_l0))) c_slices_IndexFunc_api_Version_k0))
theorem comp_slices_IndexFunc_api_Version : compF Try.prog (mset [] [] []) (cset [] [] []) (wset [(0, wl_slices_IndexFunc_api_Version_0, wb_slices_IndexFunc_api_Version_0)] []) Try.f145 = some c_slices_IndexFunc_api_Version := by kernel_rfl
theorem ok_slices_IndexFunc_api_Version : fnOk Try.prog F_slices_IndexFunc_api_Version = true := by kernel_rfl
theorem calls_slices_IndexFunc_api_Version {args : List AV} {r : AV} (h : RunsX Try.prog 0 (Gives [.t 4] r) [.c c_slices_IndexFunc_api_Version] (args ++ List.replicate (19 - args.length) (.tup [])) [] zeroC) : PCalls Try.prog F_slices_IndexFunc_api_Version args r :=
  pcallsF Try.checked.mixed Try.func145 ok_slices_IndexFunc_api_Version comp_slices_IndexFunc_api_Version rfl (rs := [.t 4]) (by kernel_rfl) h
theorem hcalls_slices_IndexFunc_api_Version {args : List AV} {Hin Hout : Heap} {nx nx2 : Ctr} {r : AV} (φ : Nat) (ks : List (Nat × Nat)) (h : RunsX Try.prog φ (GivesH ks [.t 4] r Hout nx2) [.c c_slices_IndexFunc_api_Version] (args ++ List.replicate (19 - args.length) (.tup [])) Hin nx) : HCalls Try.prog F_slices_IndexFunc_api_Version args Hin nx r Hout nx2 :=
  hcallsF Try.checked.mixed Try.func145 ok_slices_IndexFunc_api_Version comp_slices_IndexFunc_api_Version rfl (rs := [.t 4]) (by kernel_rfl) φ ks h

/-- slices.ContainsFunc[[]pedlar/api.Version,pedlar/api.Version]: parameters [37, 50], results [.t 4], calls slices_IndexFunc_api_Version -/
def c_slices_ContainsFunc_api_Version : Cd := (.seq (.reg [⟨(some 4), none, .mv, [.c (.bool false)]⟩]) (.seq (.reg [⟨(some 5), none, .mv, [.t 0]⟩, ⟨(some 6), none, .mv, [.t 1]⟩, ⟨(some 7), none, (.call F_slices_IndexFunc_api_Version 0), [.t 5, .t 6]⟩, ⟨(some 8), none, (.bin .geq), [.t 7, .c (.int .i64 0)]⟩, ⟨(some 4), none, .mv, [.t 8]⟩]) .ret))
theorem comp_slices_ContainsFunc_api_Version : compF Try.prog (mset [] [] []) (cset [] [] []) (wset [] []) Try.f96 = some c_slices_ContainsFunc_api_Version := by kernel_rfl
theorem ok_slices_ContainsFunc_api_Version : fnOk Try.prog F_slices_ContainsFunc_api_Version = true := by kernel_rfl
theorem calls_slices_ContainsFunc_api_Version {args : List AV} {r : AV} (h : RunsX Try.prog 0 (Gives [.t 4] r) [.c c_slices_ContainsFunc_api_Version] (args ++ List.replicate (9 - args.length) (.tup [])) [] zeroC) : PCalls Try.prog F_slices_ContainsFunc_api_Version args r :=
  pcallsF Try.checked.mixed Try.func96 ok_slices_ContainsFunc_api_Version comp_slices_ContainsFunc_api_Version rfl (rs := [.t 4]) (by kernel_rfl) h
theorem hcalls_slices_ContainsFunc_api_Version {args : List AV} {Hin Hout : Heap} {nx nx2 : Ctr} {r : AV} (φ : Nat) (ks : List (Nat × Nat)) (h : RunsX Try.prog φ (GivesH ks [.t 4] r Hout nx2) [.c c_slices_ContainsFunc_api_Version] (args ++ List.replicate (9 - args.length) (.tup [])) Hin nx) : HCalls Try.prog F_slices_ContainsFunc_api_Version args Hin nx r Hout nx2 :=
  hcallsF Try.checked.mixed Try.func96 ok_slices_ContainsFunc_api_Version comp_slices_ContainsFunc_api_Version rfl (rs := [.t 4]) (by kernel_rfl) φ ks h

/-- (*pedlar/queue.Queue).Has$1: parameters [44], results [.t 3], calls  -/
def c_queue_Queue_Has_1 : Cd := (.seq (.reg [⟨(some 2), none, .box, [.t 0]⟩, ⟨(some 3), none, .mv, [.c (.bool false)]⟩]) (.seq (.reg [⟨(some 4), none, (.fa 2), [.t 2]⟩, ⟨(some 5), none, .ld1, [.t 4]⟩, ⟨(some 6), none, .ld1, [.t 1]⟩, ⟨(some 7), none, (.bin .eql), [.t 5, .t 6]⟩, ⟨(some 3), none, .mv, [.t 7]⟩]) .ret))
theorem comp_queue_Queue_Has_1 : compF Try.prog (mset [] [] []) (cset [] [] []) (wset [] []) Try.f97 = some c_queue_Queue_Has_1 := by kernel_rfl
theorem ok_queue_Queue_Has_1 : fnOk Try.prog F_queue_Queue_Has_1 = true := by kernel_rfl
theorem calls_queue_Queue_Has_1 {args : List AV} {r : AV} (h : RunsX Try.prog 0 (Gives [.t 3] r) [.c c_queue_Queue_Has_1] (args ++ List.replicate (8 - args.length) (.tup [])) [] zeroC) : PCalls Try.prog F_queue_Queue_Has_1 args r :=
  pcallsF Try.checked.mixed Try.func97 ok_queue_Queue_Has_1 comp_queue_Queue_Has_1 rfl (rs := [.t 3]) (by kernel_rfl) h
theorem hcalls_queue_Queue_Has_1 {args : List AV} {Hin Hout : Heap} {nx nx2 : Ctr} {r : AV} (φ : Nat) (ks : List (Nat × Nat)) (h : RunsX Try.prog φ (GivesH ks [.t 3] r Hout nx2) [.c c_queue_Queue_Has_1] (args ++ List.replicate (8 - args.length) (.tup [])) Hin nx) : HCalls Try.prog F_queue_Queue_Has_1 args Hin nx r Hout nx2 :=
  hcallsF Try.checked.mixed Try.func97 ok_queue_Queue_Has_1 comp_queue_Queue_Has_1 rfl (rs := [.t 3]) (by kernel_rfl) φ ks h

/-- (*pedlar/queue.Queue).Push: parameters [57, 44], results [.t 4], calls version_Right, slices_Clone_api_Version, version_Clone -/
def c_queue_Queue_Push : Cd := (.seq (.reg [⟨(some 3), none, .box, [.t 1]⟩, ⟨(some 4), none, .mv, [.c (.int .i64 0)]⟩]) (.seq (.blk 0 [] (.seq (.seq (.reg [⟨(some 6), none, .mv, [.t 0]⟩, ⟨(some 7), none, (.eqp false), [.t 6, .c .nilp]⟩, ⟨(some 5), none, .mv, [.t 7]⟩]) (.cond (.t 5) .skip (.seq (.reg [⟨(some 8), none, (.ldn 7), [.t 3]⟩, ⟨(some 9), none, (.call F_version_Right 0), [.t 8]⟩, ⟨(some 10), none, .not, [.t 9]⟩, ⟨(some 5), none, .mv, [.t 10]⟩]) (.cond (.t 5) .skip (.reg [⟨(some 11), none, .mv, [.t 0]⟩, ⟨(some 12), none, .nck, [.t 11]⟩, ⟨(some 13), none, (.fa 0), [.t 12]⟩, ⟨(some 14), none, .ld1, [.t 13]⟩, ⟨(some 15), none, .len, [.t 14]⟩, ⟨(some 16), none, (.bin .gtr), [.t 15, .c (.int .i64 0)]⟩, ⟨(some 17), none, .mv, [.t 16]⟩, ⟨(some 18), (some (17, true)), .mv, [.t 0]⟩, ⟨(some 19), (some (17, true)), .nck, [.t 18]⟩, ⟨(some 20), (some (17, true)), (.fa 0), [.t 19]⟩, ⟨(some 21), (some (17, true)), .ld1, [.t 20]⟩, ⟨(some 22), (some (17, true)), .mv, [.t 0]⟩, ⟨(some 23), (some (17, true)), .nck, [.t 22]⟩, ⟨(some 24), (some (17, true)), (.fa 0), [.t 23]⟩, ⟨(some 25), (some (17, true)), .ld1, [.t 24]⟩, ⟨(some 26), (some (17, true)), .len, [.t 25]⟩, ⟨(some 27), (some (17, true)), (.bin .sub), [.t 26, .c (.int .i64 1)]⟩, ⟨(some 28), (some (17, true)), (.ixS 7), [.t 21, .t 27]⟩, ⟨(some 29), (some (17, true)), (.fa 1), [.t 28]⟩, ⟨(some 30), (some (17, true)), .ld1, [.t 29]⟩, ⟨(some 31), (some (17, true)), (.fa 1), [.t 3]⟩, ⟨(some 32), (some (17, true)), .ld1, [.t 31]⟩, ⟨(some 33), (some (17, true)), (.bin .geq), [.t 30, .t 32]⟩, ⟨(some 34), none, .pick, [.t 17, .t 33, .c (.bool false)]⟩, ⟨(some 5), none, .mv, [.t 34]⟩]))))) (.cond (.t 5) (.seq (.reg [⟨(some 4), none, .mv, [.c (.int .i64 1)]⟩]) .ret) (.seq (.reg [⟨(some 36), none, .mv, [.t 0]⟩, ⟨(some 37), none, .nck, [.t 36]⟩, ⟨(some 38), none, (.fa 0), [.t 37]⟩, ⟨(some 39), none, .ld1, [.t 38]⟩, ⟨(some 40), none, .len, [.t 39]⟩, ⟨(some 41), none, (.bin .geq), [.t 40, .c (.int .i64 16)]⟩, ⟨(some 35), none, .mv, [.t 41]⟩]) (.cond (.t 35) (.seq (.reg [⟨(some 4), none, .mv, [.c (.int .i64 4)]⟩]) .ret) .skip))))) (.seq (.reg [⟨(some 42), none, .mv, [.t 0]⟩, ⟨(some 43), none, .mv, [.t 0]⟩, ⟨(some 44), none, .nck, [.t 43]⟩, ⟨(some 45), none, (.fa 0), [.t 44]⟩, ⟨(some 46), none, .ld1, [.t 45]⟩, ⟨(some 47), none, (.call F_slices_Clone_api_Version 2), [.t 46]⟩, ⟨(some 48), none, (.ldnr 7), [.t 3]⟩, ⟨(some 49), none, (.call F_version_Clone 4), [.t 48]⟩, ⟨(some 50), none, (.litr 7 1), [.t 49]⟩, ⟨(some 51), none, (.app 7 88 51), [.t 47, .t 50]⟩, ⟨(some 52), none, .nck, [.t 42]⟩, ⟨(some 53), none, (.fa 0), [.t 52]⟩, ⟨none, none, (.stf 1), [.t 53, .t 51]⟩]) (.seq (.reg [⟨(some 4), none, .mv, [.c (.int .i64 0)]⟩]) .ret))))
theorem comp_queue_Queue_Push : compF Try.prog (mset5 [] [48, 50] [] [] [] [53]) (cset [] [F_slices_Clone_api_Version] [] [F_version_Clone]) (wset [] []) Try.f25 = some c_queue_Queue_Push := by kernel_rfl
theorem ok_queue_Queue_Push : fnOk Try.prog F_queue_Queue_Push = true := by kernel_rfl
theorem calls_queue_Queue_Push {args : List AV} {r : AV} (h : RunsX Try.prog 0 (Gives [.t 4] r) [.c c_queue_Queue_Push] (args ++ List.replicate (54 - args.length) (.tup [])) [] zeroC) : PCalls Try.prog F_queue_Queue_Push args r :=
  pcallsF Try.checked.mixed Try.func25 ok_queue_Queue_Push comp_queue_Queue_Push rfl (rs := [.t 4]) (by kernel_rfl) h
theorem hcalls_queue_Queue_Push {args : List AV} {Hin Hout : Heap} {nx nx2 : Ctr} {r : AV} (φ : Nat) (ks : List (Nat × Nat)) (h : RunsX Try.prog φ (GivesH ks [.t 4] r Hout nx2) [.c c_queue_Queue_Push] (args ++ List.replicate (54 - args.length) (.tup [])) Hin nx) : HCalls Try.prog F_queue_Queue_Push args Hin nx r Hout nx2 :=
  hcallsF Try.checked.mixed Try.func25 ok_queue_Queue_Push comp_queue_Queue_Push rfl (rs := [.t 4]) (by kernel_rfl) φ ks h

/-- (*pedlar/queue.Queue).First: parameters [57], results [.cn 2 7, .t 3], calls version_Clone -/
def c_queue_Queue_First : Cd := (.seq (.reg [⟨(some 2), none, (.new [(.int .i64 0), (.int .i64 0), (.str ⟨#[]⟩), (.str ⟨#[]⟩), (.bool false), (.int .i64 0), .nils] 2), []⟩, ⟨(some 3), none, .mv, [.c (.int .i64 0)]⟩]) (.seq (.blk 0 [] (.seq (.reg [⟨(some 5), none, .mv, [.t 0]⟩, ⟨(some 6), none, (.eqp false), [.t 5, .c .nilp]⟩, ⟨(some 4), none, .mv, [.t 6]⟩]) (.cond (.t 4) (.seq (.reg [⟨(some 7), none, (.bld [(.int .i64 0), (.int .i64 0), (.str ⟨#[]⟩), (.str ⟨#[]⟩), (.bool false), (.int .i64 0), .nils] []), []⟩, ⟨none, none, (.st 7), [.t 2, .t 7]⟩, ⟨(some 3), none, .mv, [.c (.int .i64 1)]⟩]) .ret) (.seq (.reg [⟨(some 9), none, .mv, [.t 0]⟩, ⟨(some 10), none, .nck, [.t 9]⟩, ⟨(some 11), none, (.fa 0), [.t 10]⟩, ⟨(some 12), none, .ld1, [.t 11]⟩, ⟨(some 13), none, .len, [.t 12]⟩, ⟨(some 14), none, (.bin .eql), [.t 13, .c (.int .i64 0)]⟩, ⟨(some 8), none, .mv, [.t 14]⟩]) (.cond (.t 8) (.seq (.reg [⟨(some 15), none, (.bld [(.int .i64 0), (.int .i64 0), (.str ⟨#[]⟩), (.str ⟨#[]⟩), (.bool false), (.int .i64 0), .nils] []), []⟩, ⟨none, none, (.st 7), [.t 2, .t 15]⟩, ⟨(some 3), none, .mv, [.c (.int .i64 7)]⟩]) .ret) .skip))))) (.seq (.reg [⟨(some 16), none, .mv, [.t 0]⟩, ⟨(some 17), none, .nck, [.t 16]⟩, ⟨(some 18), none, (.fa 0), [.t 17]⟩, ⟨(some 19), none, .ld1, [.t 18]⟩, ⟨(some 20), none, (.ixS 7), [.t 19, .c (.int .i64 0)]⟩, ⟨(some 21), none, (.ldn 7), [.t 20]⟩, ⟨(some 22), none, (.call F_version_Clone 0), [.t 21]⟩, ⟨none, none, (.st 7), [.t 2, .t 22]⟩, ⟨(some 3), none, .mv, [.c (.int .i64 0)]⟩]) .ret)))
theorem comp_queue_Queue_First : compF Try.prog (mset [] [] []) (cset [] [] []) (wset [] []) Try.f27 = some c_queue_Queue_First := by kernel_rfl
theorem ok_queue_Queue_First : fnOk Try.prog F_queue_Queue_First = true := by kernel_rfl
theorem calls_queue_Queue_First {args : List AV} {r : AV} (h : RunsX Try.prog 0 (Gives [.cn 2 7, .t 3] r) [.c c_queue_Queue_First] (args ++ List.replicate (23 - args.length) (.tup [])) [] zeroC) : PCalls Try.prog F_queue_Queue_First args r :=
  pcallsF Try.checked.mixed Try.func27 ok_queue_Queue_First comp_queue_Queue_First rfl (rs := [.cn 2 7, .t 3]) (by kernel_rfl) h
theorem hcalls_queue_Queue_First {args : List AV} {Hin Hout : Heap} {nx nx2 : Ctr} {r : AV} (φ : Nat) (ks : List (Nat × Nat)) (h : RunsX Try.prog φ (GivesH ks [.cn 2 7, .t 3] r Hout nx2) [.c c_queue_Queue_First] (args ++ List.replicate (23 - args.length) (.tup [])) Hin nx) : HCalls Try.prog F_queue_Queue_First args Hin nx r Hout nx2 :=
  hcallsF Try.checked.mixed Try.func27 ok_queue_Queue_First comp_queue_Queue_First rfl (rs := [.cn 2 7, .t 3]) (by kernel_rfl) φ ks h

/-- (*pedlar/queue.Queue).Pop: parameters [57, 2], results [.t 4], calls  -/
def c_queue_Queue_Pop : Cd := (.seq (.reg [⟨(some 4), none, .mv, [.c (.int .i64 0)]⟩]) (.seq (.blk 0 [] (.seq (.reg [⟨(some 6), none, .mv, [.t 0]⟩, ⟨(some 7), none, (.eqp false), [.t 6, .c .nilp]⟩, ⟨(some 5), none, .mv, [.t 7]⟩]) (.cond (.t 5) (.seq (.reg [⟨(some 4), none, .mv, [.c (.int .i64 1)]⟩]) .ret) (.seq (.reg [⟨(some 9), none, .mv, [.t 0]⟩, ⟨(some 10), none, .nck, [.t 9]⟩, ⟨(some 11), none, (.fa 0), [.t 10]⟩, ⟨(some 12), none, .ld1, [.t 11]⟩, ⟨(some 13), none, .len, [.t 12]⟩, ⟨(some 14), none, (.bin .eql), [.t 13, .c (.int .i64 0)]⟩, ⟨(some 15), none, .mv, [.t 14]⟩, ⟨(some 16), (some (15, false)), .mv, [.t 0]⟩, ⟨(some 17), (some (15, false)), .nck, [.t 16]⟩, ⟨(some 18), (some (15, false)), (.fa 0), [.t 17]⟩, ⟨(some 19), (some (15, false)), .ld1, [.t 18]⟩, ⟨(some 20), (some (15, false)), (.ixS 7), [.t 19, .c (.int .i64 0)]⟩, ⟨(some 21), (some (15, false)), (.fa 1), [.t 20]⟩, ⟨(some 22), (some (15, false)), .ld1, [.t 21]⟩, ⟨(some 23), (some (15, false)), .mv, [.t 1]⟩, ⟨(some 24), (some (15, false)), (.bin .neq), [.t 22, .t 23]⟩, ⟨(some 25), none, .pick, [.t 15, .c (.bool true), .t 24]⟩, ⟨(some 8), none, .mv, [.t 25]⟩]) (.cond (.t 8) (.seq (.reg [⟨(some 4), none, .mv, [.c (.int .i64 7)]⟩]) .ret) .skip))))) (.seq (.reg [⟨(some 26), none, .mv, [.t 0]⟩, ⟨(some 27), none, .mv, [.t 0]⟩, ⟨(some 28), none, .nck, [.t 27]⟩, ⟨(some 29), none, (.fa 0), [.t 28]⟩, ⟨(some 30), none, .ld1, [.t 29]⟩, ⟨(some 31), none, (.slc 7 true false false), [.t 30, .c (.int .i64 1)]⟩, ⟨(some 32), none, .nck, [.t 26]⟩, ⟨(some 33), none, (.fa 0), [.t 32]⟩, ⟨none, none, (.st 1), [.t 33, .t 31]⟩]) (.seq (.reg [⟨(some 4), none, .mv, [.c (.int .i64 0)]⟩]) .ret))))
theorem comp_queue_Queue_Pop : compF Try.prog (mset [] [] []) (cset [] [] []) (wset [] []) Try.f24 = some c_queue_Queue_Pop := by kernel_rfl
theorem ok_queue_Queue_Pop : fnOk Try.prog F_queue_Queue_Pop = true := by kernel_rfl
theorem calls_queue_Queue_Pop {args : List AV} {r : AV} (h : RunsX Try.prog 0 (Gives [.t 4] r) [.c c_queue_Queue_Pop] (args ++ List.replicate (34 - args.length) (.tup [])) [] zeroC) : PCalls Try.prog F_queue_Queue_Pop args r :=
  pcallsF Try.checked.mixed Try.func24 ok_queue_Queue_Pop comp_queue_Queue_Pop rfl (rs := [.t 4]) (by kernel_rfl) h
theorem hcalls_queue_Queue_Pop {args : List AV} {Hin Hout : Heap} {nx nx2 : Ctr} {r : AV} (φ : Nat) (ks : List (Nat × Nat)) (h : RunsX Try.prog φ (GivesH ks [.t 4] r Hout nx2) [.c c_queue_Queue_Pop] (args ++ List.replicate (34 - args.length) (.tup [])) Hin nx) : HCalls Try.prog F_queue_Queue_Pop args Hin nx r Hout nx2 :=
  hcallsF Try.checked.mixed Try.func24 ok_queue_Queue_Pop comp_queue_Queue_Pop rfl (rs := [.t 4]) (by kernel_rfl) φ ks h

/-- (*pedlar/queue.Queue).Has: parameters [57, 9], results [.t 4], calls slices_ContainsFunc_api_Version -/
def c_queue_Queue_Has : Cd := (.seq (.reg [⟨(some 3), none, .box, [.t 1]⟩, ⟨(some 4), none, .mv, [.c (.bool false)]⟩]) (.seq (.reg [⟨(some 5), none, .mv, [.t 0]⟩, ⟨(some 6), none, (.eqp true), [.t 5, .c .nilp]⟩, ⟨(some 7), none, .mv, [.t 6]⟩, ⟨(some 8), (some (7, true)), .mv, [.t 0]⟩, ⟨(some 9), (some (7, true)), .nck, [.t 8]⟩, ⟨(some 10), (some (7, true)), (.fa 0), [.t 9]⟩, ⟨(some 11), (some (7, true)), .ld1, [.t 10]⟩, ⟨(some 12), (some (7, true)), (.mkf 97), [.t 3]⟩, ⟨(some 13), (some (7, true)), (.call F_slices_ContainsFunc_api_Version 0), [.t 11, .t 12]⟩, ⟨(some 14), none, .pick, [.t 7, .t 13, .c (.bool false)]⟩, ⟨(some 4), none, .mv, [.t 14]⟩]) .ret))
theorem comp_queue_Queue_Has : compF Try.prog (mset [] [] []) (cset [] [] []) (wset [] []) Try.f31 = some c_queue_Queue_Has := by kernel_rfl
theorem ok_queue_Queue_Has : fnOk Try.prog F_queue_Queue_Has = true := by kernel_rfl
theorem calls_queue_Queue_Has {args : List AV} {r : AV} (h : RunsX Try.prog 0 (Gives [.t 4] r) [.c c_queue_Queue_Has] (args ++ List.replicate (15 - args.length) (.tup [])) [] zeroC) : PCalls Try.prog F_queue_Queue_Has args r :=
  pcallsF Try.checked.mixed Try.func31 ok_queue_Queue_Has comp_queue_Queue_Has rfl (rs := [.t 4]) (by kernel_rfl) h
theorem hcalls_queue_Queue_Has {args : List AV} {Hin Hout : Heap} {nx nx2 : Ctr} {r : AV} (φ : Nat) (ks : List (Nat × Nat)) (h : RunsX Try.prog φ (GivesH ks [.t 4] r Hout nx2) [.c c_queue_Queue_Has] (args ++ List.replicate (15 - args.length) (.tup [])) Hin nx) : HCalls Try.prog F_queue_Queue_Has args Hin nx r Hout nx2 :=
  hcallsF Try.checked.mixed Try.func31 ok_queue_Queue_Has comp_queue_Queue_Has rfl (rs := [.t 4]) (by kernel_rfl) φ ks h

/-- (*pedlar/queue.Queue).All: parameters [57], results [.t 2], calls version_CloneAll -/
def c_queue_Queue_All : Cd := (.seq (.reg [⟨(some 2), none, .mv, [.c .nils]⟩]) (.seq (.seq (.reg [⟨(some 3), none, .mv, [.t 0]⟩, ⟨(some 4), none, (.eqp false), [.t 3, .c .nilp]⟩]) (.cond (.t 4) (.seq (.reg [⟨(some 2), none, .mv, [.c .nils]⟩]) .ret) .skip)) (.seq (.reg [⟨(some 5), none, .mv, [.t 0]⟩, ⟨(some 6), none, .nck, [.t 5]⟩, ⟨(some 7), none, (.fa 0), [.t 6]⟩, ⟨(some 8), none, .ld1, [.t 7]⟩, ⟨(some 9), none, (.call F_version_CloneAll 0), [.t 8]⟩, ⟨(some 2), none, .mv, [.t 9]⟩]) .ret)))
theorem comp_queue_Queue_All : compF Try.prog (mset [] [] []) (cset [] [] []) (wset [] []) Try.f29 = some c_queue_Queue_All := by kernel_rfl
theorem ok_queue_Queue_All : fnOk Try.prog F_queue_Queue_All = true := by kernel_rfl
theorem calls_queue_Queue_All {args : List AV} {r : AV} (h : RunsX Try.prog 0 (Gives [.t 2] r) [.c c_queue_Queue_All] (args ++ List.replicate (10 - args.length) (.tup [])) [] zeroC) : PCalls Try.prog F_queue_Queue_All args r :=
  pcallsF Try.checked.mixed Try.func29 ok_queue_Queue_All comp_queue_Queue_All rfl (rs := [.t 2]) (by kernel_rfl) h
theorem hcalls_queue_Queue_All {args : List AV} {Hin Hout : Heap} {nx nx2 : Ctr} {r : AV} (φ : Nat) (ks : List (Nat × Nat)) (h : RunsX Try.prog φ (GivesH ks [.t 2] r Hout nx2) [.c c_queue_Queue_All] (args ++ List.replicate (10 - args.length) (.tup [])) Hin nx) : HCalls Try.prog F_queue_Queue_All args Hin nx r Hout nx2 :=
  hcallsF Try.checked.mixed Try.func29 ok_queue_Queue_All comp_queue_Queue_All rfl (rs := [.t 2]) (by kernel_rfl) φ ks h

/-- (*pedlar/queue.Queue).Len: parameters [57], results [.t 2], calls  -/
def c_queue_Queue_Len : Cd := (.seq (.reg [⟨(some 2), none, .mv, [.c (.int .i64 0)]⟩]) (.seq (.seq (.reg [⟨(some 3), none, .mv, [.t 0]⟩, ⟨(some 4), none, (.eqp false), [.t 3, .c .nilp]⟩]) (.cond (.t 4) (.seq (.reg [⟨(some 2), none, .mv, [.c (.int .i64 0)]⟩]) .ret) .skip)) (.seq (.reg [⟨(some 5), none, .mv, [.t 0]⟩, ⟨(some 6), none, .nck, [.t 5]⟩, ⟨(some 7), none, (.fa 0), [.t 6]⟩, ⟨(some 8), none, .ld1, [.t 7]⟩, ⟨(some 9), none, .len, [.t 8]⟩, ⟨(some 2), none, .mv, [.t 9]⟩]) .ret)))
theorem comp_queue_Queue_Len : compF Try.prog (mset [] [] []) (cset [] [] []) (wset [] []) Try.f30 = some c_queue_Queue_Len := by kernel_rfl
theorem ok_queue_Queue_Len : fnOk Try.prog F_queue_Queue_Len = true := by kernel_rfl
theorem calls_queue_Queue_Len {args : List AV} {r : AV} (h : RunsX Try.prog 0 (Gives [.t 2] r) [.c c_queue_Queue_Len] (args ++ List.replicate (10 - args.length) (.tup [])) [] zeroC) : PCalls Try.prog F_queue_Queue_Len args r :=
  pcallsF Try.checked.mixed Try.func30 ok_queue_Queue_Len comp_queue_Queue_Len rfl (rs := [.t 2]) (by kernel_rfl) h
theorem hcalls_queue_Queue_Len {args : List AV} {Hin Hout : Heap} {nx nx2 : Ctr} {r : AV} (φ : Nat) (ks : List (Nat × Nat)) (h : RunsX Try.prog φ (GivesH ks [.t 2] r Hout nx2) [.c c_queue_Queue_Len] (args ++ List.replicate (10 - args.length) (.tup [])) Hin nx) : HCalls Try.prog F_queue_Queue_Len args Hin nx r Hout nx2 :=
  hcallsF Try.checked.mixed Try.func30 ok_queue_Queue_Len comp_queue_Queue_Len rfl (rs := [.t 2]) (by kernel_rfl) φ ks h

/-- (*pedlar/queue.Queue).Clone: parameters [57], results [.t 2], calls queue_Queue_All -/
def c_queue_Queue_Clone : Cd := (.seq (.reg [⟨(some 2), none, .mv, [.c .nilp]⟩]) (.seq (.seq (.reg [⟨(some 3), none, .mv, [.t 0]⟩, ⟨(some 4), none, (.eqp false), [.t 3, .c .nilp]⟩]) (.cond (.t 4) (.seq (.reg [⟨(some 2), none, .mv, [.c .nilp]⟩]) .ret) .skip)) (.seq (.reg [⟨(some 5), none, .mv, [.t 0]⟩, ⟨(some 6), none, (.call F_queue_Queue_All 2), [.t 5]⟩, ⟨(some 7), none, (.bld [.nils] [(0, 1)]), [.t 6]⟩, ⟨(some 8), none, .box, [.t 7]⟩, ⟨(some 2), none, .mv, [.t 8]⟩]) .ret)))
theorem comp_queue_Queue_Clone : compF Try.prog (mset [] [] []) (cset [] [F_queue_Queue_All] []) (wset [] []) Try.f32 = some c_queue_Queue_Clone := by kernel_rfl
theorem ok_queue_Queue_Clone : fnOk Try.prog F_queue_Queue_Clone = true := by kernel_rfl
theorem calls_queue_Queue_Clone {args : List AV} {r : AV} (h : RunsX Try.prog 0 (Gives [.t 2] r) [.c c_queue_Queue_Clone] (args ++ List.replicate (9 - args.length) (.tup [])) [] zeroC) : PCalls Try.prog F_queue_Queue_Clone args r :=
  pcallsF Try.checked.mixed Try.func32 ok_queue_Queue_Clone comp_queue_Queue_Clone rfl (rs := [.t 2]) (by kernel_rfl) h
theorem hcalls_queue_Queue_Clone {args : List AV} {Hin Hout : Heap} {nx nx2 : Ctr} {r : AV} (φ : Nat) (ks : List (Nat × Nat)) (h : RunsX Try.prog φ (GivesH ks [.t 2] r Hout nx2) [.c c_queue_Queue_Clone] (args ++ List.replicate (9 - args.length) (.tup [])) Hin nx) : HCalls Try.prog F_queue_Queue_Clone args Hin nx r Hout nx2 :=
  hcallsF Try.checked.mixed Try.func32 ok_queue_Queue_Clone comp_queue_Queue_Clone rfl (rs := [.t 2]) (by kernel_rfl) φ ks h

/-- pedlar/pedlarlaw11.awake: parameters [], results [.t 0], calls queue_Queue_First -/
def c_law11_awake : Cd := (.seq (.reg [⟨(some 0), none, .mv, [.c (.bool false)]⟩]) (.seq (.reg [⟨(some 1), none, (.new [.nils] 1), []⟩]) (.seq (.reg [⟨(some 5), none, (.call F_queue_Queue_First 2), [.t 1]⟩, ⟨(some 4), none, .mv, [.t 5]⟩, ⟨(some 6), none, (.ext 0), [.t 4]⟩, ⟨(some 7), none, (.ext 1), [.t 4]⟩, ⟨(some 2), none, (.new [(.int .i64 0), (.int .i64 0), (.str ⟨#[]⟩), (.str ⟨#[]⟩), (.bool false), (.int .i64 0), .nils] 2), []⟩, ⟨none, none, (.st 7), [.t 2, .t 6]⟩, ⟨(some 3), none, .mv, [.t 7]⟩]) (.seq (.reg [⟨(some 8), none, .mv, [.t 3]⟩, ⟨(some 9), none, (.bin .eql), [.t 8, .c (.int .i64 7)]⟩, ⟨(some 0), none, .mv, [.t 9]⟩]) .ret))))
theorem comp_law11_awake : compF Try.prog (mset [] [] []) (cset [] [F_queue_Queue_First] []) (wset [] []) Try.f22 = some c_law11_awake := by kernel_rfl
theorem ok_law11_awake : fnOk Try.prog F_law11_awake = true := by kernel_rfl
theorem calls_law11_awake {args : List AV} {r : AV} (h : RunsX Try.prog 0 (Gives [.t 0] r) [.c c_law11_awake] (args ++ List.replicate (10 - args.length) (.tup [])) [] zeroC) : PCalls Try.prog F_law11_awake args r :=
  pcallsF Try.checked.mixed Try.func22 ok_law11_awake comp_law11_awake rfl (rs := [.t 0]) (by kernel_rfl) h
theorem hcalls_law11_awake {args : List AV} {Hin Hout : Heap} {nx nx2 : Ctr} {r : AV} (φ : Nat) (ks : List (Nat × Nat)) (h : RunsX Try.prog φ (GivesH ks [.t 0] r Hout nx2) [.c c_law11_awake] (args ++ List.replicate (10 - args.length) (.tup [])) Hin nx) : HCalls Try.prog F_law11_awake args Hin nx r Hout nx2 :=
  hcallsF Try.checked.mixed Try.func22 ok_law11_awake comp_law11_awake rfl (rs := [.t 0]) (by kernel_rfl) φ ks h

/-- pedlar/pedlarlaw11.QueuePlays: parameters [36, 9], results [.t 4], calls law11_awake, law07_Few, queue_Queue_Pop, queue_Queue_Push, ref04_VRight, queue_Queue_First, queue_Queue_All, ref04_VSameAll, queue_Queue_Len, queue_Queue_Has, queue_Queue_Clone, ref04_VSame -/
def wl_law11_QueuePlays_3 : Mk := ⟨[false, false, true, true, true, false, false, true, true, false, false, false, true, true, true, true, true, true, true, true, true, true, true, true, true, true, true, true, true, false, false, true, true, true, true, true, true, true, true, true, true, true, true, true, true, true, true, true, true, true, true, true, true, true, true, true, true, true, true, true, true, true, true, true, true, true, true, true, true, true, true, true, true, true, true, true, true, true, true, true, true, true, true, true, true, true, true, true, true, true, true, true, true, true, true, true, true, true, true, false, false, true, true, true, true, true, true, true, true, true, true, true, true, true, true, true, true, true, true, true, true, true, true, true, true, true, true, true, true, true, true, true, true, true, true, true, true, true, true, true, true, true, true, true, true, true, true, true, true, true, true, true, true, true, true, true, true, true, true, true, true, true, true, true, true, true, true, true, true, true, true], [8, 13]⟩
abbrev s_law11_QueuePlays_3 (t0 t1 t5 t6 t9 t10 t11 t29 t30 t99 t100 : AV) : List AV := [t0, t1, .any, .any, .any, t5, t6, .any, .any, t9, t10, t11, .any, .any, .any, .any, .any, .any, .any, .any, .any, .any, .any, .any, .any, .any, .any, .any, .any, t29, t30, .any, .any, .any, .any, .any, .any, .any, .any, .any, .any, .any, .any, .any, .any, .any, .any, .any, .any, .any, .any, .any, .any, .any, .any, .any, .any, .any, .any, .any, .any, .any, .any, .any, .any, .any, .any, .any, .any, .any, .any, .any, .any, .any, .any, .any, .any, .any, .any, .any, .any, .any, .any, .any, .any, .any, .any, .any, .any, .any, .any, .any, .any, .any, .any, .any, .any, .any, .any, t99, t100, .any, .any, .any, .any, .any, .any, .any, .any, .any, .any, .any, .any, .any, .any, .any, .any, .any, .any, .any, .any, .any, .any, .any, .any, .any, .any, .any, .any, .any, .any, .any, .any, .any, .any, .any, .any, .any, .any, .any, .any, .any, .any, .any, .any, .any, .any, .any, .any, .any, .any, .any, .any, .any, .any, .any, .any, .any, .any, .any, .any, .any, .any, .any, .any, .any, .any, .any, .any, .any, .any]
def c_law11_QueuePlays_l3 : Cd := (.seq (.reg [⟨(some 101), none, (.bin .lss), [.t 100, .t 99]⟩]) (.seq (.cond (.t 101) .skip (.exit 3)) (.seq (.blk 4 [] (.seq (.reg [⟨(some 102), none, .mv, [.t 100]⟩, ⟨(some 12), none, .mv, [.t 102]⟩]) (.reg [⟨(some 103), none, .mv, [.t 11]⟩, ⟨(some 104), none, .mv, [.t 103]⟩, ⟨(some 105), (some (104, false)), .mv, [.t 6]⟩, ⟨(some 106), (some (104, false)), .mv, [.t 12]⟩, ⟨(some 107), (some (104, false)), (.ixS 7), [.t 105, .t 106]⟩, ⟨(some 108), (some (104, false)), (.fa 2), [.t 107]⟩, ⟨(some 109), (some (104, false)), .ld1, [.t 108]⟩, ⟨(some 110), (some (104, false)), .mv, [.t 1]⟩, ⟨(some 111), (some (104, false)), (.bin .eql), [.t 109, .t 110]⟩, ⟨(some 112), none, .pick, [.t 104, .c (.bool true), .t 111]⟩, ⟨(some 11), none, .mv, [.t 112]⟩]))) (.reg [⟨(some 113), none, (.bin .add), [.t 100, .c (.int .i64 1)]⟩, ⟨(some 100), none, .mv, [.t 113]⟩]))))
def wb_law11_QueuePlays_3 : List Bool := [false, false, true, true, true, false, false, true, true, false, false, false, true, true, true, true, true, true, true, true, true, true, true, true, true, true, true, true, true, false, false, true, true, true, true, true, true, true, true, true, true, true, true, true, true, true, true, true, true, true, true, true, true, true, true, true, true, true, true, true, true, true, true, true, true, true, true, true, true, true, true, true, true, true, true, true, true, true, true, true, true, true, true, true, true, true, true, true, true, true, true, true, true, true, true, true, true, true, true, true, true, true, true, true, true, true, true, true, true, true, true, true, true, true, true, true, true, true, true, true, true, true, true, true, true, true, true, true, true, true, true, true, true, true, true, true, true, true, true, true, true, true, true, true, true, true, true, true, true, true, true, true, true, true, true, true, true, true, true, true, true, true, true, true, true, true, true, true, true, true, true]
abbrev e_law11_QueuePlays_3 (t0 t1 t5 t6 t9 t10 t11 t29 t30 : AV) : List AV := [t0, t1, .any, .any, .any, t5, t6, .any, .any, t9, t10, t11, .any, .any, .any, .any, .any, .any, .any, .any, .any, .any, .any, .any, .any, .any, .any, .any, .any, t29, t30, .any, .any, .any, .any, .any, .any, .any, .any, .any, .any, .any, .any, .any, .any, .any, .any, .any, .any, .any, .any, .any, .any, .any, .any, .any, .any, .any, .any, .any, .any, .any, .any, .any, .any, .any, .any, .any, .any, .any, .any, .any, .any, .any, .any, .any, .any, .any, .any, .any, .any, .any, .any, .any, .any, .any, .any, .any, .any, .any, .any, .any, .any, .any, .any, .any, .any, .any, .any, .any, .any, .any, .any, .any, .any, .any, .any, .any, .any, .any, .any, .any, .any, .any, .any, .any, .any, .any, .any, .any, .any, .any, .any, .any, .any, .any, .any, .any, .any, .any, .any, .any, .any, .any, .any, .any, .any, .any, .any, .any, .any, .any, .any, .any, .any, .any, .any, .any, .any, .any, .any, .any, .any, .any, .any, .any, .any, .any, .any, .any, .any, .any, .any, .any, .any, .any, .any, .any, .any, .any, .any]
abbrev i_law11_QueuePlays_3 : List It := [.lp wl_law11_QueuePlays_3 c_law11_QueuePlays_l3, .blk 3 wb_law11_QueuePlays_3]
def c_law11_QueuePlays_k0 : Cd := (.seq (.reg [⟨(some 115), none, (.call F_queue_Queue_First 2), [.t 5]⟩, ⟨(some 114), none, .mv, [.t 115]⟩, ⟨(some 116), none, (.ext 0), [.t 114]⟩, ⟨(some 117), none, (.ext 1), [.t 114]⟩, ⟨(some 13), none, (.new [(.int .i64 0), (.int .i64 0), (.str ⟨#[]⟩), (.str ⟨#[]⟩), (.bool false), (.int .i64 0), .nils] 13), []⟩, ⟨none, none, (.st 7), [.t 13, .t 116]⟩, ⟨(some 14), none, .mv, [.t 117]⟩]) (.seq (.seq (.reg [⟨(some 118), none, .mv, [.t 9]⟩, ⟨(some 119), none, .mv, [.t 10]⟩, ⟨(some 120), none, (.bin .neq), [.t 118, .t 119]⟩, ⟨(some 121), none, .mv, [.t 120]⟩, ⟨(some 122), (some (121, false)), (.call F_queue_Queue_All 2), [.t 5]⟩, ⟨(some 123), (some (121, false)), .mv, [.t 6]⟩, ⟨(some 124), (some (121, false)), (.call F_ref04_VSameAll 0), [.t 122, .t 123]⟩, ⟨(some 125), (some (121, false)), .not, [.t 124]⟩, ⟨(some 126), none, .pick, [.t 121, .c (.bool true), .t 125]⟩, ⟨(some 127), none, .mv, [.t 126]⟩, ⟨(some 128), (some (127, false)), (.call F_queue_Queue_Len 2), [.t 5]⟩, ⟨(some 129), (some (127, false)), .mv, [.t 6]⟩, ⟨(some 130), (some (127, false)), .len, [.t 129]⟩, ⟨(some 131), (some (127, false)), (.bin .neq), [.t 128, .t 130]⟩, ⟨(some 132), none, .pick, [.t 127, .c (.bool true), .t 131]⟩, ⟨(some 133), none, .mv, [.t 132]⟩, ⟨(some 134), (some (133, false)), .mv, [.t 1]⟩, ⟨(some 135), (some (133, false)), (.call F_queue_Queue_Has 2), [.t 5, .t 134]⟩, ⟨(some 136), (some (133, false)), .mv, [.t 11]⟩, ⟨(some 137), (some (133, false)), (.eqb true), [.t 135, .t 136]⟩, ⟨(some 138), none, .pick, [.t 133, .c (.bool true), .t 137]⟩, ⟨(some 139), none, .mv, [.t 138]⟩, ⟨(some 140), (some (139, false)), (.call F_queue_Queue_Clone 2), [.t 5]⟩, ⟨(some 141), (some (139, false)), (.call F_queue_Queue_All 2), [.t 140]⟩, ⟨(some 142), (some (139, false)), .mv, [.t 6]⟩, ⟨(some 143), (some (139, false)), (.call F_ref04_VSameAll 0), [.t 141, .t 142]⟩, ⟨(some 144), (some (139, false)), .not, [.t 143]⟩, ⟨(some 145), none, .pick, [.t 139, .c (.bool true), .t 144]⟩]) (.cond (.t 145) (.seq (.reg [⟨(some 4), none, .mv, [.c (.bool false)]⟩]) .ret) .skip)) (.seq (.reg [⟨(some 146), none, .mv, [.t 6]⟩, ⟨(some 147), none, .len, [.t 146]⟩, ⟨(some 148), none, (.bin .eql), [.t 147, .c (.int .i64 0)]⟩, ⟨(some 149), none, .mv, [.t 148]⟩, ⟨(some 150), (some (149, true)), .mv, [.t 14]⟩, ⟨(some 151), (some (149, true)), (.bin .neq), [.t 150, .c (.int .i64 7)]⟩, ⟨(some 152), none, .pick, [.t 149, .t 151, .c (.bool false)]⟩, ⟨(some 153), none, .mv, [.t 152]⟩, ⟨(some 154), (some (153, false)), .mv, [.t 6]⟩, ⟨(some 155), (some (153, false)), .len, [.t 154]⟩, ⟨(some 156), (some (153, false)), (.bin .gtr), [.t 155, .c (.int .i64 0)]⟩, ⟨(some 157), (some (153, false)), .mv, [.t 156]⟩, ⟨(some 158), (some (157, true)), .mv, [.t 14]⟩, ⟨(some 159), (some (157, true)), (.bin .neq), [.t 158, .c (.int .i64 0)]⟩, ⟨(some 160), (some (157, true)), .mv, [.t 159]⟩, ⟨(some 161), (some (160, false)), (.ldn 7), [.t 13]⟩, ⟨(some 162), (some (160, false)), .mv, [.t 6]⟩, ⟨(some 163), (some (160, false)), (.ixS 7), [.t 162, .c (.int .i64 0)]⟩, ⟨(some 164), (some (160, false)), (.ldn 7), [.t 163]⟩, ⟨(some 165), (some (160, false)), (.call F_ref04_VSame 0), [.t 161, .t 164]⟩, ⟨(some 166), (some (160, false)), .not, [.t 165]⟩, ⟨(some 167), (some (157, true)), .pick, [.t 160, .c (.bool true), .t 166]⟩, ⟨(some 168), (some (153, false)), .pick, [.t 157, .t 167, .c (.bool false)]⟩, ⟨(some 169), none, .pick, [.t 153, .c (.bool true), .t 168]⟩]) (.cond (.t 169) (.seq (.reg [⟨(some 4), none, .mv, [.c (.bool false)]⟩]) .ret) .skip))))
def wb_law11_QueuePlays_1 : List Bool := [false, false, true, true, true, false, false, true, true, true, true, true, true, true, true, true, true, true, true, true, true, true, true, true, true, true, true, true, true, false, false, true, true, true, true, true, true, true, true, true, true, true, true, true, true, true, true, true, true, true, true, true, true, true, true, true, true, true, true, true, true, true, true, true, true, true, true, true, true, true, true, true, true, true, true, true, true, true, true, true, true, true, true, true, true, true, true, true, true, true, true, true, true, true, true, true, true, true, true, true, true, true, true, true, true, true, true, true, true, true, true, true, true, true, true, true, true, true, true, true, true, true, true, true, true, true, true, true, true, true, true, true, true, true, true, true, true, true, true, true, true, true, true, true, true, true, true, true, true, true, true, true, true, true, true, true, true, true, true, true, true, true, true, true, true, true, true, true, true, true, true]
abbrev e_law11_QueuePlays_1 (t0 t1 t5 t6 t29 t30 : AV) : List AV := [t0, t1, .any, .any, .any, t5, t6, .any, .any, .any, .any, .any, .any, .any, .any, .any, .any, .any, .any, .any, .any, .any, .any, .any, .any, .any, .any, .any, .any, t29, t30, .any, .any, .any, .any, .any, .any, .any, .any, .any, .any, .any, .any, .any, .any, .any, .any, .any, .any, .any, .any, .any, .any, .any, .any, .any, .any, .any, .any, .any, .any, .any, .any, .any, .any, .any, .any, .any, .any, .any, .any, .any, .any, .any, .any, .any, .any, .any, .any, .any, .any, .any, .any, .any, .any, .any, .any, .any, .any, .any, .any, .any, .any, .any, .any, .any, .any, .any, .any, .any, .any, .any, .any, .any, .any, .any, .any, .any, .any, .any, .any, .any, .any, .any, .any, .any, .any, .any, .any, .any, .any, .any, .any, .any, .any, .any, .any, .any, .any, .any, .any, .any, .any, .any, .any, .any, .any, .any, .any, .any, .any, .any, .any, .any, .any, .any, .any, .any, .any, .any, .any, .any, .any, .any, .any, .any, .any, .any, .any, .any, .any, .any, .any, .any, .any, .any, .any, .any, .any, .any, .any]
def c_law11_QueuePlays_k1 : Cd := (.reg [⟨(some 170), none, (.bin .add), [.t 30, .c (.int .i64 1)]⟩, ⟨(some 30), none, .mv, [.t 170]⟩])
def wl_law11_QueuePlays_0 : Mk := ⟨[false, false, true, true, true, false, false, true, true, true, true, true, true, true, true, true, true, true, true, true, true, true, true, true, true, true, true, true, true, false, false, true, true, true, true, true, true, true, true, true, true, true, true, true, true, true, true, true, true, true, true, true, true, true, true, true, true, true, true, true, true, true, true, true, true, true, true, true, true, true, true, true, true, true, true, true, true, true, true, true, true, true, true, true, true, true, true, true, true, true, true, true, true, true, true, true, true, true, true, true, true, true, true, true, true, true, true, true, true, true, true, true, true, true, true, true, true, true, true, true, true, true, true, true, true, true, true, true, true, true, true, true, true, true, true, true, true, true, true, true, true, true, true, true, true, true, true, true, true, true, true, true, true, true, true, true, true, true, true, true, true, true, true, true, true, true, true, true, true, true, true], [8, 13]⟩
abbrev s_law11_QueuePlays_0 (t0 t1 t5 t6 t29 t30 : AV) : List AV := [t0, t1, .any, .any, .any, t5, t6, .any, .any, .any, .any, .any, .any, .any, .any, .any, .any, .any, .any, .any, .any, .any, .any, .any, .any, .any, .any, .any, .any, t29, t30, .any, .any, .any, .any, .any, .any, .any, .any, .any, .any, .any, .any, .any, .any, .any, .any, .any, .any, .any, .any, .any, .any, .any, .any, .any, .any, .any, .any, .any, .any, .any, .any, .any, .any, .any, .any, .any, .any, .any, .any, .any, .any, .any, .any, .any, .any, .any, .any, .any, .any, .any, .any, .any, .any, .any, .any, .any, .any, .any, .any, .any, .any, .any, .any, .any, .any, .any, .any, .any, .any, .any, .any, .any, .any, .any, .any, .any, .any, .any, .any, .any, .any, .any, .any, .any, .any, .any, .any, .any, .any, .any, .any, .any, .any, .any, .any, .any, .any, .any, .any, .any, .any, .any, .any, .any, .any, .any, .any, .any, .any, .any, .any, .any, .any, .any, .any, .any, .any, .any, .any, .any, .any, .any, .any, .any, .any, .any, .any, .any, .any, .any, .any, .any, .any, .any, .any, .any, .any, .any, .any]
def c_law11_QueuePlays_l0 : Cd := (.seq (.reg [⟨(some 31), none, (.bin .lss), [.t 30, .t 29]⟩]) (.seq (.cond (.t 31) .skip (.exit 0)) (.seq (.blk 1 wb_law11_QueuePlays_1 (.seq (.reg [⟨(some 32), none, .mv, [.t 30]⟩, ⟨(some 7), none, .mv, [.t 32]⟩]) (.seq (.reg [⟨(some 33), none, .mv, [.t 0]⟩, ⟨(some 34), none, .mv, [.t 7]⟩, ⟨(some 35), none, (.ixS 9), [.t 33, .t 34]⟩, ⟨(some 36), none, (.ldn 9), [.t 35]⟩, ⟨(some 8), none, (.new [(.bool false), (.int .i64 0), (.int .i64 0), (.int .i64 0), (.str ⟨#[]⟩), (.str ⟨#[]⟩), (.bool false), (.int .i64 0), .nils] 8), []⟩, ⟨none, none, (.st 9), [.t 8, .t 36]⟩]) (.seq (.seq (.reg [⟨(some 37), none, (.fa 2), [.t 8]⟩, ⟨(some 38), none, (.ldn 7), [.t 37]⟩, ⟨(some 39), none, (.lit 7 1), [.t 38]⟩, ⟨(some 40), none, (.call F_law07_Few 0), [.t 39]⟩, ⟨(some 41), none, .not, [.t 40]⟩]) (.cond (.t 41) (.seq (.reg [⟨(some 4), none, .mv, [.c (.bool true)]⟩]) .ret) .skip)) (.seq (.reg [⟨(some 9), none, .mv, [.c (.int .i64 0)]⟩, ⟨(some 10), none, .mv, [.c (.int .i64 0)]⟩]) (.seq (.seq (.reg [⟨(some 42), none, (.fa 0), [.t 8]⟩, ⟨(some 43), none, .ld1, [.t 42]⟩]) (.cond (.t 43) (.seq (.reg [⟨(some 44), none, (.fa 1), [.t 8]⟩, ⟨(some 45), none, .ld1, [.t 44]⟩, ⟨(some 46), none, (.call F_queue_Queue_Pop 2), [.t 5, .t 45]⟩, ⟨(some 9), none, .mv, [.t 46]⟩]) (.seq (.reg [⟨(some 47), none, .mv, [.t 6]⟩, ⟨(some 48), none, .len, [.t 47]⟩, ⟨(some 49), none, (.bin .eql), [.t 48, .c (.int .i64 0)]⟩, ⟨(some 50), none, .mv, [.t 49]⟩, ⟨(some 51), (some (50, false)), .mv, [.t 6]⟩, ⟨(some 52), (some (50, false)), (.ixS 7), [.t 51, .c (.int .i64 0)]⟩, ⟨(some 53), (some (50, false)), (.fa 1), [.t 52]⟩, ⟨(some 54), (some (50, false)), .ld1, [.t 53]⟩, ⟨(some 55), (some (50, false)), (.fa 1), [.t 8]⟩, ⟨(some 56), (some (50, false)), .ld1, [.t 55]⟩, ⟨(some 57), (some (50, false)), (.bin .neq), [.t 54, .t 56]⟩, ⟨(some 58), none, .pick, [.t 50, .c (.bool true), .t 57]⟩]) (.cond (.t 58) (.reg [⟨(some 10), none, .mv, [.c (.int .i64 7)]⟩]) (.regf [⟨(some 59), none, .mv, [.t 6]⟩, ⟨(some 60), none, (.slc 7 true false false), [.t 59, .c (.int .i64 1)]⟩, ⟨(some 6), none, .mv, [.t 60]⟩] [6])))) (.seq (.reg [⟨(some 61), none, (.fa 2), [.t 8]⟩, ⟨(some 62), none, (.ldn 7), [.t 61]⟩, ⟨(some 63), none, (.call F_queue_Queue_Push 2), [.t 5, .t 62]⟩, ⟨(some 9), none, .mv, [.t 63]⟩]) (.blk 2 [] (.seq (.reg [⟨(some 72), none, (.fa 2), [.t 8]⟩, ⟨(some 73), none, (.ldn 7), [.t 72]⟩, ⟨(some 74), none, (.call F_ref04_VRight 0), [.t 73]⟩, ⟨(some 75), none, .not, [.t 74]⟩, ⟨(some 76), none, .mv, [.t 75]⟩, ⟨(some 77), (some (76, false)), .mv, [.t 6]⟩, ⟨(some 78), (some (76, false)), .len, [.t 77]⟩, ⟨(some 79), (some (76, false)), (.bin .gtr), [.t 78, .c (.int .i64 0)]⟩, ⟨(some 80), (some (76, false)), .mv, [.t 79]⟩, ⟨(some 81), (some (80, true)), .mv, [.t 6]⟩, ⟨(some 82), (some (80, true)), .mv, [.t 6]⟩, ⟨(some 83), (some (80, true)), .len, [.t 82]⟩, ⟨(some 84), (some (80, true)), (.bin .sub), [.t 83, .c (.int .i64 1)]⟩, ⟨(some 85), (some (80, true)), (.ixS 7), [.t 81, .t 84]⟩, ⟨(some 86), (some (80, true)), (.fa 1), [.t 85]⟩, ⟨(some 87), (some (80, true)), .ld1, [.t 86]⟩, ⟨(some 88), (some (80, true)), (.fa 2), [.t 8]⟩, ⟨(some 89), (some (80, true)), (.fa 1), [.t 88]⟩, ⟨(some 90), (some (80, true)), .ld1, [.t 89]⟩, ⟨(some 91), (some (80, true)), (.bin .geq), [.t 87, .t 90]⟩, ⟨(some 92), (some (76, false)), .pick, [.t 80, .t 91, .c (.bool false)]⟩, ⟨(some 93), none, .pick, [.t 76, .c (.bool true), .t 92]⟩, ⟨(some 71), none, .mv, [.t 93]⟩]) (.cond (.t 71) (.reg [⟨(some 10), none, .mv, [.c (.int .i64 1)]⟩]) (.seq (.reg [⟨(some 95), none, .mv, [.t 6]⟩, ⟨(some 96), none, .len, [.t 95]⟩, ⟨(some 97), none, (.bin .gtr), [.t 96, .c (.int .i64 15)]⟩, ⟨(some 94), none, .mv, [.t 97]⟩]) (.cond (.t 94) (.reg [⟨(some 10), none, .mv, [.c (.int .i64 4)]⟩]) (.regf [⟨(some 64), none, (.litr 7 0), []⟩, ⟨(some 65), none, .mv, [.t 6]⟩, ⟨(some 66), none, (.apn 7 88 66), [.t 64, .t 65]⟩, ⟨(some 67), none, (.fa 2), [.t 8]⟩, ⟨(some 68), none, (.ldnk 7 8), [.t 67]⟩, ⟨(some 69), none, (.litr 7 1), [.t 68]⟩, ⟨(some 70), none, (.app 7 88 70), [.t 66, .t 69]⟩, ⟨(some 6), none, .mv, [.t 70]⟩] [6]))))))))) (.seq (.reg [⟨(some 11), none, .mv, [.c (.bool false)]⟩]) (.seq (.seq (.reg [⟨(some 98), none, .mv, [.t 6]⟩, ⟨(some 99), none, .len, [.t 98]⟩, ⟨(some 100), none, .mv, [.c (.int .i64 0)]⟩]) (.blk 3 wb_law11_QueuePlays_3 (.loop wl_law11_QueuePlays_3 c_law11_QueuePlays_l3))) c_law11_QueuePlays_k0)))))))) c_law11_QueuePlays_k1)))
def wb_law11_QueuePlays_0 : List Bool := [true, true, true, true, true, true, true, true, true, true, true, true, true, true, true, true, true, true, true, true, true, true, true, true, true, true, true, true, true, true, true, true, true, true, true, true, true, true, true, true, true, true, true, true, true, true, true, true, true, true, true, true, true, true, true, true, true, true, true, true, true, true, true, true, true, true, true, true, true, true, true, true, true, true, true, true, true, true, true, true, true, true, true, true, true, true, true, true, true, true, true, true, true, true, true, true, true, true, true, true, true, true, true, true, true, true, true, true, true, true, true, true, true, true, true, true, true, true, true, true, true, true, true, true, true, true, true, true, true, true, true, true, true, true, true, true, true, true, true, true, true, true, true, true, true, true, true, true, true, true, true, true, true, true, true, true, true, true, true, true, true, true, true, true, true, true, true, true, true, true, true]
abbrev e_law11_QueuePlays_0 : List AV := [.any, .any, .any, .any, .any, .any, .any, .any, .any, .any, .any, .any, .any, .any, .any, .any, .any, .any, .any, .any, .any, .any, .any, .any, .any, .any, .any, .any, .any, .any, .any, .any, .any, .any, .any, .any, .any, .any, .any, .any, .any, .any, .any, .any, .any, .any, .any, .any, .any, .any, .any, .any, .any, .any, .any, .any, .any, .any, .any, .any, .any, .any, .any, .any, .any, .any, .any, .any, .any, .any, .any, .any, .any, .any, .any, .any, .any, .any, .any, .any, .any, .any, .any, .any, .any, .any, .any, .any, .any, .any, .any, .any, .any, .any, .any, .any, .any, .any, .any, .any, .any, .any, .any, .any, .any, .any, .any, .any, .any, .any, .any, .any, .any, .any, .any, .any, .any, .any, .any, .any, .any, .any, .any, .any, .any, .any, .any, .any, .any, .any, .any, .any, .any, .any, .any, .any, .any, .any, .any, .any, .any, .any, .any, .any, .any, .any, .any, .any, .any, .any, .any, .any, .any, .any, .any, .any, .any, .any, .any, .any, .any, .any, .any, .any, .any, .any, .any, .any, .any, .any, .any]
abbrev i_law11_QueuePlays_0 : List It := [.lp wl_law11_QueuePlays_0 c_law11_QueuePlays_l0, .blk 0 wb_law11_QueuePlays_0]
def c_law11_QueuePlays_k2 : Cd := (.seq (.reg [⟨(some 4), none, .mv, [.c (.bool true)]⟩]) .ret)
def c_law11_QueuePlays : Cd := (.seq (.reg [⟨(some 4), none, .mv, [.c (.bool false)]⟩]) (.seq (.seq (.reg [⟨(some 15), none, (.call F_law11_awake 0), []⟩, ⟨(some 16), none, .not, [.t 15]⟩, ⟨(some 17), none, .mv, [.t 16]⟩, ⟨(some 18), (some (17, false)), .mv, [.t 0]⟩, ⟨(some 19), (some (17, false)), .len, [.t 18]⟩, ⟨(some 20), (some (17, false)), (.bin .gtr), [.t 19, .c (.int .i64 80)]⟩, ⟨(some 21), none, .pick, [.t 17, .c (.bool true), .t 20]⟩, ⟨(some 22), none, .mv, [.t 21]⟩, ⟨(some 23), (some (22, false)), .mv, [.t 1]⟩, ⟨(some 24), (some (22, false)), .lenT, [.t 23]⟩, ⟨(some 25), (some (22, false)), (.bin .gtr), [.t 24, .c (.int .i64 100)]⟩, ⟨(some 26), none, .pick, [.t 22, .c (.bool true), .t 25]⟩]) (.cond (.t 26) (.seq (.reg [⟨(some 27), none, (.call F_law11_awake 0), []⟩, ⟨(some 4), none, .mv, [.t 27]⟩]) .ret) .skip)) (.seq (.reg [⟨(some 5), none, (.new [.nils] 5), []⟩]) (.seq (.regf [⟨(some 6), none, .mv, [.c .nils]⟩] [6]) (.seq (.seq (.reg [⟨(some 28), none, .mv, [.t 0]⟩, ⟨(some 29), none, .len, [.t 28]⟩, ⟨(some 30), none, .mv, [.c (.int .i64 0)]⟩]) (.blk 0 wb_law11_QueuePlays_0 (.loop wl_law11_QueuePlays_0 c_law11_QueuePlays_l0))) c_law11_QueuePlays_k2)))))
theorem comp_law11_QueuePlays : compF Try.prog (mset5 [] [64, 68, 69] [] [(67, 8)] [] [] [66]) (cset [] [F_queue_Queue_Pop, F_queue_Queue_Push, F_queue_Queue_First, F_queue_Queue_All, F_queue_Queue_Len, F_queue_Queue_Has, F_queue_Queue_Clone] []) (wset [(3, wl_law11_QueuePlays_3, wb_law11_QueuePlays_3), (1, ⟨[], []⟩, wb_law11_QueuePlays_1), (0, wl_law11_QueuePlays_0, wb_law11_QueuePlays_0)] [6]) Try.f4 = some c_law11_QueuePlays := by kernel_rfl
theorem ok_law11_QueuePlays : fnOk Try.prog F_law11_QueuePlays = true := by kernel_rfl
theorem calls_law11_QueuePlays {args : List AV} {r : AV} (h : RunsX Try.prog 0 (Gives [.t 4] r) [.c c_law11_QueuePlays] (args ++ List.replicate (171 - args.length) (.tup [])) [] zeroC) : PCalls Try.prog F_law11_QueuePlays args r :=
  pcallsF Try.checked.mixed Try.func4 ok_law11_QueuePlays comp_law11_QueuePlays rfl (rs := [.t 4]) (by kernel_rfl) h
theorem hcalls_law11_QueuePlays {args : List AV} {Hin Hout : Heap} {nx nx2 : Ctr} {r : AV} (φ : Nat) (ks : List (Nat × Nat)) (h : RunsX Try.prog φ (GivesH ks [.t 4] r Hout nx2) [.c c_law11_QueuePlays] (args ++ List.replicate (171 - args.length) (.tup [])) Hin nx) : HCalls Try.prog F_law11_QueuePlays args Hin nx r Hout nx2 :=
  hcallsF Try.checked.mixed Try.func4 ok_law11_QueuePlays comp_law11_QueuePlays rfl (rs := [.t 4]) (by kernel_rfl) φ ks h

def tab_CdQueue : List (Nat × Cd × Nat × List RS) := [(F_slices_Clone_api_Version, c_slices_Clone_api_Version, 8, [.t 2]), (F_version_CloneAll, c_version_CloneAll, 19, [.t 2]), (F_slices_IndexFunc_api_Version, c_slices_IndexFunc_api_Version, 19, [.t 4]), (F_slices_ContainsFunc_api_Version, c_slices_ContainsFunc_api_Version, 9, [.t 4]), (F_queue_Queue_Has_1, c_queue_Queue_Has_1, 8, [.t 3]), (F_queue_Queue_Push, c_queue_Queue_Push, 54, [.t 4]), (F_queue_Queue_First, c_queue_Queue_First, 23, [.cn 2 7, .t 3]), (F_queue_Queue_Pop, c_queue_Queue_Pop, 34, [.t 4]), (F_queue_Queue_Has, c_queue_Queue_Has, 15, [.t 4]), (F_queue_Queue_All, c_queue_Queue_All, 10, [.t 2]), (F_queue_Queue_Len, c_queue_Queue_Len, 10, [.t 2]), (F_queue_Queue_Clone, c_queue_Queue_Clone, 9, [.t 2]), (F_law11_awake, c_law11_awake, 10, [.t 0]), (F_law11_QueuePlays, c_law11_QueuePlays, 171, [.t 4])]
theorem tok_CdQueue : TabOk Try.prog (tabOf tab_CdQueue) := tab_cons calls_slices_Clone_api_Version hcalls_slices_Clone_api_Version (tab_cons calls_version_CloneAll hcalls_version_CloneAll (tab_cons calls_slices_IndexFunc_api_Version hcalls_slices_IndexFunc_api_Version (tab_cons calls_slices_ContainsFunc_api_Version hcalls_slices_ContainsFunc_api_Version (tab_cons calls_queue_Queue_Has_1 hcalls_queue_Queue_Has_1 (tab_cons calls_queue_Queue_Push hcalls_queue_Queue_Push (tab_cons calls_queue_Queue_First hcalls_queue_Queue_First (tab_cons calls_queue_Queue_Pop hcalls_queue_Queue_Pop (tab_cons calls_queue_Queue_Has hcalls_queue_Queue_Has (tab_cons calls_queue_Queue_All hcalls_queue_Queue_All (tab_cons calls_queue_Queue_Len hcalls_queue_Queue_Len (tab_cons calls_queue_Queue_Clone hcalls_queue_Queue_Clone (tab_cons calls_law11_awake hcalls_law11_awake (tab_cons calls_law11_QueuePlays hcalls_law11_QueuePlays (tab_nil))))))))))))))
end Go.Proofs.Ytmokhopjnjecbab
/- The functions' bodies, compiled; printed by a program of mine (gen.py); that they are is checked here. -/
namespace Go.Proofs.Ytmokhopjnjecbab
open Go.Ev
set_option maxRecDepth 100000

/-- pedlar/version.Right: parameters [44], results [.t 2], calls event_Right, event_Same -/
def c_version_Right : Cd := (.seq (.reg [⟨(some 1), none, .box, [.t 0]⟩, ⟨(some 2), none, .mv, [.c (.bool false)]⟩]) (.seq (.seq (.reg [⟨(some 3), none, (.fa 0), [.t 1]⟩, ⟨(some 4), none, .ld1, [.t 3]⟩, ⟨(some 5), none, (.bin .lss), [.t 4, .c (.int .i64 0)]⟩, ⟨(some 6), none, .mv, [.t 5]⟩, ⟨(some 7), (some (6, false)), (.fa 0), [.t 1]⟩, ⟨(some 8), (some (6, false)), .ld1, [.t 7]⟩, ⟨(some 9), (some (6, false)), (.bin .geq), [.t 8, .c (.int .i64 1048576)]⟩, ⟨(some 10), none, .pick, [.t 6, .c (.bool true), .t 9]⟩, ⟨(some 11), none, .mv, [.t 10]⟩, ⟨(some 12), (some (11, false)), (.fa 1), [.t 1]⟩, ⟨(some 13), (some (11, false)), .ld1, [.t 12]⟩, ⟨(some 14), (some (11, false)), (.bin .lss), [.t 13, .c (.int .i64 1)]⟩, ⟨(some 15), none, .pick, [.t 11, .c (.bool true), .t 14]⟩, ⟨(some 16), none, .mv, [.t 15]⟩, ⟨(some 17), (some (16, false)), (.fa 1), [.t 1]⟩, ⟨(some 18), (some (16, false)), .ld1, [.t 17]⟩, ⟨(some 19), (some (16, false)), (.bin .gtr), [.t 18, .c (.int .i64 1099511627776)]⟩, ⟨(some 20), none, .pick, [.t 16, .c (.bool true), .t 19]⟩]) (.cond (.t 20) (.seq (.reg [⟨(some 2), none, .mv, [.c (.bool false)]⟩]) .ret) .skip)) (.seq (.seq (.reg [⟨(some 21), none, (.fa 2), [.t 1]⟩, ⟨(some 22), none, .ld1, [.t 21]⟩, ⟨(some 23), none, .lenT, [.t 22]⟩, ⟨(some 24), none, (.bin .lss), [.t 23, .c (.int .i64 1)]⟩, ⟨(some 25), none, .mv, [.t 24]⟩, ⟨(some 26), (some (25, false)), (.fa 2), [.t 1]⟩, ⟨(some 27), (some (25, false)), .ld1, [.t 26]⟩, ⟨(some 28), (some (25, false)), .lenT, [.t 27]⟩, ⟨(some 29), (some (25, false)), (.bin .gtr), [.t 28, .c (.int .i64 20)]⟩, ⟨(some 30), none, .pick, [.t 25, .c (.bool true), .t 29]⟩, ⟨(some 31), none, .mv, [.t 30]⟩, ⟨(some 32), (some (31, false)), (.fa 3), [.t 1]⟩, ⟨(some 33), (some (31, false)), .ld1, [.t 32]⟩, ⟨(some 34), (some (31, false)), .lenT, [.t 33]⟩, ⟨(some 35), (some (31, false)), (.bin .gtr), [.t 34, .c (.int .i64 100)]⟩, ⟨(some 36), none, .pick, [.t 31, .c (.bool true), .t 35]⟩, ⟨(some 37), none, .mv, [.t 36]⟩, ⟨(some 38), (some (37, false)), (.fa 4), [.t 1]⟩, ⟨(some 39), (some (37, false)), .ld1, [.t 38]⟩, ⟨(some 40), (some (37, false)), .mv, [.t 39]⟩, ⟨(some 41), (some (40, true)), (.fa 3), [.t 1]⟩, ⟨(some 42), (some (40, true)), .ld1, [.t 41]⟩, ⟨(some 43), (some (40, true)), (.bin .neq), [.t 42, .c (.str ⟨#[]⟩)]⟩, ⟨(some 44), (some (37, false)), .pick, [.t 40, .t 43, .c (.bool false)]⟩, ⟨(some 45), none, .pick, [.t 37, .c (.bool true), .t 44]⟩]) (.cond (.t 45) (.seq (.reg [⟨(some 2), none, .mv, [.c (.bool false)]⟩]) .ret) .skip)) (.seq (.reg [⟨(some 46), none, (.fa 5), [.t 1]⟩, ⟨(some 47), none, (.ldn 2), [.t 46]⟩, ⟨(some 48), none, (.call F_event_Right 0), [.t 47]⟩, ⟨(some 49), none, .mv, [.t 48]⟩, ⟨(some 50), (some (49, true)), (.fa 5), [.t 1]⟩, ⟨(some 51), (some (49, true)), (.ldn 2), [.t 50]⟩, ⟨(some 52), (some (49, true)), (.bld [(.int .i64 0), .nils] []), []⟩, ⟨(some 53), (some (49, true)), (.call F_event_Same 0), [.t 51, .t 52]⟩, ⟨(some 54), (some (49, true)), .not, [.t 53]⟩, ⟨(some 55), none, .pick, [.t 49, .t 54, .c (.bool false)]⟩, ⟨(some 2), none, .mv, [.t 55]⟩]) .ret))))
theorem comp_version_Right : compF Try.prog (mset [] [] []) (cset [] [] []) (wset [] []) Try.f92 = some c_version_Right := by kernel_rfl
theorem ok_version_Right : fnOk Try.prog F_version_Right = true := by kernel_rfl
theorem calls_version_Right {args : List AV} {r : AV} (h : RunsX Try.prog 0 (Gives [.t 2] r) [.c c_version_Right] (args ++ List.replicate (56 - args.length) (.tup [])) [] zeroC) : PCalls Try.prog F_version_Right args r :=
  pcallsF Try.checked.mixed Try.func92 ok_version_Right comp_version_Right rfl (rs := [.t 2]) (by kernel_rfl) h
theorem hcalls_version_Right {args : List AV} {Hin Hout : Heap} {nx nx2 : Ctr} {r : AV} (φ : Nat) (ks : List (Nat × Nat)) (h : RunsX Try.prog φ (GivesH ks [.t 2] r Hout nx2) [.c c_version_Right] (args ++ List.replicate (56 - args.length) (.tup [])) Hin nx) : HCalls Try.prog F_version_Right args Hin nx r Hout nx2 :=
  hcallsF Try.checked.mixed Try.func92 ok_version_Right comp_version_Right rfl (rs := [.t 2]) (by kernel_rfl) φ ks h

/-- pedlar/version.Clone: parameters [44], results [.cn 2 7], calls event_Clone -/
def c_version_Clone : Cd := (.seq (.reg [⟨(some 1), none, (.boxm 1), [.t 0]⟩, ⟨(some 2), none, (.new [(.int .i64 0), (.int .i64 0), (.str ⟨#[]⟩), (.str ⟨#[]⟩), (.bool false), (.int .i64 0), .nils] 2), []⟩]) (.seq (.reg [⟨(some 3), none, (.fa 5), [.t 1]⟩, ⟨(some 4), none, (.ldn 2), [.t 3]⟩, ⟨(some 5), none, (.call F_event_Clone 0), [.t 4]⟩, ⟨(some 6), none, (.fa 5), [.t 1]⟩, ⟨none, none, (.st 2), [.t 6, .t 5]⟩]) (.seq (.reg [⟨(some 7), none, (.ldn 7), [.t 1]⟩, ⟨none, none, (.st 7), [.t 2, .t 7]⟩]) .ret)))
theorem comp_version_Clone : compF Try.prog (mset [1] [] []) (cset [] [] []) (wset [] []) Try.f94 = some c_version_Clone := by kernel_rfl
theorem ok_version_Clone : fnOk Try.prog F_version_Clone = true := by kernel_rfl
theorem calls_version_Clone {args : List AV} {r : AV} (h : RunsX Try.prog 0 (Gives [.cn 2 7] r) [.c c_version_Clone] (args ++ List.replicate (8 - args.length) (.tup [])) [] zeroC) : PCalls Try.prog F_version_Clone args r :=
  pcallsF Try.checked.mixed Try.func94 ok_version_Clone comp_version_Clone rfl (rs := [.cn 2 7]) (by kernel_rfl) h
theorem hcalls_version_Clone {args : List AV} {Hin Hout : Heap} {nx nx2 : Ctr} {r : AV} (φ : Nat) (ks : List (Nat × Nat)) (h : RunsX Try.prog φ (GivesH ks [.cn 2 7] r Hout nx2) [.c c_version_Clone] (args ++ List.replicate (8 - args.length) (.tup [])) Hin nx) : HCalls Try.prog F_version_Clone args Hin nx r Hout nx2 :=
  hcallsF Try.checked.mixed Try.func94 ok_version_Clone comp_version_Clone rfl (rs := [.cn 2 7]) (by kernel_rfl) φ ks h

/-- pedlar/pedlarref04.VRight: parameters [44], results [.t 2], calls ref04_ERight -/
def c_ref04_VRight : Cd := (.seq (.reg [⟨(some 1), none, .box, [.t 0]⟩, ⟨(some 2), none, .mv, [.c (.bool false)]⟩]) (.seq (.seq (.reg [⟨(some 3), none, (.fa 0), [.t 1]⟩, ⟨(some 4), none, .ld1, [.t 3]⟩, ⟨(some 5), none, (.bin .lss), [.t 4, .c (.int .i64 0)]⟩, ⟨(some 6), none, .mv, [.t 5]⟩, ⟨(some 7), (some (6, false)), (.fa 0), [.t 1]⟩, ⟨(some 8), (some (6, false)), .ld1, [.t 7]⟩, ⟨(some 9), (some (6, false)), (.bin .geq), [.t 8, .c (.int .i64 1048576)]⟩, ⟨(some 10), none, .pick, [.t 6, .c (.bool true), .t 9]⟩, ⟨(some 11), none, .mv, [.t 10]⟩, ⟨(some 12), (some (11, false)), (.fa 1), [.t 1]⟩, ⟨(some 13), (some (11, false)), .ld1, [.t 12]⟩, ⟨(some 14), (some (11, false)), (.bin .lss), [.t 13, .c (.int .i64 1)]⟩, ⟨(some 15), none, .pick, [.t 11, .c (.bool true), .t 14]⟩, ⟨(some 16), none, .mv, [.t 15]⟩, ⟨(some 17), (some (16, false)), (.fa 1), [.t 1]⟩, ⟨(some 18), (some (16, false)), .ld1, [.t 17]⟩, ⟨(some 19), (some (16, false)), (.bin .gtr), [.t 18, .c (.int .i64 1099511627776)]⟩, ⟨(some 20), none, .pick, [.t 16, .c (.bool true), .t 19]⟩, ⟨(some 21), none, .mv, [.t 20]⟩, ⟨(some 22), (some (21, false)), (.fa 2), [.t 1]⟩, ⟨(some 23), (some (21, false)), .ld1, [.t 22]⟩, ⟨(some 24), (some (21, false)), .lenT, [.t 23]⟩, ⟨(some 25), (some (21, false)), (.bin .lss), [.t 24, .c (.int .i64 1)]⟩, ⟨(some 26), none, .pick, [.t 21, .c (.bool true), .t 25]⟩, ⟨(some 27), none, .mv, [.t 26]⟩, ⟨(some 28), (some (27, false)), (.fa 2), [.t 1]⟩, ⟨(some 29), (some (27, false)), .ld1, [.t 28]⟩, ⟨(some 30), (some (27, false)), .lenT, [.t 29]⟩, ⟨(some 31), (some (27, false)), (.bin .gtr), [.t 30, .c (.int .i64 20)]⟩, ⟨(some 32), none, .pick, [.t 27, .c (.bool true), .t 31]⟩, ⟨(some 33), none, .mv, [.t 32]⟩, ⟨(some 34), (some (33, false)), (.fa 3), [.t 1]⟩, ⟨(some 35), (some (33, false)), .ld1, [.t 34]⟩, ⟨(some 36), (some (33, false)), .lenT, [.t 35]⟩, ⟨(some 37), (some (33, false)), (.bin .gtr), [.t 36, .c (.int .i64 100)]⟩, ⟨(some 38), none, .pick, [.t 33, .c (.bool true), .t 37]⟩, ⟨(some 39), none, .mv, [.t 38]⟩, ⟨(some 40), (some (39, false)), (.fa 4), [.t 1]⟩, ⟨(some 41), (some (39, false)), .ld1, [.t 40]⟩, ⟨(some 42), (some (39, false)), .mv, [.t 41]⟩, ⟨(some 43), (some (42, true)), (.fa 3), [.t 1]⟩, ⟨(some 44), (some (42, true)), .ld1, [.t 43]⟩, ⟨(some 45), (some (42, true)), .lenT, [.t 44]⟩, ⟨(some 46), (some (42, true)), (.bin .gtr), [.t 45, .c (.int .i64 0)]⟩, ⟨(some 47), (some (39, false)), .pick, [.t 42, .t 46, .c (.bool false)]⟩, ⟨(some 48), none, .pick, [.t 39, .c (.bool true), .t 47]⟩]) (.cond (.t 48) (.seq (.reg [⟨(some 2), none, .mv, [.c (.bool false)]⟩]) .ret) .skip)) (.seq (.reg [⟨(some 49), none, (.fa 5), [.t 1]⟩, ⟨(some 50), none, (.ldn 2), [.t 49]⟩, ⟨(some 51), none, (.call F_ref04_ERight 0), [.t 50]⟩, ⟨(some 52), none, .mv, [.t 51]⟩, ⟨(some 53), (some (52, true)), (.fa 5), [.t 1]⟩, ⟨(some 54), (some (52, true)), (.fa 0), [.t 53]⟩, ⟨(some 55), (some (52, true)), .ld1, [.t 54]⟩, ⟨(some 56), (some (52, true)), (.bin .gtr), [.t 55, .c (.int .i64 0)]⟩, ⟨(some 57), (some (52, true)), .mv, [.t 56]⟩, ⟨(some 58), (some (57, false)), (.fa 5), [.t 1]⟩, ⟨(some 59), (some (57, false)), (.fa 1), [.t 58]⟩, ⟨(some 60), (some (57, false)), .ld1, [.t 59]⟩, ⟨(some 61), (some (57, false)), .len, [.t 60]⟩, ⟨(some 62), (some (57, false)), (.bin .gtr), [.t 61, .c (.int .i64 0)]⟩, ⟨(some 63), (some (52, true)), .pick, [.t 57, .c (.bool true), .t 62]⟩, ⟨(some 64), none, .pick, [.t 52, .t 63, .c (.bool false)]⟩, ⟨(some 2), none, .mv, [.t 64]⟩]) .ret)))
theorem comp_ref04_VRight : compF Try.prog (mset [] [] []) (cset [] [] []) (wset [] []) Try.f26 = some c_ref04_VRight := by kernel_rfl
theorem ok_ref04_VRight : fnOk Try.prog F_ref04_VRight = true := by kernel_rfl
theorem calls_ref04_VRight {args : List AV} {r : AV} (h : RunsX Try.prog 0 (Gives [.t 2] r) [.c c_ref04_VRight] (args ++ List.replicate (65 - args.length) (.tup [])) [] zeroC) : PCalls Try.prog F_ref04_VRight args r :=
  pcallsF Try.checked.mixed Try.func26 ok_ref04_VRight comp_ref04_VRight rfl (rs := [.t 2]) (by kernel_rfl) h
theorem hcalls_ref04_VRight {args : List AV} {Hin Hout : Heap} {nx nx2 : Ctr} {r : AV} (φ : Nat) (ks : List (Nat × Nat)) (h : RunsX Try.prog φ (GivesH ks [.t 2] r Hout nx2) [.c c_ref04_VRight] (args ++ List.replicate (65 - args.length) (.tup [])) Hin nx) : HCalls Try.prog F_ref04_VRight args Hin nx r Hout nx2 :=
  hcallsF Try.checked.mixed Try.func26 ok_ref04_VRight comp_ref04_VRight rfl (rs := [.t 2]) (by kernel_rfl) φ ks h

/-- pedlar/pedlarref04.VSame: parameters [44, 44], results [.t 4], calls ref04_ESame -/
def c_ref04_VSame : Cd := (.seq (.reg [⟨(some 2), none, .box, [.t 0]⟩, ⟨(some 3), none, .box, [.t 1]⟩, ⟨(some 4), none, .mv, [.c (.bool false)]⟩]) (.seq (.reg [⟨(some 5), none, (.fa 0), [.t 2]⟩, ⟨(some 6), none, .ld1, [.t 5]⟩, ⟨(some 7), none, (.fa 0), [.t 3]⟩, ⟨(some 8), none, .ld1, [.t 7]⟩, ⟨(some 9), none, (.bin .eql), [.t 6, .t 8]⟩, ⟨(some 10), none, .mv, [.t 9]⟩, ⟨(some 11), (some (10, true)), (.fa 1), [.t 2]⟩, ⟨(some 12), (some (10, true)), .ld1, [.t 11]⟩, ⟨(some 13), (some (10, true)), (.fa 1), [.t 3]⟩, ⟨(some 14), (some (10, true)), .ld1, [.t 13]⟩, ⟨(some 15), (some (10, true)), (.bin .eql), [.t 12, .t 14]⟩, ⟨(some 16), none, .pick, [.t 10, .t 15, .c (.bool false)]⟩, ⟨(some 17), none, .mv, [.t 16]⟩, ⟨(some 18), (some (17, true)), (.fa 2), [.t 2]⟩, ⟨(some 19), (some (17, true)), .ld1, [.t 18]⟩, ⟨(some 20), (some (17, true)), (.fa 2), [.t 3]⟩, ⟨(some 21), (some (17, true)), .ld1, [.t 20]⟩, ⟨(some 22), (some (17, true)), (.bin .eql), [.t 19, .t 21]⟩, ⟨(some 23), none, .pick, [.t 17, .t 22, .c (.bool false)]⟩, ⟨(some 24), none, .mv, [.t 23]⟩, ⟨(some 25), (some (24, true)), (.fa 3), [.t 2]⟩, ⟨(some 26), (some (24, true)), .ld1, [.t 25]⟩, ⟨(some 27), (some (24, true)), (.fa 3), [.t 3]⟩, ⟨(some 28), (some (24, true)), .ld1, [.t 27]⟩, ⟨(some 29), (some (24, true)), (.bin .eql), [.t 26, .t 28]⟩, ⟨(some 30), none, .pick, [.t 24, .t 29, .c (.bool false)]⟩, ⟨(some 31), none, .mv, [.t 30]⟩, ⟨(some 32), (some (31, true)), (.fa 4), [.t 2]⟩, ⟨(some 33), (some (31, true)), .ld1, [.t 32]⟩, ⟨(some 34), (some (31, true)), (.fa 4), [.t 3]⟩, ⟨(some 35), (some (31, true)), .ld1, [.t 34]⟩, ⟨(some 36), (some (31, true)), (.eqb false), [.t 33, .t 35]⟩, ⟨(some 37), none, .pick, [.t 31, .t 36, .c (.bool false)]⟩, ⟨(some 38), none, .mv, [.t 37]⟩, ⟨(some 39), (some (38, true)), (.fa 5), [.t 2]⟩, ⟨(some 40), (some (38, true)), (.ldn 2), [.t 39]⟩, ⟨(some 41), (some (38, true)), (.fa 5), [.t 3]⟩, ⟨(some 42), (some (38, true)), (.ldn 2), [.t 41]⟩, ⟨(some 43), (some (38, true)), (.call F_ref04_ESame 0), [.t 40, .t 42]⟩, ⟨(some 44), none, .pick, [.t 38, .t 43, .c (.bool false)]⟩, ⟨(some 4), none, .mv, [.t 44]⟩]) .ret))
theorem comp_ref04_VSame : compF Try.prog (mset [] [] []) (cset [] [] []) (wset [] []) Try.f33 = some c_ref04_VSame := by kernel_rfl
theorem ok_ref04_VSame : fnOk Try.prog F_ref04_VSame = true := by kernel_rfl
theorem calls_ref04_VSame {args : List AV} {r : AV} (h : RunsX Try.prog 0 (Gives [.t 4] r) [.c c_ref04_VSame] (args ++ List.replicate (45 - args.length) (.tup [])) [] zeroC) : PCalls Try.prog F_ref04_VSame args r :=
  pcallsF Try.checked.mixed Try.func33 ok_ref04_VSame comp_ref04_VSame rfl (rs := [.t 4]) (by kernel_rfl) h
theorem hcalls_ref04_VSame {args : List AV} {Hin Hout : Heap} {nx nx2 : Ctr} {r : AV} (φ : Nat) (ks : List (Nat × Nat)) (h : RunsX Try.prog φ (GivesH ks [.t 4] r Hout nx2) [.c c_ref04_VSame] (args ++ List.replicate (45 - args.length) (.tup [])) Hin nx) : HCalls Try.prog F_ref04_VSame args Hin nx r Hout nx2 :=
  hcallsF Try.checked.mixed Try.func33 ok_ref04_VSame comp_ref04_VSame rfl (rs := [.t 4]) (by kernel_rfl) φ ks h

/-- pedlar/pedlarlaw07.Few: parameters [37], results [.t 2], calls law05_Few -/
def wl_law07_Few_0 : Mk := ⟨[false, true, true, true, true, false, false, true, true, true, true, true, true, true, true, true, true, true, true, true, true, true, true, true, true, true, true, true, true, true, true, true, true, true, true, true, true, true, true], []⟩
abbrev s_law07_Few_0 (t0 t5 t6 : AV) : List AV := [t0, .any, .any, .any, .any, t5, t6, .any, .any, .any, .any, .any, .any, .any, .any, .any, .any, .any, .any, .any, .any, .any, .any, .any, .any, .any, .any, .any, .any, .any, .any, .any, .any, .any, .any, .any, .any, .any, .any]
def c_law07_Few_l0 : Cd := (.seq (.reg [⟨(some 7), none, (.bin .lss), [.t 6, .t 5]⟩]) (.seq (.cond (.t 7) .skip (.exit 0)) (.seq (.blk 1 [] (.seq (.reg [⟨(some 8), none, .mv, [.t 6]⟩, ⟨(some 3), none, .mv, [.t 8]⟩]) (.seq (.reg [⟨(some 9), none, .mv, [.t 3]⟩, ⟨(some 10), none, (.bin .geq), [.t 9, .c (.int .i64 40)]⟩, ⟨(some 11), none, .mv, [.t 10]⟩, ⟨(some 12), (some (11, false)), .mv, [.t 0]⟩, ⟨(some 13), (some (11, false)), .mv, [.t 3]⟩, ⟨(some 14), (some (11, false)), (.ixS 7), [.t 12, .t 13]⟩, ⟨(some 15), (some (11, false)), (.fa 2), [.t 14]⟩, ⟨(some 16), (some (11, false)), .ld1, [.t 15]⟩, ⟨(some 17), (some (11, false)), .lenT, [.t 16]⟩, ⟨(some 18), (some (11, false)), (.bin .gtr), [.t 17, .c (.int .i64 100)]⟩, ⟨(some 19), none, .pick, [.t 11, .c (.bool true), .t 18]⟩, ⟨(some 20), none, .mv, [.t 19]⟩, ⟨(some 21), (some (20, false)), .mv, [.t 0]⟩, ⟨(some 22), (some (20, false)), .mv, [.t 3]⟩, ⟨(some 23), (some (20, false)), (.ixS 7), [.t 21, .t 22]⟩, ⟨(some 24), (some (20, false)), (.fa 3), [.t 23]⟩, ⟨(some 25), (some (20, false)), .ld1, [.t 24]⟩, ⟨(some 26), (some (20, false)), .lenT, [.t 25]⟩, ⟨(some 27), (some (20, false)), (.bin .gtr), [.t 26, .c (.int .i64 300)]⟩, ⟨(some 28), none, .pick, [.t 20, .c (.bool true), .t 27]⟩, ⟨(some 29), none, .mv, [.t 28]⟩, ⟨(some 30), (some (29, false)), .mv, [.t 0]⟩, ⟨(some 31), (some (29, false)), .mv, [.t 3]⟩, ⟨(some 32), (some (29, false)), (.ixS 7), [.t 30, .t 31]⟩, ⟨(some 33), (some (29, false)), (.fa 5), [.t 32]⟩, ⟨(some 34), (some (29, false)), (.ldn 2), [.t 33]⟩, ⟨(some 35), (some (29, false)), (.call F_law05_Few 0), [.t 34, .c (.int .i64 30)]⟩, ⟨(some 36), (some (29, false)), .not, [.t 35]⟩, ⟨(some 37), none, .pick, [.t 29, .c (.bool true), .t 36]⟩]) (.cond (.t 37) (.seq (.reg [⟨(some 2), none, .mv, [.c (.bool false)]⟩]) .ret) .skip)))) (.reg [⟨(some 38), none, (.bin .add), [.t 6, .c (.int .i64 1)]⟩, ⟨(some 6), none, .mv, [.t 38]⟩]))))
def wb_law07_Few_0 : List Bool := [true, true, true, true, true, true, true, true, true, true, true, true, true, true, true, true, true, true, true, true, true, true, true, true, true, true, true, true, true, true, true, true, true, true, true, true, true, true, true]
abbrev e_law07_Few_0 : List AV := [.any, .any, .any, .any, .any, .any, .any, .any, .any, .any, .any, .any, .any, .any, .any, .any, .any, .any, .any, .any, .any, .any, .any, .any, .any, .any, .any, .any, .any, .any, .any, .any, .any, .any, .any, .any, .any, .any, .any]
abbrev i_law07_Few_0 : List It := [.lp wl_law07_Few_0 c_law07_Few_l0, .blk 0 wb_law07_Few_0]
def c_law07_Few_k0 : Cd := (.seq (.reg [⟨(some 2), none, .mv, [.c (.bool true)]⟩]) .ret)
def c_law07_Few : Cd := (.seq (.reg [⟨(some 2), none, .mv, [.c (.bool false)]⟩]) (.seq (.seq (.reg [⟨(some 4), none, .mv, [.t 0]⟩, ⟨(some 5), none, .len, [.t 4]⟩, ⟨(some 6), none, .mv, [.c (.int .i64 0)]⟩]) (.blk 0 wb_law07_Few_0 (.loop wl_law07_Few_0 c_law07_Few_l0))) c_law07_Few_k0))
theorem comp_law07_Few : compF Try.prog (mset [] [] []) (cset [] [] []) (wset [(0, wl_law07_Few_0, wb_law07_Few_0)] []) Try.f23 = some c_law07_Few := by kernel_rfl
theorem ok_law07_Few : fnOk Try.prog F_law07_Few = true := by kernel_rfl
theorem calls_law07_Few {args : List AV} {r : AV} (h : RunsX Try.prog 0 (Gives [.t 2] r) [.c c_law07_Few] (args ++ List.replicate (39 - args.length) (.tup [])) [] zeroC) : PCalls Try.prog F_law07_Few args r :=
  pcallsF Try.checked.mixed Try.func23 ok_law07_Few comp_law07_Few rfl (rs := [.t 2]) (by kernel_rfl) h
theorem hcalls_law07_Few {args : List AV} {Hin Hout : Heap} {nx nx2 : Ctr} {r : AV} (φ : Nat) (ks : List (Nat × Nat)) (h : RunsX Try.prog φ (GivesH ks [.t 2] r Hout nx2) [.c c_law07_Few] (args ++ List.replicate (39 - args.length) (.tup [])) Hin nx) : HCalls Try.prog F_law07_Few args Hin nx r Hout nx2 :=
  hcallsF Try.checked.mixed Try.func23 ok_law07_Few comp_law07_Few rfl (rs := [.t 2]) (by kernel_rfl) φ ks h

/-- pedlar/pedlarlaw07.awake: parameters [], results [.t 0], calls version_Right -/
def c_law07_awake : Cd := (.seq (.reg [⟨(some 0), none, .mv, [.c (.bool false)]⟩]) (.seq (.reg [⟨(some 1), none, (.bld [(.int .i64 0), .nils] [(0, 1)]), [.c (.int .i64 1)]⟩, ⟨(some 2), none, (.bld [(.int .i64 0), (.int .i64 0), (.str ⟨#[]⟩), (.str ⟨#[]⟩), (.bool false), (.int .i64 0), .nils] [(1, 1), (2, 1), (5, 2)]), [.c (.int .i64 1), .c (.str ⟨#[97]⟩), .t 1]⟩, ⟨(some 3), none, (.call F_version_Right 0), [.t 2]⟩, ⟨(some 0), none, .mv, [.t 3]⟩]) .ret))
theorem comp_law07_awake : compF Try.prog (mset [] [] []) (cset [] [] []) (wset [] []) Try.f47 = some c_law07_awake := by kernel_rfl
theorem ok_law07_awake : fnOk Try.prog F_law07_awake = true := by kernel_rfl
theorem calls_law07_awake {args : List AV} {r : AV} (h : RunsX Try.prog 0 (Gives [.t 0] r) [.c c_law07_awake] (args ++ List.replicate (4 - args.length) (.tup [])) [] zeroC) : PCalls Try.prog F_law07_awake args r :=
  pcallsF Try.checked.mixed Try.func47 ok_law07_awake comp_law07_awake rfl (rs := [.t 0]) (by kernel_rfl) h
theorem hcalls_law07_awake {args : List AV} {Hin Hout : Heap} {nx nx2 : Ctr} {r : AV} (φ : Nat) (ks : List (Nat × Nat)) (h : RunsX Try.prog φ (GivesH ks [.t 0] r Hout nx2) [.c c_law07_awake] (args ++ List.replicate (4 - args.length) (.tup [])) Hin nx) : HCalls Try.prog F_law07_awake args Hin nx r Hout nx2 :=
  hcallsF Try.checked.mixed Try.func47 ok_law07_awake comp_law07_awake rfl (rs := [.t 0]) (by kernel_rfl) φ ks h

def tab_CdVersion : List (Nat × Cd × Nat × List RS) := [(F_version_Right, c_version_Right, 56, [.t 2]), (F_version_Clone, c_version_Clone, 8, [.cn 2 7]), (F_ref04_VRight, c_ref04_VRight, 65, [.t 2]), (F_ref04_VSame, c_ref04_VSame, 45, [.t 4]), (F_law07_Few, c_law07_Few, 39, [.t 2]), (F_law07_awake, c_law07_awake, 4, [.t 0])]
theorem tok_CdVersion : TabOk Try.prog (tabOf tab_CdVersion) := tab_cons calls_version_Right hcalls_version_Right (tab_cons calls_version_Clone hcalls_version_Clone (tab_cons calls_ref04_VRight hcalls_ref04_VRight (tab_cons calls_ref04_VSame hcalls_ref04_VSame (tab_cons calls_law07_Few hcalls_law07_Few (tab_cons calls_law07_awake hcalls_law07_awake (tab_nil))))))
end Go.Proofs.Ytmokhopjnjecbab
/- The lemmas of a walk, under one name of the kit (a simp set), so that the texts are short. -/
namespace Go.Ev
/-- An element by an index: its first unfolding is a step with a proof that is no rfl. -/
def gi (es : List AV) (n : Int) : Option AV := es[n.toNat]?
theorem gi_eq (es : List AV) (n : Int) : gi es n = es[n.toNat]? := of_eq_true (eq_true rfl)
theorem optI_gi {α : Type} (es : List AV) (n : Int) (ok : AV → α) (bad : α) : optI es n ok bad = optK (gi es n) ok bad := rfl
attribute [go_sem ↓ low] optI_gi
attribute [go_sem] gi_eq
attribute [go_sem ↓] as_nil as_ops0 as_op as_opg as_blk as_frz as_lp as_skip as_reg as_regf as_seq as_cond as_cblk as_loop as_exit as_ret condK_true condK_false condK_bool
  guardK_tup guardK_tt guardK_tf guardK_ft guardK_ff guardK_bool q_add q_sub q_mul q_eql q_neq q_lss q_leq q_gtr q_geq q_quo q_rem q_and q_or q_xor q_andNot
  q_shl q_shr q_seql q_sneq q_slss q_sleq q_sgtr q_sgeq q_sadd q_mv q_pick q_eqb q_neb q_eqp q_neqp q_eqs q_neqs q_eqf q_neqf q_eqi q_neqi q_not q_neg q_cpl
  q_conv q_s2b q_b2s0 q_b2s1 q_b2s2 q_s2s q_box q_boxm q_new q_ld1 q_ld1r q_ld1p q_ldn q_ldnr q_ldnp q_ldk q_ldnk q_st q_stf q_slcx q_clr q_stk q_fa q_fap q_fld1 q_fldn q_ixS
  q_ixSl q_ixP q_ixPp q_ixT q_ixA1 q_slc0 q_slc1 q_slc2 q_slcT q_lenT q_len0 q_len1 q_len2 q_app q_apn pureK_nn pureK_nf pureK_fn pureK_ff q_apps q_lit q_litr q_litm q_bld q_mk q_ext q_nckp q_nckr
  q_nckf q_mn q_mx q_mkf q_ifc headK_cons optK_some optI_0 optI_1 optI_2 optI_3 nilK_nil execA mapK frzK_sl frzK_agg frzK_tup frzK_ifc frzK_func frzK_int
  frzK_bool frzK_str frzK_nilp frzK_nils frzK_nilm frzK_nilf frzK_nili frzK_fz frzK_any frzK_ptr frzK_ro getB getsK getR retK nilpK nilsK nilfK niliK bndK
  cutK fillK exitK if_pos if_neg
attribute [go_sem] evs_n evs_c ev_t ev_v getT_z getT_s gets_n gets_c drop_z drop_s setT put List.replicate List.cons_append List.nil_append List.length_cons List.length_nil
  setB kill killM dropK keysOf capOf_nn zeroC bump frzT thaw putAll retv find cells List.append_nil List.take Nat.zero_add Nat.add_zero Nat.mul_one Nat.succ_ne_self
  Nat.le_refl Nat.one_ne_zero Nat.lt_irrefl List.length_append Int.toNat_zero Int.toNat_one List.take_zero List.drop_zero Nat.zero_mul sel rest keyIn Bool.not_true
  Bool.not_false Bool.false_eq_true Bool.true_eq_false and_self and_true true_and false_and and_false decide_true decide_false decide_eq_true decide_eq_false
  decide_eq_true_eq decide_eq_false_iff_not Bool.not_eq_true Bool.not_eq_false Bool.not_eq_eq_eq_not Decidable.not_not
end Go.Ev
/- The functions' bodies, compiled; printed by a program of mine (gen.py); that they are is checked here. -/
namespace Go.Proofs.Ytmokhopjnjecbab
open Go.Ev
set_option maxRecDepth 100000

/-- pedlar/event.leaf: parameters [42], results [.t 2], calls  -/
def c_event_leaf : Cd := (.seq (.reg [⟨(some 1), none, .box, [.t 0]⟩, ⟨(some 2), none, .mv, [.c (.bool false)]⟩]) (.seq (.reg [⟨(some 3), none, (.fa 1), [.t 1]⟩, ⟨(some 4), none, .ld1, [.t 3]⟩, ⟨(some 5), none, .len, [.t 4]⟩, ⟨(some 6), none, (.bin .eql), [.t 5, .c (.int .i64 0)]⟩, ⟨(some 2), none, .mv, [.t 6]⟩]) .ret))
theorem comp_event_leaf : compF Try.prog (mset [] [] []) (cset [] [] []) (wset [] []) Try.f149 = some c_event_leaf := by kernel_rfl
theorem ok_event_leaf : fnOk Try.prog F_event_leaf = true := by kernel_rfl
theorem calls_event_leaf {args : List AV} {r : AV} (h : RunsX Try.prog 0 (Gives [.t 2] r) [.c c_event_leaf] (args ++ List.replicate (7 - args.length) (.tup [])) [] zeroC) : PCalls Try.prog F_event_leaf args r :=
  pcallsF Try.checked.mixed Try.func149 ok_event_leaf comp_event_leaf rfl (rs := [.t 2]) (by kernel_rfl) h
theorem hcalls_event_leaf {args : List AV} {Hin Hout : Heap} {nx nx2 : Ctr} {r : AV} (φ : Nat) (ks : List (Nat × Nat)) (h : RunsX Try.prog φ (GivesH ks [.t 2] r Hout nx2) [.c c_event_leaf] (args ++ List.replicate (7 - args.length) (.tup [])) Hin nx) : HCalls Try.prog F_event_leaf args Hin nx r Hout nx2 :=
  hcallsF Try.checked.mixed Try.func149 ok_event_leaf comp_event_leaf rfl (rs := [.t 2]) (by kernel_rfl) φ ks h

/-- pedlar/event.count: parameters [42, 3], results [.t 4], calls event_leaf, event_count -/
def wl_event_count_0 : Mk := ⟨[true, false, true, true, true, false, true, true, true, true, true, true, true, true, true, true, true, true, true, true, true, true, true, true, true, true, true, true, true, true, true, true, false, false, false, true, true, true, true, true, true, true, true, true, true, true, true, true], [7]⟩
abbrev s_event_count_0 (t1 t5 t32 t33 t34 : AV) : List AV := [.any, t1, .any, .any, .any, t5, .any, .any, .any, .any, .any, .any, .any, .any, .any, .any, .any, .any, .any, .any, .any, .any, .any, .any, .any, .any, .any, .any, .any, .any, .any, .any, t32, t33, t34, .any, .any, .any, .any, .any, .any, .any, .any, .any, .any, .any, .any, .any]
def c_event_count_l0 : Cd := (.seq (.reg [⟨(some 35), none, (.bin .lss), [.t 34, .t 33]⟩]) (.seq (.cond (.t 35) .skip (.exit 0)) (.seq (.blk 1 [] (.seq (.reg [⟨(some 36), none, (.ixS 2), [.t 32, .t 34]⟩, ⟨(some 37), none, (.ldn 2), [.t 36]⟩, ⟨(some 7), none, (.new [(.int .i64 0), .nils] 7), []⟩, ⟨none, none, (.st 2), [.t 7, .t 37]⟩]) (.seq (.reg [⟨(some 38), none, .mv, [.t 5]⟩, ⟨(some 39), none, (.ldn 2), [.t 7]⟩, ⟨(some 40), none, .mv, [.t 1]⟩, ⟨(some 41), none, (.bin .sub), [.t 40, .c (.int .i64 1)]⟩, ⟨(some 42), none, (.call F_event_count 0), [.t 39, .t 41]⟩, ⟨(some 43), none, (.bin .add), [.t 38, .t 42]⟩, ⟨(some 5), none, .mv, [.t 43]⟩]) (.seq (.reg [⟨(some 44), none, .mv, [.t 5]⟩, ⟨(some 45), none, (.bin .gtr), [.t 44, .c (.int .i64 60)]⟩]) (.cond (.t 45) (.seq (.reg [⟨(some 4), none, .mv, [.c (.int .i64 61)]⟩]) .ret) .skip))))) (.reg [⟨(some 46), none, (.bin .add), [.t 34, .c (.int .i64 1)]⟩, ⟨(some 34), none, .mv, [.t 46]⟩]))))
def wb_event_count_0 : List Bool := [true, true, true, true, true, false, true, true, true, true, true, true, true, true, true, true, true, true, true, true, true, true, true, true, true, true, true, true, true, true, true, true, true, true, true, true, true, true, true, true, true, true, true, true, true, true, true, true]
abbrev e_event_count_0 (t5 : AV) : List AV := [.any, .any, .any, .any, .any, t5, .any, .any, .any, .any, .any, .any, .any, .any, .any, .any, .any, .any, .any, .any, .any, .any, .any, .any, .any, .any, .any, .any, .any, .any, .any, .any, .any, .any, .any, .any, .any, .any, .any, .any, .any, .any, .any, .any, .any, .any, .any, .any]
abbrev i_event_count_0 : List It := [.lp wl_event_count_0 c_event_count_l0, .blk 0 wb_event_count_0]
def c_event_count_k0 : Cd := (.seq (.reg [⟨(some 47), none, .mv, [.t 5]⟩, ⟨(some 4), none, .mv, [.t 47]⟩]) .ret)
def c_event_count : Cd := (.seq (.reg [⟨(some 2), none, .box, [.t 0]⟩, ⟨(some 4), none, .mv, [.c (.int .i64 0)]⟩]) (.seq (.seq (.reg [⟨(some 8), none, .mv, [.t 1]⟩, ⟨(some 9), none, (.bin .lss), [.t 8, .c (.int .i64 1)]⟩, ⟨(some 10), none, .mv, [.t 9]⟩, ⟨(some 11), (some (10, false)), (.fa 0), [.t 2]⟩, ⟨(some 12), (some (10, false)), .ld1, [.t 11]⟩, ⟨(some 13), (some (10, false)), (.bin .lss), [.t 12, .c (.int .i64 0)]⟩, ⟨(some 14), none, .pick, [.t 10, .c (.bool true), .t 13]⟩, ⟨(some 15), none, .mv, [.t 14]⟩, ⟨(some 16), (some (15, false)), (.fa 0), [.t 2]⟩, ⟨(some 17), (some (15, false)), .ld1, [.t 16]⟩, ⟨(some 18), (some (15, false)), (.bin .gtr), [.t 17, .c (.int .i64 1099511627776)]⟩, ⟨(some 19), none, .pick, [.t 15, .c (.bool true), .t 18]⟩, ⟨(some 20), none, .mv, [.t 19]⟩, ⟨(some 21), (some (20, false)), (.ldn 2), [.t 2]⟩, ⟨(some 22), (some (20, false)), (.call F_event_leaf 0), [.t 21]⟩, ⟨(some 23), (some (20, false)), .not, [.t 22]⟩, ⟨(some 24), (some (20, false)), .mv, [.t 23]⟩, ⟨(some 25), (some (24, true)), (.fa 1), [.t 2]⟩, ⟨(some 26), (some (24, true)), .ld1, [.t 25]⟩, ⟨(some 27), (some (24, true)), .len, [.t 26]⟩, ⟨(some 28), (some (24, true)), (.bin .neq), [.t 27, .c (.int .i64 2)]⟩, ⟨(some 29), (some (20, false)), .pick, [.t 24, .t 28, .c (.bool false)]⟩, ⟨(some 30), none, .pick, [.t 20, .c (.bool true), .t 29]⟩]) (.cond (.t 30) (.seq (.reg [⟨(some 4), none, .mv, [.c (.int .i64 61)]⟩]) .ret) .skip)) (.seq (.reg [⟨(some 5), none, .mv, [.c (.int .i64 1)]⟩]) (.seq (.seq (.reg [⟨(some 31), none, (.fa 1), [.t 2]⟩, ⟨(some 32), none, .ld1, [.t 31]⟩, ⟨(some 33), none, .len, [.t 32]⟩, ⟨(some 34), none, .mv, [.c (.int .i64 0)]⟩]) (.blk 0 wb_event_count_0 (.loop wl_event_count_0 c_event_count_l0))) c_event_count_k0))))
theorem comp_event_count : compF Try.prog (mset [] [] []) (cset [] [] []) (wset [(0, wl_event_count_0, wb_event_count_0)] []) Try.f146 = some c_event_count := by kernel_rfl
theorem ok_event_count : fnOk Try.prog F_event_count = true := by kernel_rfl
theorem calls_event_count {args : List AV} {r : AV} (h : RunsX Try.prog 0 (Gives [.t 4] r) [.c c_event_count] (args ++ List.replicate (48 - args.length) (.tup [])) [] zeroC) : PCalls Try.prog F_event_count args r :=
  pcallsF Try.checked.mixed Try.func146 ok_event_count comp_event_count rfl (rs := [.t 4]) (by kernel_rfl) h
theorem hcalls_event_count {args : List AV} {Hin Hout : Heap} {nx nx2 : Ctr} {r : AV} (φ : Nat) (ks : List (Nat × Nat)) (h : RunsX Try.prog φ (GivesH ks [.t 4] r Hout nx2) [.c c_event_count] (args ++ List.replicate (48 - args.length) (.tup [])) Hin nx) : HCalls Try.prog F_event_count args Hin nx r Hout nx2 :=
  hcallsF Try.checked.mixed Try.func146 ok_event_count comp_event_count rfl (rs := [.t 4]) (by kernel_rfl) φ ks h

/-- pedlar/event.short: parameters [42], results [.t 2], calls event_leaf, event_short -/
def c_event_short : Cd := (.seq (.reg [⟨(some 1), none, .box, [.t 0]⟩, ⟨(some 2), none, .mv, [.c (.bool false)]⟩]) (.seq (.seq (.reg [⟨(some 5), none, (.ldn 2), [.t 1]⟩, ⟨(some 6), none, (.call F_event_leaf 0), [.t 5]⟩]) (.cond (.t 6) (.seq (.reg [⟨(some 2), none, .mv, [.c (.bool true)]⟩]) .ret) .skip)) (.seq (.reg [⟨(some 7), none, (.fa 1), [.t 1]⟩, ⟨(some 8), none, .ld1r, [.t 7]⟩, ⟨(some 9), none, (.ixS 2), [.t 8, .c (.int .i64 0)]⟩, ⟨(some 10), none, (.ldnr 2), [.t 9]⟩, ⟨(some 11), none, (.fa 1), [.t 1]⟩, ⟨(some 12), none, .ld1r, [.t 11]⟩, ⟨(some 13), none, (.ixS 2), [.t 12, .c (.int .i64 1)]⟩, ⟨(some 14), none, (.ldnr 2), [.t 13]⟩, ⟨(some 3), none, (.new [(.int .i64 0), .nils] 3), []⟩, ⟨(some 4), none, (.new [(.int .i64 0), .nils] 4), []⟩, ⟨none, none, (.stk 2 3), [.t 3, .t 10]⟩, ⟨none, none, (.stk 2 4), [.t 4, .t 14]⟩]) (.seq (.reg [⟨(some 15), none, (.ldn 2), [.t 3]⟩, ⟨(some 16), none, (.call F_event_short 0), [.t 15]⟩, ⟨(some 17), none, .mv, [.t 16]⟩, ⟨(some 18), (some (17, true)), (.ldn 2), [.t 4]⟩, ⟨(some 19), (some (17, true)), (.call F_event_short 0), [.t 18]⟩, ⟨(some 20), none, .pick, [.t 17, .t 19, .c (.bool false)]⟩, ⟨(some 21), none, .mv, [.t 20]⟩, ⟨(some 22), (some (21, true)), (.fa 0), [.t 3]⟩, ⟨(some 23), (some (21, true)), .ld1, [.t 22]⟩, ⟨(some 24), (some (21, true)), (.bin .eql), [.t 23, .c (.int .i64 0)]⟩, ⟨(some 25), (some (21, true)), .mv, [.t 24]⟩, ⟨(some 26), (some (25, false)), (.fa 0), [.t 4]⟩, ⟨(some 27), (some (25, false)), .ld1, [.t 26]⟩, ⟨(some 28), (some (25, false)), (.bin .eql), [.t 27, .c (.int .i64 0)]⟩, ⟨(some 29), (some (21, true)), .pick, [.t 25, .c (.bool true), .t 28]⟩, ⟨(some 30), none, .pick, [.t 21, .t 29, .c (.bool false)]⟩, ⟨(some 31), none, .mv, [.t 30]⟩, ⟨(some 32), (some (31, true)), (.ldn 2), [.t 3]⟩, ⟨(some 33), (some (31, true)), (.call F_event_leaf 0), [.t 32]⟩, ⟨(some 34), (some (31, true)), .mv, [.t 33]⟩, ⟨(some 35), (some (34, true)), (.ldn 2), [.t 4]⟩, ⟨(some 36), (some (34, true)), (.call F_event_leaf 0), [.t 35]⟩, ⟨(some 37), (some (31, true)), .pick, [.t 34, .t 36, .c (.bool false)]⟩, ⟨(some 38), (some (31, true)), .mv, [.t 37]⟩, ⟨(some 39), (some (38, true)), (.fa 0), [.t 3]⟩, ⟨(some 40), (some (38, true)), .ld1, [.t 39]⟩, ⟨(some 41), (some (38, true)), (.fa 0), [.t 4]⟩, ⟨(some 42), (some (38, true)), .ld1, [.t 41]⟩, ⟨(some 43), (some (38, true)), (.bin .eql), [.t 40, .t 42]⟩, ⟨(some 44), (some (31, true)), .pick, [.t 38, .t 43, .c (.bool false)]⟩, ⟨(some 45), (some (31, true)), .not, [.t 44]⟩, ⟨(some 46), none, .pick, [.t 31, .t 45, .c (.bool false)]⟩, ⟨(some 2), none, .mv, [.t 46]⟩]) .ret))))
theorem comp_event_short : compF Try.prog (mset [] [8, 10, 12, 14] [3, 4]) (cset [] [] []) (wset [] []) Try.f147 = some c_event_short := by kernel_rfl
theorem ok_event_short : fnOk Try.prog F_event_short = true := by kernel_rfl
theorem calls_event_short {args : List AV} {r : AV} (h : RunsX Try.prog 0 (Gives [.t 2] r) [.c c_event_short] (args ++ List.replicate (47 - args.length) (.tup [])) [] zeroC) : PCalls Try.prog F_event_short args r :=
  pcallsF Try.checked.mixed Try.func147 ok_event_short comp_event_short rfl (rs := [.t 2]) (by kernel_rfl) h
theorem hcalls_event_short {args : List AV} {Hin Hout : Heap} {nx nx2 : Ctr} {r : AV} (φ : Nat) (ks : List (Nat × Nat)) (h : RunsX Try.prog φ (GivesH ks [.t 2] r Hout nx2) [.c c_event_short] (args ++ List.replicate (47 - args.length) (.tup [])) Hin nx) : HCalls Try.prog F_event_short args Hin nx r Hout nx2 :=
  hcallsF Try.checked.mixed Try.func147 ok_event_short comp_event_short rfl (rs := [.t 2]) (by kernel_rfl) φ ks h

/-- pedlar/event.Right: parameters [42], results [.t 2], calls event_count, event_short -/
def c_event_Right : Cd := (.seq (.reg [⟨(some 1), none, .box, [.t 0]⟩, ⟨(some 2), none, .mv, [.c (.bool false)]⟩]) (.seq (.reg [⟨(some 3), none, (.ldn 2), [.t 1]⟩, ⟨(some 4), none, (.call F_event_count 0), [.t 3, .c (.int .i64 8)]⟩, ⟨(some 5), none, (.bin .leq), [.t 4, .c (.int .i64 60)]⟩, ⟨(some 6), none, .mv, [.t 5]⟩, ⟨(some 7), (some (6, true)), (.ldn 2), [.t 1]⟩, ⟨(some 8), (some (6, true)), (.call F_event_short 0), [.t 7]⟩, ⟨(some 9), none, .pick, [.t 6, .t 8, .c (.bool false)]⟩, ⟨(some 2), none, .mv, [.t 9]⟩]) .ret))
theorem comp_event_Right : compF Try.prog (mset [] [] []) (cset [] [] []) (wset [] []) Try.f99 = some c_event_Right := by kernel_rfl
theorem ok_event_Right : fnOk Try.prog F_event_Right = true := by kernel_rfl
theorem calls_event_Right {args : List AV} {r : AV} (h : RunsX Try.prog 0 (Gives [.t 2] r) [.c c_event_Right] (args ++ List.replicate (10 - args.length) (.tup [])) [] zeroC) : PCalls Try.prog F_event_Right args r :=
  pcallsF Try.checked.mixed Try.func99 ok_event_Right comp_event_Right rfl (rs := [.t 2]) (by kernel_rfl) h
theorem hcalls_event_Right {args : List AV} {Hin Hout : Heap} {nx nx2 : Ctr} {r : AV} (φ : Nat) (ks : List (Nat × Nat)) (h : RunsX Try.prog φ (GivesH ks [.t 2] r Hout nx2) [.c c_event_Right] (args ++ List.replicate (10 - args.length) (.tup [])) Hin nx) : HCalls Try.prog F_event_Right args Hin nx r Hout nx2 :=
  hcallsF Try.checked.mixed Try.func99 ok_event_Right comp_event_Right rfl (rs := [.t 2]) (by kernel_rfl) φ ks h

/-- pedlar/event.same: parameters [42, 42, 3], results [.t 6], calls event_same -/
def wl_event_same_0 : Mk := ⟨[true, true, false, false, false, true, true, true, true, true, true, true, true, true, true, true, true, true, true, true, true, true, true, true, true, true, true, true, false, false, true, true, true, true, true, true, true, true, true, true, true, true, true, true, true, true, true], []⟩
abbrev s_event_same_0 (t2 t3 t4 t28 t29 : AV) : List AV := [.any, .any, t2, t3, t4, .any, .any, .any, .any, .any, .any, .any, .any, .any, .any, .any, .any, .any, .any, .any, .any, .any, .any, .any, .any, .any, .any, .any, t28, t29, .any, .any, .any, .any, .any, .any, .any, .any, .any, .any, .any, .any, .any, .any, .any, .any, .any]
def c_event_same_l0 : Cd := (.seq (.reg [⟨(some 30), none, (.bin .lss), [.t 29, .t 28]⟩]) (.seq (.cond (.t 30) .skip (.exit 0)) (.seq (.blk 1 [] (.seq (.reg [⟨(some 31), none, .mv, [.t 29]⟩, ⟨(some 7), none, .mv, [.t 31]⟩]) (.seq (.reg [⟨(some 32), none, (.fa 1), [.t 3]⟩, ⟨(some 33), none, .ld1, [.t 32]⟩, ⟨(some 34), none, .mv, [.t 7]⟩, ⟨(some 35), none, (.ixS 2), [.t 33, .t 34]⟩, ⟨(some 36), none, (.ldn 2), [.t 35]⟩, ⟨(some 37), none, (.fa 1), [.t 4]⟩, ⟨(some 38), none, .ld1, [.t 37]⟩, ⟨(some 39), none, .mv, [.t 7]⟩, ⟨(some 40), none, (.ixS 2), [.t 38, .t 39]⟩, ⟨(some 41), none, (.ldn 2), [.t 40]⟩, ⟨(some 42), none, .mv, [.t 2]⟩, ⟨(some 43), none, (.bin .sub), [.t 42, .c (.int .i64 1)]⟩, ⟨(some 44), none, (.call F_event_same 0), [.t 36, .t 41, .t 43]⟩, ⟨(some 45), none, .not, [.t 44]⟩]) (.cond (.t 45) (.seq (.reg [⟨(some 6), none, .mv, [.c (.bool false)]⟩]) .ret) .skip)))) (.reg [⟨(some 46), none, (.bin .add), [.t 29, .c (.int .i64 1)]⟩, ⟨(some 29), none, .mv, [.t 46]⟩]))))
def wb_event_same_0 : List Bool := [true, true, true, true, true, true, true, true, true, true, true, true, true, true, true, true, true, true, true, true, true, true, true, true, true, true, true, true, true, true, true, true, true, true, true, true, true, true, true, true, true, true, true, true, true, true, true]
abbrev e_event_same_0 : List AV := [.any, .any, .any, .any, .any, .any, .any, .any, .any, .any, .any, .any, .any, .any, .any, .any, .any, .any, .any, .any, .any, .any, .any, .any, .any, .any, .any, .any, .any, .any, .any, .any, .any, .any, .any, .any, .any, .any, .any, .any, .any, .any, .any, .any, .any, .any, .any]
abbrev i_event_same_0 : List It := [.lp wl_event_same_0 c_event_same_l0, .blk 0 wb_event_same_0]
def c_event_same_k0 : Cd := (.seq (.reg [⟨(some 6), none, .mv, [.c (.bool true)]⟩]) .ret)
def c_event_same : Cd := (.seq (.reg [⟨(some 3), none, .box, [.t 0]⟩, ⟨(some 4), none, .box, [.t 1]⟩, ⟨(some 6), none, .mv, [.c (.bool false)]⟩]) (.seq (.seq (.reg [⟨(some 8), none, .mv, [.t 2]⟩, ⟨(some 9), none, (.bin .lss), [.t 8, .c (.int .i64 1)]⟩, ⟨(some 10), none, .mv, [.t 9]⟩, ⟨(some 11), (some (10, false)), (.fa 0), [.t 3]⟩, ⟨(some 12), (some (10, false)), .ld1, [.t 11]⟩, ⟨(some 13), (some (10, false)), (.fa 0), [.t 4]⟩, ⟨(some 14), (some (10, false)), .ld1, [.t 13]⟩, ⟨(some 15), (some (10, false)), (.bin .neq), [.t 12, .t 14]⟩, ⟨(some 16), none, .pick, [.t 10, .c (.bool true), .t 15]⟩, ⟨(some 17), none, .mv, [.t 16]⟩, ⟨(some 18), (some (17, false)), (.fa 1), [.t 3]⟩, ⟨(some 19), (some (17, false)), .ld1, [.t 18]⟩, ⟨(some 20), (some (17, false)), .len, [.t 19]⟩, ⟨(some 21), (some (17, false)), (.fa 1), [.t 4]⟩, ⟨(some 22), (some (17, false)), .ld1, [.t 21]⟩, ⟨(some 23), (some (17, false)), .len, [.t 22]⟩, ⟨(some 24), (some (17, false)), (.bin .neq), [.t 20, .t 23]⟩, ⟨(some 25), none, .pick, [.t 17, .c (.bool true), .t 24]⟩]) (.cond (.t 25) (.seq (.reg [⟨(some 6), none, .mv, [.c (.bool false)]⟩]) .ret) .skip)) (.seq (.seq (.reg [⟨(some 26), none, (.fa 1), [.t 3]⟩, ⟨(some 27), none, .ld1, [.t 26]⟩, ⟨(some 28), none, .len, [.t 27]⟩, ⟨(some 29), none, .mv, [.c (.int .i64 0)]⟩]) (.blk 0 wb_event_same_0 (.loop wl_event_same_0 c_event_same_l0))) c_event_same_k0)))
theorem comp_event_same : compF Try.prog (mset [] [] []) (cset [] [] []) (wset [(0, wl_event_same_0, wb_event_same_0)] []) Try.f151 = some c_event_same := by kernel_rfl
theorem ok_event_same : fnOk Try.prog F_event_same = true := by kernel_rfl
theorem calls_event_same {args : List AV} {r : AV} (h : RunsX Try.prog 0 (Gives [.t 6] r) [.c c_event_same] (args ++ List.replicate (47 - args.length) (.tup [])) [] zeroC) : PCalls Try.prog F_event_same args r :=
  pcallsF Try.checked.mixed Try.func151 ok_event_same comp_event_same rfl (rs := [.t 6]) (by kernel_rfl) h
theorem hcalls_event_same {args : List AV} {Hin Hout : Heap} {nx nx2 : Ctr} {r : AV} (φ : Nat) (ks : List (Nat × Nat)) (h : RunsX Try.prog φ (GivesH ks [.t 6] r Hout nx2) [.c c_event_same] (args ++ List.replicate (47 - args.length) (.tup [])) Hin nx) : HCalls Try.prog F_event_same args Hin nx r Hout nx2 :=
  hcallsF Try.checked.mixed Try.func151 ok_event_same comp_event_same rfl (rs := [.t 6]) (by kernel_rfl) φ ks h

/-- pedlar/event.Same: parameters [42, 42], results [.t 4], calls event_same -/
def c_event_Same : Cd := (.seq (.reg [⟨(some 2), none, .box, [.t 0]⟩, ⟨(some 3), none, .box, [.t 1]⟩, ⟨(some 4), none, .mv, [.c (.bool false)]⟩]) (.seq (.reg [⟨(some 5), none, (.ldn 2), [.t 2]⟩, ⟨(some 6), none, (.ldn 2), [.t 3]⟩, ⟨(some 7), none, (.call F_event_same 0), [.t 5, .t 6, .c (.int .i64 8)]⟩, ⟨(some 4), none, .mv, [.t 7]⟩]) .ret))
theorem comp_event_Same : compF Try.prog (mset [] [] []) (cset [] [] []) (wset [] []) Try.f101 = some c_event_Same := by kernel_rfl
theorem ok_event_Same : fnOk Try.prog F_event_Same = true := by kernel_rfl
theorem calls_event_Same {args : List AV} {r : AV} (h : RunsX Try.prog 0 (Gives [.t 4] r) [.c c_event_Same] (args ++ List.replicate (8 - args.length) (.tup [])) [] zeroC) : PCalls Try.prog F_event_Same args r :=
  pcallsF Try.checked.mixed Try.func101 ok_event_Same comp_event_Same rfl (rs := [.t 4]) (by kernel_rfl) h
theorem hcalls_event_Same {args : List AV} {Hin Hout : Heap} {nx nx2 : Ctr} {r : AV} (φ : Nat) (ks : List (Nat × Nat)) (h : RunsX Try.prog φ (GivesH ks [.t 4] r Hout nx2) [.c c_event_Same] (args ++ List.replicate (8 - args.length) (.tup [])) Hin nx) : HCalls Try.prog F_event_Same args Hin nx r Hout nx2 :=
  hcallsF Try.checked.mixed Try.func101 ok_event_Same comp_event_Same rfl (rs := [.t 4]) (by kernel_rfl) φ ks h

/-- pedlar/event.shallow: parameters [42, 3], results [.t 4], calls event_shallow -/
def wl_event_shallow_0 : Mk := ⟨[true, false, true, true, true, true, true, true, false, false, false, true, true, true, true, true, true, true, true, true, true, true, true, true, true, true], [6]⟩
abbrev s_event_shallow_0 (t1 t8 t9 t10 : AV) : List AV := [.any, t1, .any, .any, .any, .any, .any, .any, t8, t9, t10, .any, .any, .any, .any, .any, .any, .any, .any, .any, .any, .any, .any, .any, .any, .any]
def c_event_shallow_l0 : Cd := (.seq (.reg [⟨(some 11), none, (.bin .lss), [.t 10, .t 9]⟩]) (.seq (.cond (.t 11) .skip (.exit 0)) (.seq (.blk 1 [] (.seq (.reg [⟨(some 12), none, (.ixS 2), [.t 8, .t 10]⟩, ⟨(some 13), none, (.ldn 2), [.t 12]⟩, ⟨(some 6), none, (.new [(.int .i64 0), .nils] 6), []⟩, ⟨none, none, (.st 2), [.t 6, .t 13]⟩]) (.seq (.reg [⟨(some 14), none, .mv, [.t 1]⟩, ⟨(some 15), none, (.bin .leq), [.t 14, .c (.int .i64 1)]⟩, ⟨(some 16), none, .mv, [.t 15]⟩, ⟨(some 17), (some (16, false)), (.ldn 2), [.t 6]⟩, ⟨(some 18), (some (16, false)), .mv, [.t 1]⟩, ⟨(some 19), (some (16, false)), (.bin .sub), [.t 18, .c (.int .i64 1)]⟩, ⟨(some 20), (some (16, false)), (.call F_event_shallow 0), [.t 17, .t 19]⟩, ⟨(some 21), (some (16, false)), .not, [.t 20]⟩, ⟨(some 22), none, .pick, [.t 16, .c (.bool true), .t 21]⟩]) (.cond (.t 22) (.seq (.reg [⟨(some 4), none, .mv, [.c (.bool false)]⟩]) .ret) .skip)))) (.reg [⟨(some 23), none, (.bin .add), [.t 10, .c (.int .i64 1)]⟩, ⟨(some 10), none, .mv, [.t 23]⟩]))))
def wb_event_shallow_0 : List Bool := [true, false, true, true, true, true, true, true, true, true, true, true, true, true, true, true, true, true, true, true, true, true, true, true, true, true]
abbrev e_event_shallow_0 (t1 : AV) : List AV := [.any, t1, .any, .any, .any, .any, .any, .any, .any, .any, .any, .any, .any, .any, .any, .any, .any, .any, .any, .any, .any, .any, .any, .any, .any, .any]
abbrev i_event_shallow_0 : List It := [.lp wl_event_shallow_0 c_event_shallow_l0, .blk 0 wb_event_shallow_0]
def c_event_shallow_k0 : Cd := (.seq (.reg [⟨(some 24), none, .mv, [.t 1]⟩, ⟨(some 25), none, (.bin .geq), [.t 24, .c (.int .i64 1)]⟩, ⟨(some 4), none, .mv, [.t 25]⟩]) .ret)
def c_event_shallow : Cd := (.seq (.reg [⟨(some 2), none, .box, [.t 0]⟩, ⟨(some 4), none, .mv, [.c (.bool false)]⟩]) (.seq (.seq (.reg [⟨(some 7), none, (.fa 1), [.t 2]⟩, ⟨(some 8), none, .ld1, [.t 7]⟩, ⟨(some 9), none, .len, [.t 8]⟩, ⟨(some 10), none, .mv, [.c (.int .i64 0)]⟩]) (.blk 0 wb_event_shallow_0 (.loop wl_event_shallow_0 c_event_shallow_l0))) c_event_shallow_k0))
theorem comp_event_shallow : compF Try.prog (mset [] [] []) (cset [] [] []) (wset [(0, wl_event_shallow_0, wb_event_shallow_0)] []) Try.f165 = some c_event_shallow := by kernel_rfl
theorem ok_event_shallow : fnOk Try.prog F_event_shallow = true := by kernel_rfl
theorem calls_event_shallow {args : List AV} {r : AV} (h : RunsX Try.prog 0 (Gives [.t 4] r) [.c c_event_shallow] (args ++ List.replicate (26 - args.length) (.tup [])) [] zeroC) : PCalls Try.prog F_event_shallow args r :=
  pcallsF Try.checked.mixed Try.func165 ok_event_shallow comp_event_shallow rfl (rs := [.t 4]) (by kernel_rfl) h
theorem hcalls_event_shallow {args : List AV} {Hin Hout : Heap} {nx nx2 : Ctr} {r : AV} (φ : Nat) (ks : List (Nat × Nat)) (h : RunsX Try.prog φ (GivesH ks [.t 4] r Hout nx2) [.c c_event_shallow] (args ++ List.replicate (26 - args.length) (.tup [])) Hin nx) : HCalls Try.prog F_event_shallow args Hin nx r Hout nx2 :=
  hcallsF Try.checked.mixed Try.func165 ok_event_shallow comp_event_shallow rfl (rs := [.t 4]) (by kernel_rfl) φ ks h

/-- pedlar/event.clone: parameters [42], results [.cn 2 2], calls event_clone -/
def wl_event_clone_0 : Mk := ⟨[true, true, false, false, true, true, true, true, true, true, false, false, false, true, true, true, true, true, true, true, true, true, true, true, true], [5]⟩
abbrev s_event_clone_0 (t2 t3 t10 t11 t12 : AV) : List AV := [.any, .any, t2, t3, .any, .any, .any, .any, .any, .any, t10, t11, t12, .any, .any, .any, .any, .any, .any, .any, .any, .any, .any, .any, .any]
def c_event_clone_l0 : Cd := (.seq (.reg [⟨(some 13), none, (.bin .lss), [.t 12, .t 11]⟩]) (.seq (.cond (.t 13) .skip (.exit 0)) (.seq (.blk 1 [] (.seq (.reg [⟨(some 14), none, (.ixS 2), [.t 10, .t 12]⟩, ⟨(some 15), none, (.ldn 2), [.t 14]⟩, ⟨(some 5), none, (.new [(.int .i64 0), .nils] 5), []⟩, ⟨none, none, (.st 2), [.t 5, .t 15]⟩]) (.reg [⟨(some 16), none, (.fa 1), [.t 3]⟩, ⟨(some 17), none, .ld1, [.t 16]⟩, ⟨(some 18), none, (.ldn 2), [.t 5]⟩, ⟨(some 19), none, (.call F_event_clone 0), [.t 18]⟩, ⟨(some 20), none, (.lit 2 1), [.t 19]⟩, ⟨(some 21), none, (.app 2 32 21), [.t 17, .t 20]⟩, ⟨(some 22), none, (.fa 1), [.t 3]⟩, ⟨none, none, (.st 1), [.t 22, .t 21]⟩]))) (.reg [⟨(some 23), none, (.bin .add), [.t 12, .c (.int .i64 1)]⟩, ⟨(some 12), none, .mv, [.t 23]⟩]))))
def wb_event_clone_0 : List Bool := [true, true, false, false, true, true, true, true, true, true, true, true, true, true, true, true, true, true, true, true, true, true, true, true, true]
abbrev e_event_clone_0 (t2 t3 : AV) : List AV := [.any, .any, t2, t3, .any, .any, .any, .any, .any, .any, .any, .any, .any, .any, .any, .any, .any, .any, .any, .any, .any, .any, .any, .any, .any]
abbrev i_event_clone_0 : List It := [.lp wl_event_clone_0 c_event_clone_l0, .blk 0 wb_event_clone_0]
def c_event_clone_k0 : Cd := (.seq (.reg [⟨(some 24), none, (.ldn 2), [.t 3]⟩, ⟨none, none, (.st 2), [.t 2, .t 24]⟩]) .ret)
def c_event_clone : Cd := (.seq (.reg [⟨(some 1), none, .box, [.t 0]⟩, ⟨(some 2), none, (.new [(.int .i64 0), .nils] 2), []⟩]) (.seq (.reg [⟨(some 6), none, (.fa 0), [.t 1]⟩, ⟨(some 7), none, .ld1, [.t 6]⟩, ⟨(some 8), none, (.bld [(.int .i64 0), .nils] [(0, 1)]), [.t 7]⟩, ⟨(some 3), none, (.new [(.int .i64 0), .nils] 3), []⟩, ⟨none, none, (.st 2), [.t 3, .t 8]⟩]) (.seq (.seq (.reg [⟨(some 9), none, (.fa 1), [.t 1]⟩, ⟨(some 10), none, .ld1, [.t 9]⟩, ⟨(some 11), none, .len, [.t 10]⟩, ⟨(some 12), none, .mv, [.c (.int .i64 0)]⟩]) (.blk 0 wb_event_clone_0 (.loop wl_event_clone_0 c_event_clone_l0))) c_event_clone_k0)))
theorem comp_event_clone : compF Try.prog (mset [] [] []) (cset [] [] []) (wset [(0, wl_event_clone_0, wb_event_clone_0)] []) Try.f166 = some c_event_clone := by kernel_rfl
theorem ok_event_clone : fnOk Try.prog F_event_clone = true := by kernel_rfl
theorem calls_event_clone {args : List AV} {r : AV} (h : RunsX Try.prog 0 (Gives [.cn 2 2] r) [.c c_event_clone] (args ++ List.replicate (25 - args.length) (.tup [])) [] zeroC) : PCalls Try.prog F_event_clone args r :=
  pcallsF Try.checked.mixed Try.func166 ok_event_clone comp_event_clone rfl (rs := [.cn 2 2]) (by kernel_rfl) h
theorem hcalls_event_clone {args : List AV} {Hin Hout : Heap} {nx nx2 : Ctr} {r : AV} (φ : Nat) (ks : List (Nat × Nat)) (h : RunsX Try.prog φ (GivesH ks [.cn 2 2] r Hout nx2) [.c c_event_clone] (args ++ List.replicate (25 - args.length) (.tup [])) Hin nx) : HCalls Try.prog F_event_clone args Hin nx r Hout nx2 :=
  hcallsF Try.checked.mixed Try.func166 ok_event_clone comp_event_clone rfl (rs := [.cn 2 2]) (by kernel_rfl) φ ks h

/-- pedlar/event.Clone: parameters [42], results [.cn 2 2], calls event_shallow, event_clone -/
def c_event_Clone : Cd := (.seq (.reg [⟨(some 1), none, .box, [.t 0]⟩, ⟨(some 2), none, (.new [(.int .i64 0), .nils] 2), []⟩]) (.seq (.seq (.reg [⟨(some 3), none, (.ldn 2), [.t 1]⟩, ⟨(some 4), none, (.call F_event_shallow 0), [.t 3, .c (.int .i64 8)]⟩, ⟨(some 5), none, .not, [.t 4]⟩]) (.cond (.t 5) (.seq (.reg [⟨(some 6), none, (.bld [(.int .i64 0), .nils] []), []⟩, ⟨none, none, (.st 2), [.t 2, .t 6]⟩]) .ret) .skip)) (.seq (.reg [⟨(some 7), none, (.ldn 2), [.t 1]⟩, ⟨(some 8), none, (.call F_event_clone 0), [.t 7]⟩, ⟨none, none, (.st 2), [.t 2, .t 8]⟩]) .ret)))
theorem comp_event_Clone : compF Try.prog (mset [] [] []) (cset [] [] []) (wset [] []) Try.f133 = some c_event_Clone := by kernel_rfl
theorem ok_event_Clone : fnOk Try.prog F_event_Clone = true := by kernel_rfl
theorem calls_event_Clone {args : List AV} {r : AV} (h : RunsX Try.prog 0 (Gives [.cn 2 2] r) [.c c_event_Clone] (args ++ List.replicate (9 - args.length) (.tup [])) [] zeroC) : PCalls Try.prog F_event_Clone args r :=
  pcallsF Try.checked.mixed Try.func133 ok_event_Clone comp_event_Clone rfl (rs := [.cn 2 2]) (by kernel_rfl) h
theorem hcalls_event_Clone {args : List AV} {Hin Hout : Heap} {nx nx2 : Ctr} {r : AV} (φ : Nat) (ks : List (Nat × Nat)) (h : RunsX Try.prog φ (GivesH ks [.cn 2 2] r Hout nx2) [.c c_event_Clone] (args ++ List.replicate (9 - args.length) (.tup [])) Hin nx) : HCalls Try.prog F_event_Clone args Hin nx r Hout nx2 :=
  hcallsF Try.checked.mixed Try.func133 ok_event_Clone comp_event_Clone rfl (rs := [.cn 2 2]) (by kernel_rfl) φ ks h

/-- pedlar/event.lift: parameters [42, 2], results [.cn 4 2], calls  -/
def c_event_lift : Cd := (.seq (.reg [⟨(some 2), none, .box, [.t 0]⟩, ⟨(some 4), none, (.new [(.int .i64 0), .nils] 4), []⟩]) (.seq (.reg [⟨(some 5), none, (.fa 0), [.t 2]⟩, ⟨(some 6), none, .ld1, [.t 5]⟩, ⟨(some 7), none, .mv, [.t 1]⟩, ⟨(some 8), none, (.bin .add), [.t 6, .t 7]⟩, ⟨(some 9), none, (.fa 1), [.t 2]⟩, ⟨(some 10), none, .ld1, [.t 9]⟩, ⟨(some 11), none, (.bld [(.int .i64 0), .nils] [(0, 1), (1, 1)]), [.t 8, .t 10]⟩, ⟨none, none, (.st 2), [.t 4, .t 11]⟩]) .ret))
theorem comp_event_lift : compF Try.prog (mset [] [] []) (cset [] [] []) (wset [] []) Try.f152 = some c_event_lift := by kernel_rfl
theorem ok_event_lift : fnOk Try.prog F_event_lift = true := by kernel_rfl
theorem calls_event_lift {args : List AV} {r : AV} (h : RunsX Try.prog 0 (Gives [.cn 4 2] r) [.c c_event_lift] (args ++ List.replicate (12 - args.length) (.tup [])) [] zeroC) : PCalls Try.prog F_event_lift args r :=
  pcallsF Try.checked.mixed Try.func152 ok_event_lift comp_event_lift rfl (rs := [.cn 4 2]) (by kernel_rfl) h
theorem hcalls_event_lift {args : List AV} {Hin Hout : Heap} {nx nx2 : Ctr} {r : AV} (φ : Nat) (ks : List (Nat × Nat)) (h : RunsX Try.prog φ (GivesH ks [.cn 4 2] r Hout nx2) [.c c_event_lift] (args ++ List.replicate (12 - args.length) (.tup [])) Hin nx) : HCalls Try.prog F_event_lift args Hin nx r Hout nx2 :=
  hcallsF Try.checked.mixed Try.func152 ok_event_lift comp_event_lift rfl (rs := [.cn 4 2]) (by kernel_rfl) φ ks h

/-- pedlar/event.half: parameters [42, 3], results [.cn 4 2], calls event_leaf, event_lift -/
def c_event_half : Cd := (.seq (.reg [⟨(some 2), none, .box, [.t 0]⟩, ⟨(some 4), none, (.new [(.int .i64 0), .nils] 4), []⟩]) (.seq (.seq (.reg [⟨(some 5), none, (.ldn 2), [.t 2]⟩, ⟨(some 6), none, (.call F_event_leaf 0), [.t 5]⟩]) (.cond (.t 6) (.seq (.reg [⟨(some 7), none, (.ldn 2), [.t 2]⟩, ⟨none, none, (.st 2), [.t 4, .t 7]⟩]) .ret) .skip)) (.seq (.reg [⟨(some 8), none, (.fa 1), [.t 2]⟩, ⟨(some 9), none, .ld1, [.t 8]⟩, ⟨(some 10), none, .mv, [.t 1]⟩, ⟨(some 11), none, (.ixS 2), [.t 9, .t 10]⟩, ⟨(some 12), none, (.ldn 2), [.t 11]⟩, ⟨(some 13), none, (.fa 0), [.t 2]⟩, ⟨(some 14), none, .ld1, [.t 13]⟩, ⟨(some 15), none, (.call F_event_lift 0), [.t 12, .t 14]⟩, ⟨none, none, (.st 2), [.t 4, .t 15]⟩]) .ret)))
theorem comp_event_half : compF Try.prog (mset [] [] []) (cset [] [] []) (wset [] []) Try.f154 = some c_event_half := by kernel_rfl
theorem ok_event_half : fnOk Try.prog F_event_half = true := by kernel_rfl
theorem calls_event_half {args : List AV} {r : AV} (h : RunsX Try.prog 0 (Gives [.cn 4 2] r) [.c c_event_half] (args ++ List.replicate (16 - args.length) (.tup [])) [] zeroC) : PCalls Try.prog F_event_half args r :=
  pcallsF Try.checked.mixed Try.func154 ok_event_half comp_event_half rfl (rs := [.cn 4 2]) (by kernel_rfl) h
theorem hcalls_event_half {args : List AV} {Hin Hout : Heap} {nx nx2 : Ctr} {r : AV} (φ : Nat) (ks : List (Nat × Nat)) (h : RunsX Try.prog φ (GivesH ks [.cn 4 2] r Hout nx2) [.c c_event_half] (args ++ List.replicate (16 - args.length) (.tup [])) Hin nx) : HCalls Try.prog F_event_half args Hin nx r Hout nx2 :=
  hcallsF Try.checked.mixed Try.func154 ok_event_half comp_event_half rfl (rs := [.cn 4 2]) (by kernel_rfl) φ ks h

/-- pedlar/event.leq: parameters [42, 42], results [.t 4], calls event_leaf, event_half, event_leq -/
def c_event_leq : Cd := (.seq (.reg [⟨(some 2), none, .box, [.t 0]⟩, ⟨(some 3), none, .box, [.t 1]⟩, ⟨(some 4), none, .mv, [.c (.bool false)]⟩]) (.seq (.seq (.reg [⟨(some 5), none, (.ldn 2), [.t 2]⟩, ⟨(some 6), none, (.call F_event_leaf 0), [.t 5]⟩, ⟨(some 7), none, .mv, [.t 6]⟩, ⟨(some 8), (some (7, true)), (.ldn 2), [.t 3]⟩, ⟨(some 9), (some (7, true)), (.call F_event_leaf 0), [.t 8]⟩, ⟨(some 10), none, .pick, [.t 7, .t 9, .c (.bool false)]⟩]) (.cond (.t 10) (.seq (.reg [⟨(some 11), none, (.fa 0), [.t 2]⟩, ⟨(some 12), none, .ld1, [.t 11]⟩, ⟨(some 13), none, (.fa 0), [.t 3]⟩, ⟨(some 14), none, .ld1, [.t 13]⟩, ⟨(some 15), none, (.bin .leq), [.t 12, .t 14]⟩, ⟨(some 4), none, .mv, [.t 15]⟩]) .ret) .skip)) (.seq (.reg [⟨(some 16), none, (.ldn 2), [.t 2]⟩, ⟨(some 17), none, (.call F_event_half 0), [.t 16, .c (.int .i64 0)]⟩, ⟨(some 18), none, (.ldn 2), [.t 3]⟩, ⟨(some 19), none, (.call F_event_half 0), [.t 18, .c (.int .i64 0)]⟩, ⟨(some 20), none, (.call F_event_leq 0), [.t 17, .t 19]⟩, ⟨(some 21), none, .mv, [.t 20]⟩, ⟨(some 22), (some (21, true)), (.ldn 2), [.t 2]⟩, ⟨(some 23), (some (21, true)), (.call F_event_half 0), [.t 22, .c (.int .i64 1)]⟩, ⟨(some 24), (some (21, true)), (.ldn 2), [.t 3]⟩, ⟨(some 25), (some (21, true)), (.call F_event_half 0), [.t 24, .c (.int .i64 1)]⟩, ⟨(some 26), (some (21, true)), (.call F_event_leq 0), [.t 23, .t 25]⟩, ⟨(some 27), none, .pick, [.t 21, .t 26, .c (.bool false)]⟩, ⟨(some 4), none, .mv, [.t 27]⟩]) .ret)))
theorem comp_event_leq : compF Try.prog (mset [] [] []) (cset [] [] []) (wset [] []) Try.f112 = some c_event_leq := by kernel_rfl
theorem ok_event_leq : fnOk Try.prog F_event_leq = true := by kernel_rfl
theorem calls_event_leq {args : List AV} {r : AV} (h : RunsX Try.prog 0 (Gives [.t 4] r) [.c c_event_leq] (args ++ List.replicate (28 - args.length) (.tup [])) [] zeroC) : PCalls Try.prog F_event_leq args r :=
  pcallsF Try.checked.mixed Try.func112 ok_event_leq comp_event_leq rfl (rs := [.t 4]) (by kernel_rfl) h
theorem hcalls_event_leq {args : List AV} {Hin Hout : Heap} {nx nx2 : Ctr} {r : AV} (φ : Nat) (ks : List (Nat × Nat)) (h : RunsX Try.prog φ (GivesH ks [.t 4] r Hout nx2) [.c c_event_leq] (args ++ List.replicate (28 - args.length) (.tup [])) Hin nx) : HCalls Try.prog F_event_leq args Hin nx r Hout nx2 :=
  hcallsF Try.checked.mixed Try.func112 ok_event_leq comp_event_leq rfl (rs := [.t 4]) (by kernel_rfl) φ ks h

/-- pedlar/event.Leq: parameters [42, 42], results [.t 4], calls event_Right, event_leq -/
def c_event_Leq : Cd := (.seq (.reg [⟨(some 2), none, .box, [.t 0]⟩, ⟨(some 3), none, .box, [.t 1]⟩, ⟨(some 4), none, .mv, [.c (.bool false)]⟩]) (.seq (.reg [⟨(some 5), none, (.ldn 2), [.t 2]⟩, ⟨(some 6), none, (.call F_event_Right 0), [.t 5]⟩, ⟨(some 7), none, .mv, [.t 6]⟩, ⟨(some 8), (some (7, true)), (.ldn 2), [.t 3]⟩, ⟨(some 9), (some (7, true)), (.call F_event_Right 0), [.t 8]⟩, ⟨(some 10), none, .pick, [.t 7, .t 9, .c (.bool false)]⟩, ⟨(some 11), none, .mv, [.t 10]⟩, ⟨(some 12), (some (11, true)), (.ldn 2), [.t 2]⟩, ⟨(some 13), (some (11, true)), (.ldn 2), [.t 3]⟩, ⟨(some 14), (some (11, true)), (.call F_event_leq 0), [.t 12, .t 13]⟩, ⟨(some 15), none, .pick, [.t 11, .t 14, .c (.bool false)]⟩, ⟨(some 4), none, .mv, [.t 15]⟩]) .ret))
theorem comp_event_Leq : compF Try.prog (mset [] [] []) (cset [] [] []) (wset [] []) Try.f44 = some c_event_Leq := by kernel_rfl
theorem ok_event_Leq : fnOk Try.prog F_event_Leq = true := by kernel_rfl
theorem calls_event_Leq {args : List AV} {r : AV} (h : RunsX Try.prog 0 (Gives [.t 4] r) [.c c_event_Leq] (args ++ List.replicate (16 - args.length) (.tup [])) [] zeroC) : PCalls Try.prog F_event_Leq args r :=
  pcallsF Try.checked.mixed Try.func44 ok_event_Leq comp_event_Leq rfl (rs := [.t 4]) (by kernel_rfl) h
theorem hcalls_event_Leq {args : List AV} {Hin Hout : Heap} {nx nx2 : Ctr} {r : AV} (φ : Nat) (ks : List (Nat × Nat)) (h : RunsX Try.prog φ (GivesH ks [.t 4] r Hout nx2) [.c c_event_Leq] (args ++ List.replicate (16 - args.length) (.tup [])) Hin nx) : HCalls Try.prog F_event_Leq args Hin nx r Hout nx2 :=
  hcallsF Try.checked.mixed Try.func44 ok_event_Leq comp_event_Leq rfl (rs := [.t 4]) (by kernel_rfl) φ ks h

/-- pedlar/event.node: parameters [2, 42, 42], results [.cn 6 2], calls event_leaf, event_lift -/
def c_event_node : Cd := (.seq (.reg [⟨(some 4), none, .box, [.t 1]⟩, ⟨(some 5), none, .box, [.t 2]⟩, ⟨(some 6), none, (.new [(.int .i64 0), .nils] 6), []⟩]) (.seq (.reg [⟨(some 8), none, (.fa 0), [.t 4]⟩, ⟨(some 9), none, .ld1, [.t 8]⟩, ⟨(some 10), none, (.fa 0), [.t 5]⟩, ⟨(some 11), none, .ld1, [.t 10]⟩, ⟨(some 12), none, .mn, [.t 9, .t 11]⟩, ⟨(some 7), none, .mv, [.t 12]⟩]) (.seq (.seq (.reg [⟨(some 13), none, (.ldn 2), [.t 4]⟩, ⟨(some 14), none, (.call F_event_leaf 0), [.t 13]⟩, ⟨(some 15), none, .mv, [.t 14]⟩, ⟨(some 16), (some (15, true)), (.ldn 2), [.t 5]⟩, ⟨(some 17), (some (15, true)), (.call F_event_leaf 0), [.t 16]⟩, ⟨(some 18), none, .pick, [.t 15, .t 17, .c (.bool false)]⟩, ⟨(some 19), none, .mv, [.t 18]⟩, ⟨(some 20), (some (19, true)), (.fa 0), [.t 4]⟩, ⟨(some 21), (some (19, true)), .ld1, [.t 20]⟩, ⟨(some 22), (some (19, true)), (.fa 0), [.t 5]⟩, ⟨(some 23), (some (19, true)), .ld1, [.t 22]⟩, ⟨(some 24), (some (19, true)), (.bin .eql), [.t 21, .t 23]⟩, ⟨(some 25), none, .pick, [.t 19, .t 24, .c (.bool false)]⟩]) (.cond (.t 25) (.seq (.reg [⟨(some 26), none, .mv, [.t 0]⟩, ⟨(some 27), none, .mv, [.t 7]⟩, ⟨(some 28), none, (.bin .add), [.t 26, .t 27]⟩, ⟨(some 29), none, (.bld [(.int .i64 0), .nils] [(0, 1)]), [.t 28]⟩, ⟨none, none, (.st 2), [.t 6, .t 29]⟩]) .ret) .skip)) (.seq (.reg [⟨(some 30), none, .mv, [.t 0]⟩, ⟨(some 31), none, .mv, [.t 7]⟩, ⟨(some 32), none, (.bin .add), [.t 30, .t 31]⟩, ⟨(some 33), none, (.ldn 2), [.t 4]⟩, ⟨(some 34), none, .mv, [.t 7]⟩, ⟨(some 35), none, .neg, [.t 34]⟩, ⟨(some 36), none, (.call F_event_lift 0), [.t 33, .t 35]⟩, ⟨(some 37), none, (.ldn 2), [.t 5]⟩, ⟨(some 38), none, .mv, [.t 7]⟩, ⟨(some 39), none, .neg, [.t 38]⟩, ⟨(some 40), none, (.call F_event_lift 0), [.t 37, .t 39]⟩, ⟨(some 41), none, (.lit 2 2), [.t 36, .t 40]⟩, ⟨(some 42), none, (.bld [(.int .i64 0), .nils] [(0, 1), (1, 1)]), [.t 32, .t 41]⟩, ⟨none, none, (.st 2), [.t 6, .t 42]⟩]) .ret))))
theorem comp_event_node : compF Try.prog (mset [] [] []) (cset [] [] []) (wset [] []) Try.f150 = some c_event_node := by kernel_rfl
theorem ok_event_node : fnOk Try.prog F_event_node = true := by kernel_rfl
theorem calls_event_node {args : List AV} {r : AV} (h : RunsX Try.prog 0 (Gives [.cn 6 2] r) [.c c_event_node] (args ++ List.replicate (43 - args.length) (.tup [])) [] zeroC) : PCalls Try.prog F_event_node args r :=
  pcallsF Try.checked.mixed Try.func150 ok_event_node comp_event_node rfl (rs := [.cn 6 2]) (by kernel_rfl) h
theorem hcalls_event_node {args : List AV} {Hin Hout : Heap} {nx nx2 : Ctr} {r : AV} (φ : Nat) (ks : List (Nat × Nat)) (h : RunsX Try.prog φ (GivesH ks [.cn 6 2] r Hout nx2) [.c c_event_node] (args ++ List.replicate (43 - args.length) (.tup [])) Hin nx) : HCalls Try.prog F_event_node args Hin nx r Hout nx2 :=
  hcallsF Try.checked.mixed Try.func150 ok_event_node comp_event_node rfl (rs := [.cn 6 2]) (by kernel_rfl) φ ks h

/-- pedlar/event.join: parameters [42, 42], results [.cn 4 2], calls event_leaf, event_half, event_join, event_node -/
def c_event_join : Cd := (.seq (.reg [⟨(some 2), none, .box, [.t 0]⟩, ⟨(some 3), none, .box, [.t 1]⟩, ⟨(some 4), none, (.new [(.int .i64 0), .nils] 4), []⟩]) (.seq (.seq (.reg [⟨(some 5), none, (.ldn 2), [.t 2]⟩, ⟨(some 6), none, (.call F_event_leaf 0), [.t 5]⟩, ⟨(some 7), none, .mv, [.t 6]⟩, ⟨(some 8), (some (7, true)), (.ldn 2), [.t 3]⟩, ⟨(some 9), (some (7, true)), (.call F_event_leaf 0), [.t 8]⟩, ⟨(some 10), none, .pick, [.t 7, .t 9, .c (.bool false)]⟩]) (.cond (.t 10) (.seq (.reg [⟨(some 11), none, (.fa 0), [.t 2]⟩, ⟨(some 12), none, .ld1, [.t 11]⟩, ⟨(some 13), none, (.fa 0), [.t 3]⟩, ⟨(some 14), none, .ld1, [.t 13]⟩, ⟨(some 15), none, .mx, [.t 12, .t 14]⟩, ⟨(some 16), none, (.bld [(.int .i64 0), .nils] [(0, 1)]), [.t 15]⟩, ⟨none, none, (.st 2), [.t 4, .t 16]⟩]) .ret) .skip)) (.seq (.reg [⟨(some 17), none, (.ldn 2), [.t 2]⟩, ⟨(some 18), none, (.call F_event_half 0), [.t 17, .c (.int .i64 0)]⟩, ⟨(some 19), none, (.ldn 2), [.t 3]⟩, ⟨(some 20), none, (.call F_event_half 0), [.t 19, .c (.int .i64 0)]⟩, ⟨(some 21), none, (.call F_event_join 0), [.t 18, .t 20]⟩, ⟨(some 22), none, (.ldn 2), [.t 2]⟩, ⟨(some 23), none, (.call F_event_half 0), [.t 22, .c (.int .i64 1)]⟩, ⟨(some 24), none, (.ldn 2), [.t 3]⟩, ⟨(some 25), none, (.call F_event_half 0), [.t 24, .c (.int .i64 1)]⟩, ⟨(some 26), none, (.call F_event_join 0), [.t 23, .t 25]⟩, ⟨(some 27), none, (.call F_event_node 0), [.c (.int .i64 0), .t 21, .t 26]⟩, ⟨none, none, (.st 2), [.t 4, .t 27]⟩]) .ret)))
theorem comp_event_join : compF Try.prog (mset [] [] []) (cset [] [] []) (wset [] []) Try.f111 = some c_event_join := by kernel_rfl
theorem ok_event_join : fnOk Try.prog F_event_join = true := by kernel_rfl
theorem calls_event_join {args : List AV} {r : AV} (h : RunsX Try.prog 0 (Gives [.cn 4 2] r) [.c c_event_join] (args ++ List.replicate (28 - args.length) (.tup [])) [] zeroC) : PCalls Try.prog F_event_join args r :=
  pcallsF Try.checked.mixed Try.func111 ok_event_join comp_event_join rfl (rs := [.cn 4 2]) (by kernel_rfl) h
theorem hcalls_event_join {args : List AV} {Hin Hout : Heap} {nx nx2 : Ctr} {r : AV} (φ : Nat) (ks : List (Nat × Nat)) (h : RunsX Try.prog φ (GivesH ks [.cn 4 2] r Hout nx2) [.c c_event_join] (args ++ List.replicate (28 - args.length) (.tup [])) Hin nx) : HCalls Try.prog F_event_join args Hin nx r Hout nx2 :=
  hcallsF Try.checked.mixed Try.func111 ok_event_join comp_event_join rfl (rs := [.cn 4 2]) (by kernel_rfl) φ ks h

/-- pedlar/event.told: parameters [42], results [.cn 2 2, .t 3], calls event_Right, event_Clone -/
def c_event_told : Cd := (.seq (.reg [⟨(some 1), none, .box, [.t 0]⟩, ⟨(some 2), none, (.new [(.int .i64 0), .nils] 2), []⟩, ⟨(some 3), none, .mv, [.c (.int .i64 0)]⟩]) (.seq (.seq (.reg [⟨(some 4), none, (.ldn 2), [.t 1]⟩, ⟨(some 5), none, (.call F_event_Right 0), [.t 4]⟩, ⟨(some 6), none, .not, [.t 5]⟩]) (.cond (.t 6) (.seq (.reg [⟨(some 7), none, (.bld [(.int .i64 0), .nils] []), []⟩, ⟨none, none, (.st 2), [.t 2, .t 7]⟩, ⟨(some 3), none, .mv, [.c (.int .i64 9)]⟩]) .ret) .skip)) (.seq (.reg [⟨(some 8), none, (.ldn 2), [.t 1]⟩, ⟨(some 9), none, (.call F_event_Clone 0), [.t 8]⟩, ⟨none, none, (.st 2), [.t 2, .t 9]⟩, ⟨(some 3), none, .mv, [.c (.int .i64 0)]⟩]) .ret)))
theorem comp_event_told : compF Try.prog (mset [] [] []) (cset [] [] []) (wset [] []) Try.f103 = some c_event_told := by kernel_rfl
theorem ok_event_told : fnOk Try.prog F_event_told = true := by kernel_rfl
theorem calls_event_told {args : List AV} {r : AV} (h : RunsX Try.prog 0 (Gives [.cn 2 2, .t 3] r) [.c c_event_told] (args ++ List.replicate (10 - args.length) (.tup [])) [] zeroC) : PCalls Try.prog F_event_told args r :=
  pcallsF Try.checked.mixed Try.func103 ok_event_told comp_event_told rfl (rs := [.cn 2 2, .t 3]) (by kernel_rfl) h
theorem hcalls_event_told {args : List AV} {Hin Hout : Heap} {nx nx2 : Ctr} {r : AV} (φ : Nat) (ks : List (Nat × Nat)) (h : RunsX Try.prog φ (GivesH ks [.cn 2 2, .t 3] r Hout nx2) [.c c_event_told] (args ++ List.replicate (10 - args.length) (.tup [])) Hin nx) : HCalls Try.prog F_event_told args Hin nx r Hout nx2 :=
  hcallsF Try.checked.mixed Try.func103 ok_event_told comp_event_told rfl (rs := [.cn 2 2, .t 3]) (by kernel_rfl) φ ks h

/-- pedlar/event.Join: parameters [42, 42], results [.cn 4 2, .t 5], calls event_Right, event_join, event_told -/
def c_event_Join : Cd := (.seq (.reg [⟨(some 2), none, .box, [.t 0]⟩, ⟨(some 3), none, .box, [.t 1]⟩, ⟨(some 4), none, (.new [(.int .i64 0), .nils] 4), []⟩, ⟨(some 5), none, .mv, [.c (.int .i64 0)]⟩]) (.seq (.seq (.reg [⟨(some 6), none, (.ldn 2), [.t 2]⟩, ⟨(some 7), none, (.call F_event_Right 0), [.t 6]⟩, ⟨(some 8), none, .not, [.t 7]⟩, ⟨(some 9), none, .mv, [.t 8]⟩, ⟨(some 10), (some (9, false)), (.ldn 2), [.t 3]⟩, ⟨(some 11), (some (9, false)), (.call F_event_Right 0), [.t 10]⟩, ⟨(some 12), (some (9, false)), .not, [.t 11]⟩, ⟨(some 13), none, .pick, [.t 9, .c (.bool true), .t 12]⟩]) (.cond (.t 13) (.seq (.reg [⟨(some 14), none, (.bld [(.int .i64 0), .nils] []), []⟩, ⟨none, none, (.st 2), [.t 4, .t 14]⟩, ⟨(some 5), none, .mv, [.c (.int .i64 1)]⟩]) .ret) .skip)) (.seq (.reg [⟨(some 15), none, (.ldn 2), [.t 2]⟩, ⟨(some 16), none, (.ldn 2), [.t 3]⟩, ⟨(some 17), none, (.call F_event_join 0), [.t 15, .t 16]⟩, ⟨(some 18), none, (.call F_event_told 0), [.t 17]⟩, ⟨(some 19), none, (.ext 0), [.t 18]⟩, ⟨(some 20), none, (.ext 1), [.t 18]⟩, ⟨none, none, (.st 2), [.t 4, .t 19]⟩, ⟨(some 5), none, .mv, [.t 20]⟩]) .ret)))
theorem comp_event_Join : compF Try.prog (mset [] [] []) (cset [] [] []) (wset [] []) Try.f43 = some c_event_Join := by kernel_rfl
theorem ok_event_Join : fnOk Try.prog F_event_Join = true := by kernel_rfl
theorem calls_event_Join {args : List AV} {r : AV} (h : RunsX Try.prog 0 (Gives [.cn 4 2, .t 5] r) [.c c_event_Join] (args ++ List.replicate (21 - args.length) (.tup [])) [] zeroC) : PCalls Try.prog F_event_Join args r :=
  pcallsF Try.checked.mixed Try.func43 ok_event_Join comp_event_Join rfl (rs := [.cn 4 2, .t 5]) (by kernel_rfl) h
theorem hcalls_event_Join {args : List AV} {Hin Hout : Heap} {nx nx2 : Ctr} {r : AV} (φ : Nat) (ks : List (Nat × Nat)) (h : RunsX Try.prog φ (GivesH ks [.cn 4 2, .t 5] r Hout nx2) [.c c_event_Join] (args ++ List.replicate (21 - args.length) (.tup [])) Hin nx) : HCalls Try.prog F_event_Join args Hin nx r Hout nx2 :=
  hcallsF Try.checked.mixed Try.func43 ok_event_Join comp_event_Join rfl (rs := [.cn 4 2, .t 5]) (by kernel_rfl) φ ks h

/-- pedlar/pedlarref04.EDeep: parameters [42, 3], results [.t 4], calls ref04_EDeep -/
def wl_ref04_EDeep_0 : Mk := ⟨[true, false, false, true, true, false, true, true, true, true, true, false, false, true, true, true, true, true, true, true, true, true, true, true, true, true, true, true], []⟩
abbrev s_ref04_EDeep_0 (t1 t2 t5 t11 t12 : AV) : List AV := [.any, t1, t2, .any, .any, t5, .any, .any, .any, .any, .any, t11, t12, .any, .any, .any, .any, .any, .any, .any, .any, .any, .any, .any, .any, .any, .any, .any]
def c_ref04_EDeep_l0 : Cd := (.seq (.reg [⟨(some 13), none, (.bin .lss), [.t 12, .t 11]⟩]) (.seq (.cond (.t 13) .skip (.exit 0)) (.seq (.blk 1 [] (.seq (.reg [⟨(some 14), none, .mv, [.t 12]⟩, ⟨(some 6), none, .mv, [.t 14]⟩]) (.reg [⟨(some 15), none, .mv, [.t 5]⟩, ⟨(some 16), none, (.fa 1), [.t 2]⟩, ⟨(some 17), none, .ld1, [.t 16]⟩, ⟨(some 18), none, .mv, [.t 6]⟩, ⟨(some 19), none, (.ixS 2), [.t 17, .t 18]⟩, ⟨(some 20), none, (.ldn 2), [.t 19]⟩, ⟨(some 21), none, .mv, [.t 1]⟩, ⟨(some 22), none, (.bin .sub), [.t 21, .c (.int .i64 1)]⟩, ⟨(some 23), none, (.call F_ref04_EDeep 0), [.t 20, .t 22]⟩, ⟨(some 24), none, .mx, [.t 15, .t 23]⟩, ⟨(some 5), none, .mv, [.t 24]⟩]))) (.reg [⟨(some 25), none, (.bin .add), [.t 12, .c (.int .i64 1)]⟩, ⟨(some 12), none, .mv, [.t 25]⟩]))))
def wb_ref04_EDeep_0 : List Bool := [true, true, true, true, true, false, true, true, true, true, true, true, true, true, true, true, true, true, true, true, true, true, true, true, true, true, true, true]
abbrev e_ref04_EDeep_0 (t5 : AV) : List AV := [.any, .any, .any, .any, .any, t5, .any, .any, .any, .any, .any, .any, .any, .any, .any, .any, .any, .any, .any, .any, .any, .any, .any, .any, .any, .any, .any, .any]
abbrev i_ref04_EDeep_0 : List It := [.lp wl_ref04_EDeep_0 c_ref04_EDeep_l0, .blk 0 wb_ref04_EDeep_0]
def c_ref04_EDeep_k0 : Cd := (.seq (.reg [⟨(some 26), none, .mv, [.t 5]⟩, ⟨(some 27), none, (.bin .add), [.t 26, .c (.int .i64 1)]⟩, ⟨(some 4), none, .mv, [.t 27]⟩]) .ret)
def c_ref04_EDeep : Cd := (.seq (.reg [⟨(some 2), none, .box, [.t 0]⟩, ⟨(some 4), none, .mv, [.c (.int .i64 0)]⟩]) (.seq (.seq (.reg [⟨(some 7), none, .mv, [.t 1]⟩, ⟨(some 8), none, (.bin .lss), [.t 7, .c (.int .i64 1)]⟩]) (.cond (.t 8) (.seq (.reg [⟨(some 4), none, .mv, [.c (.int .i64 1)]⟩]) .ret) .skip)) (.seq (.reg [⟨(some 5), none, .mv, [.c (.int .i64 0)]⟩]) (.seq (.seq (.reg [⟨(some 9), none, (.fa 1), [.t 2]⟩, ⟨(some 10), none, .ld1, [.t 9]⟩, ⟨(some 11), none, .len, [.t 10]⟩, ⟨(some 12), none, .mv, [.c (.int .i64 0)]⟩]) (.blk 0 wb_ref04_EDeep_0 (.loop wl_ref04_EDeep_0 c_ref04_EDeep_l0))) c_ref04_EDeep_k0))))
theorem comp_ref04_EDeep : compF Try.prog (mset [] [] []) (cset [] [] []) (wset [(0, wl_ref04_EDeep_0, wb_ref04_EDeep_0)] []) Try.f104 = some c_ref04_EDeep := by kernel_rfl
theorem ok_ref04_EDeep : fnOk Try.prog F_ref04_EDeep = true := by kernel_rfl
theorem calls_ref04_EDeep {args : List AV} {r : AV} (h : RunsX Try.prog 0 (Gives [.t 4] r) [.c c_ref04_EDeep] (args ++ List.replicate (28 - args.length) (.tup [])) [] zeroC) : PCalls Try.prog F_ref04_EDeep args r :=
  pcallsF Try.checked.mixed Try.func104 ok_ref04_EDeep comp_ref04_EDeep rfl (rs := [.t 4]) (by kernel_rfl) h
theorem hcalls_ref04_EDeep {args : List AV} {Hin Hout : Heap} {nx nx2 : Ctr} {r : AV} (φ : Nat) (ks : List (Nat × Nat)) (h : RunsX Try.prog φ (GivesH ks [.t 4] r Hout nx2) [.c c_ref04_EDeep] (args ++ List.replicate (28 - args.length) (.tup [])) Hin nx) : HCalls Try.prog F_ref04_EDeep args Hin nx r Hout nx2 :=
  hcallsF Try.checked.mixed Try.func104 ok_ref04_EDeep comp_ref04_EDeep rfl (rs := [.t 4]) (by kernel_rfl) φ ks h

/-- pedlar/pedlarref04.ecount: parameters [42], results [.t 2, .t 3], calls ref04_ecount -/
def c_ref04_ecount : Cd := (.seq (.reg [⟨(some 1), none, .box, [.t 0]⟩, ⟨(some 2), none, .mv, [.c (.int .i64 0)]⟩, ⟨(some 3), none, .mv, [.c (.bool false)]⟩]) (.seq (.seq (.reg [⟨(some 11), none, (.fa 0), [.t 1]⟩, ⟨(some 12), none, .ld1, [.t 11]⟩, ⟨(some 13), none, (.bin .lss), [.t 12, .c (.int .i64 0)]⟩, ⟨(some 14), none, .mv, [.t 13]⟩, ⟨(some 15), (some (14, false)), (.fa 0), [.t 1]⟩, ⟨(some 16), (some (14, false)), .ld1, [.t 15]⟩, ⟨(some 17), (some (14, false)), (.bin .gtr), [.t 16, .c (.int .i64 1099511627776)]⟩, ⟨(some 18), none, .pick, [.t 14, .c (.bool true), .t 17]⟩]) (.cond (.t 18) (.seq (.reg [⟨(some 2), none, .mv, [.c (.int .i64 0)]⟩, ⟨(some 3), none, .mv, [.c (.bool false)]⟩]) .ret) .skip)) (.seq (.seq (.reg [⟨(some 19), none, (.fa 1), [.t 1]⟩, ⟨(some 20), none, .ld1, [.t 19]⟩, ⟨(some 21), none, .len, [.t 20]⟩, ⟨(some 22), none, (.bin .eql), [.t 21, .c (.int .i64 0)]⟩]) (.cond (.t 22) (.seq (.reg [⟨(some 2), none, .mv, [.c (.int .i64 1)]⟩, ⟨(some 3), none, .mv, [.c (.bool true)]⟩]) .ret) .skip)) (.seq (.seq (.reg [⟨(some 23), none, (.fa 1), [.t 1]⟩, ⟨(some 24), none, .ld1, [.t 23]⟩, ⟨(some 25), none, .len, [.t 24]⟩, ⟨(some 26), none, (.bin .neq), [.t 25, .c (.int .i64 2)]⟩]) (.cond (.t 26) (.seq (.reg [⟨(some 2), none, .mv, [.c (.int .i64 0)]⟩, ⟨(some 3), none, .mv, [.c (.bool false)]⟩]) .ret) .skip)) (.seq (.reg [⟨(some 28), none, (.fa 1), [.t 1]⟩, ⟨(some 29), none, .ld1, [.t 28]⟩, ⟨(some 30), none, (.ixS 2), [.t 29, .c (.int .i64 0)]⟩, ⟨(some 31), none, (.ldn 2), [.t 30]⟩, ⟨(some 32), none, (.call F_ref04_ecount 0), [.t 31]⟩, ⟨(some 27), none, .mv, [.t 32]⟩, ⟨(some 33), none, (.ext 0), [.t 27]⟩, ⟨(some 34), none, (.ext 1), [.t 27]⟩, ⟨(some 4), none, .mv, [.t 33]⟩, ⟨(some 5), none, .mv, [.t 34]⟩]) (.seq (.reg [⟨(some 36), none, (.fa 1), [.t 1]⟩, ⟨(some 37), none, .ld1, [.t 36]⟩, ⟨(some 38), none, (.ixS 2), [.t 37, .c (.int .i64 1)]⟩, ⟨(some 39), none, (.ldn 2), [.t 38]⟩, ⟨(some 40), none, (.call F_ref04_ecount 0), [.t 39]⟩, ⟨(some 35), none, .mv, [.t 40]⟩, ⟨(some 41), none, (.ext 0), [.t 35]⟩, ⟨(some 42), none, (.ext 1), [.t 35]⟩, ⟨(some 6), none, .mv, [.t 41]⟩, ⟨(some 7), none, .mv, [.t 42]⟩]) (.seq (.reg [⟨(some 43), none, (.fa 1), [.t 1]⟩, ⟨(some 44), none, .ld1r, [.t 43]⟩, ⟨(some 45), none, (.ixS 2), [.t 44, .c (.int .i64 0)]⟩, ⟨(some 46), none, (.ldnr 2), [.t 45]⟩, ⟨(some 47), none, (.fa 1), [.t 1]⟩, ⟨(some 48), none, .ld1r, [.t 47]⟩, ⟨(some 49), none, (.ixS 2), [.t 48, .c (.int .i64 1)]⟩, ⟨(some 50), none, (.ldnr 2), [.t 49]⟩, ⟨(some 8), none, (.new [(.int .i64 0), .nils] 8), []⟩, ⟨(some 9), none, (.new [(.int .i64 0), .nils] 9), []⟩, ⟨none, none, (.stk 2 8), [.t 8, .t 46]⟩, ⟨none, none, (.stk 2 9), [.t 9, .t 50]⟩]) (.seq (.reg [⟨(some 51), none, (.fa 1), [.t 8]⟩, ⟨(some 52), none, .ld1, [.t 51]⟩, ⟨(some 53), none, .len, [.t 52]⟩, ⟨(some 54), none, (.bin .eql), [.t 53, .c (.int .i64 0)]⟩, ⟨(some 55), none, .mv, [.t 54]⟩, ⟨(some 56), (some (55, true)), (.fa 1), [.t 9]⟩, ⟨(some 57), (some (55, true)), .ld1, [.t 56]⟩, ⟨(some 58), (some (55, true)), .len, [.t 57]⟩, ⟨(some 59), (some (55, true)), (.bin .eql), [.t 58, .c (.int .i64 0)]⟩, ⟨(some 60), none, .pick, [.t 55, .t 59, .c (.bool false)]⟩, ⟨(some 61), none, .mv, [.t 60]⟩, ⟨(some 62), (some (61, true)), (.fa 0), [.t 8]⟩, ⟨(some 63), (some (61, true)), .ld1, [.t 62]⟩, ⟨(some 64), (some (61, true)), (.fa 0), [.t 9]⟩, ⟨(some 65), (some (61, true)), .ld1, [.t 64]⟩, ⟨(some 66), (some (61, true)), (.bin .eql), [.t 63, .t 65]⟩, ⟨(some 67), none, .pick, [.t 61, .t 66, .c (.bool false)]⟩, ⟨(some 10), none, .mv, [.t 67]⟩]) (.seq (.reg [⟨(some 68), none, .mv, [.t 4]⟩, ⟨(some 69), none, .mv, [.t 6]⟩, ⟨(some 70), none, (.bin .add), [.t 68, .t 69]⟩, ⟨(some 71), none, (.bin .add), [.t 70, .c (.int .i64 1)]⟩, ⟨(some 72), none, .mn, [.t 71, .c (.int .i64 1000)]⟩, ⟨(some 73), none, .mv, [.t 5]⟩, ⟨(some 74), none, .mv, [.t 73]⟩, ⟨(some 75), (some (74, true)), .mv, [.t 7]⟩, ⟨(some 76), none, .pick, [.t 74, .t 75, .c (.bool false)]⟩, ⟨(some 77), none, .mv, [.t 76]⟩, ⟨(some 78), (some (77, true)), .mv, [.t 10]⟩, ⟨(some 79), (some (77, true)), .not, [.t 78]⟩, ⟨(some 80), none, .pick, [.t 77, .t 79, .c (.bool false)]⟩, ⟨(some 81), none, .mv, [.t 80]⟩, ⟨(some 82), (some (81, true)), (.fa 0), [.t 8]⟩, ⟨(some 83), (some (81, true)), .ld1, [.t 82]⟩, ⟨(some 84), (some (81, true)), (.bin .eql), [.t 83, .c (.int .i64 0)]⟩, ⟨(some 85), (some (81, true)), .mv, [.t 84]⟩, ⟨(some 86), (some (85, false)), (.fa 0), [.t 9]⟩, ⟨(some 87), (some (85, false)), .ld1, [.t 86]⟩, ⟨(some 88), (some (85, false)), (.bin .eql), [.t 87, .c (.int .i64 0)]⟩, ⟨(some 89), (some (81, true)), .pick, [.t 85, .c (.bool true), .t 88]⟩, ⟨(some 90), none, .pick, [.t 81, .t 89, .c (.bool false)]⟩, ⟨(some 2), none, .mv, [.t 72]⟩, ⟨(some 3), none, .mv, [.t 90]⟩]) .ret)))))))))
theorem comp_ref04_ecount : compF Try.prog (mset [] [44, 46, 48, 50] [8, 9]) (cset [] [] []) (wset [] []) Try.f105 = some c_ref04_ecount := by kernel_rfl
theorem ok_ref04_ecount : fnOk Try.prog F_ref04_ecount = true := by kernel_rfl
theorem calls_ref04_ecount {args : List AV} {r : AV} (h : RunsX Try.prog 0 (Gives [.t 2, .t 3] r) [.c c_ref04_ecount] (args ++ List.replicate (91 - args.length) (.tup [])) [] zeroC) : PCalls Try.prog F_ref04_ecount args r :=
  pcallsF Try.checked.mixed Try.func105 ok_ref04_ecount comp_ref04_ecount rfl (rs := [.t 2, .t 3]) (by kernel_rfl) h
theorem hcalls_ref04_ecount {args : List AV} {Hin Hout : Heap} {nx nx2 : Ctr} {r : AV} (φ : Nat) (ks : List (Nat × Nat)) (h : RunsX Try.prog φ (GivesH ks [.t 2, .t 3] r Hout nx2) [.c c_ref04_ecount] (args ++ List.replicate (91 - args.length) (.tup [])) Hin nx) : HCalls Try.prog F_ref04_ecount args Hin nx r Hout nx2 :=
  hcallsF Try.checked.mixed Try.func105 ok_ref04_ecount comp_ref04_ecount rfl (rs := [.t 2, .t 3]) (by kernel_rfl) φ ks h

/-- pedlar/pedlarref04.ERight: parameters [42], results [.t 2], calls ref04_EDeep, ref04_ecount -/
def c_ref04_ERight : Cd := (.seq (.reg [⟨(some 1), none, .box, [.t 0]⟩, ⟨(some 2), none, .mv, [.c (.bool false)]⟩]) (.seq (.seq (.reg [⟨(some 5), none, (.ldn 2), [.t 1]⟩, ⟨(some 6), none, (.call F_ref04_EDeep 0), [.t 5, .c (.int .i64 8)]⟩, ⟨(some 7), none, (.bin .gtr), [.t 6, .c (.int .i64 8)]⟩]) (.cond (.t 7) (.seq (.reg [⟨(some 2), none, .mv, [.c (.bool false)]⟩]) .ret) .skip)) (.seq (.reg [⟨(some 9), none, (.ldn 2), [.t 1]⟩, ⟨(some 10), none, (.call F_ref04_ecount 0), [.t 9]⟩, ⟨(some 8), none, .mv, [.t 10]⟩, ⟨(some 11), none, (.ext 0), [.t 8]⟩, ⟨(some 12), none, (.ext 1), [.t 8]⟩, ⟨(some 3), none, .mv, [.t 11]⟩, ⟨(some 4), none, .mv, [.t 12]⟩]) (.seq (.reg [⟨(some 13), none, .mv, [.t 4]⟩, ⟨(some 14), none, .mv, [.t 13]⟩, ⟨(some 15), (some (14, true)), .mv, [.t 3]⟩, ⟨(some 16), (some (14, true)), (.bin .leq), [.t 15, .c (.int .i64 60)]⟩, ⟨(some 17), none, .pick, [.t 14, .t 16, .c (.bool false)]⟩, ⟨(some 2), none, .mv, [.t 17]⟩]) .ret))))
theorem comp_ref04_ERight : compF Try.prog (mset [] [] []) (cset [] [] []) (wset [] []) Try.f37 = some c_ref04_ERight := by kernel_rfl
theorem ok_ref04_ERight : fnOk Try.prog F_ref04_ERight = true := by kernel_rfl
theorem calls_ref04_ERight {args : List AV} {r : AV} (h : RunsX Try.prog 0 (Gives [.t 2] r) [.c c_ref04_ERight] (args ++ List.replicate (18 - args.length) (.tup [])) [] zeroC) : PCalls Try.prog F_ref04_ERight args r :=
  pcallsF Try.checked.mixed Try.func37 ok_ref04_ERight comp_ref04_ERight rfl (rs := [.t 2]) (by kernel_rfl) h
theorem hcalls_ref04_ERight {args : List AV} {Hin Hout : Heap} {nx nx2 : Ctr} {r : AV} (φ : Nat) (ks : List (Nat × Nat)) (h : RunsX Try.prog φ (GivesH ks [.t 2] r Hout nx2) [.c c_ref04_ERight] (args ++ List.replicate (18 - args.length) (.tup [])) Hin nx) : HCalls Try.prog F_ref04_ERight args Hin nx r Hout nx2 :=
  hcallsF Try.checked.mixed Try.func37 ok_ref04_ERight comp_ref04_ERight rfl (rs := [.t 2]) (by kernel_rfl) φ ks h

/-- pedlar/pedlarref04.ERow: parameters [42], results [.t 2], calls  -/
def wl_ref04_ERow_2 : Mk := ⟨[true, false, true, false, false, false, false, false, true, true, false, false, true, true, true, true, true, true, true, true, true, true, true, true, true, true, true, true, true, true, true, true, true, true, true, true, true, true, true, true, true], []⟩
abbrev s_ref04_ERow_2 (t1 t3 t4 t5 t6 t7 t10 t11 : AV) : List AV := [.any, t1, .any, t3, t4, t5, t6, t7, .any, .any, t10, t11, .any, .any, .any, .any, .any, .any, .any, .any, .any, .any, .any, .any, .any, .any, .any, .any, .any, .any, .any, .any, .any, .any, .any, .any, .any, .any, .any, .any, .any]
def c_ref04_ERow_l2 : Cd := (.seq (.seq (.reg [⟨(some 17), none, (.fa 1), [.t 5]⟩, ⟨(some 18), none, .ld1, [.t 17]⟩, ⟨(some 19), none, .len, [.t 18]⟩, ⟨(some 20), none, (.bin .eql), [.t 19, .c (.int .i64 2)]⟩]) (.cond (.t 20) .skip (.exit 2))) (.seq (.blk 3 [] (.seq (.reg [⟨(some 23), none, (.fa 1), [.t 5]⟩, ⟨(some 24), none, .ld1, [.t 23]⟩, ⟨(some 25), none, .mv, [.t 4]⟩, ⟨(some 26), none, .mv, [.t 7]⟩, ⟨(some 27), none, (.bin .quo), [.t 25, .t 26]⟩, ⟨(some 28), none, (.bin .rem), [.t 27, .c (.int .i64 2)]⟩, ⟨(some 29), none, (.ixS 2), [.t 24, .t 28]⟩, ⟨(some 30), none, (.ldn 2), [.t 29]⟩, ⟨none, none, (.st 2), [.t 5, .t 30]⟩]) (.reg [⟨(some 31), none, .mv, [.t 6]⟩, ⟨(some 32), none, (.fa 0), [.t 5]⟩, ⟨(some 33), none, .ld1, [.t 32]⟩, ⟨(some 34), none, (.bin .add), [.t 31, .t 33]⟩, ⟨(some 6), none, .mv, [.t 34]⟩]))) (.reg [⟨(some 21), none, .mv, [.t 7]⟩, ⟨(some 22), none, (.bin .quo), [.t 21, .c (.int .i64 2)]⟩, ⟨(some 7), none, .mv, [.t 22]⟩])))
def wb_ref04_ERow_2 : List Bool := [true, false, true, false, false, true, false, true, true, true, false, false, true, true, true, true, true, true, true, true, true, true, true, true, true, true, true, true, true, true, true, true, true, true, true, true, true, true, true, true, true]
abbrev e_ref04_ERow_2 (t1 t3 t4 t6 t10 t11 : AV) : List AV := [.any, t1, .any, t3, t4, .any, t6, .any, .any, .any, t10, t11, .any, .any, .any, .any, .any, .any, .any, .any, .any, .any, .any, .any, .any, .any, .any, .any, .any, .any, .any, .any, .any, .any, .any, .any, .any, .any, .any, .any, .any]
abbrev i_ref04_ERow_2 : List It := [.lp wl_ref04_ERow_2 c_ref04_ERow_l2, .blk 2 wb_ref04_ERow_2]
def c_ref04_ERow_k0 : Cd := (.reg [⟨(some 35), none, .mv, [.t 3]⟩, ⟨(some 36), none, .mv, [.t 4]⟩, ⟨(some 37), none, .mv, [.t 6]⟩, ⟨(some 38), none, (.ixS 1), [.t 35, .t 36]⟩, ⟨none, none, (.st 1), [.t 38, .t 37]⟩])
def wb_ref04_ERow_1 : List Bool := [true, false, true, false, true, true, true, true, true, true, false, false, true, true, true, true, true, true, true, true, true, true, true, true, true, true, true, true, true, true, true, true, true, true, true, true, true, true, true, true, true]
abbrev e_ref04_ERow_1 (t1 t3 t10 t11 : AV) : List AV := [.any, t1, .any, t3, .any, .any, .any, .any, .any, .any, t10, t11, .any, .any, .any, .any, .any, .any, .any, .any, .any, .any, .any, .any, .any, .any, .any, .any, .any, .any, .any, .any, .any, .any, .any, .any, .any, .any, .any, .any, .any]
def c_ref04_ERow_k1 : Cd := (.reg [⟨(some 39), none, (.bin .add), [.t 11, .c (.int .i64 1)]⟩, ⟨(some 11), none, .mv, [.t 39]⟩])
def wl_ref04_ERow_0 : Mk := ⟨[true, false, true, false, true, true, true, true, true, true, false, false, true, true, true, true, true, true, true, true, true, true, true, true, true, true, true, true, true, true, true, true, true, true, true, true, true, true, true, true, true], [5]⟩
abbrev s_ref04_ERow_0 (t1 t3 t10 t11 : AV) : List AV := [.any, t1, .any, t3, .any, .any, .any, .any, .any, .any, t10, t11, .any, .any, .any, .any, .any, .any, .any, .any, .any, .any, .any, .any, .any, .any, .any, .any, .any, .any, .any, .any, .any, .any, .any, .any, .any, .any, .any, .any, .any]
def c_ref04_ERow_l0 : Cd := (.seq (.reg [⟨(some 12), none, (.bin .lss), [.t 11, .t 10]⟩]) (.seq (.cond (.t 12) .skip (.exit 0)) (.seq (.blk 1 wb_ref04_ERow_1 (.seq (.reg [⟨(some 13), none, .mv, [.t 11]⟩, ⟨(some 4), none, .mv, [.t 13]⟩]) (.seq (.reg [⟨(some 14), none, (.ldn 2), [.t 1]⟩, ⟨(some 5), none, (.new [(.int .i64 0), .nils] 5), []⟩, ⟨none, none, (.st 2), [.t 5, .t 14]⟩]) (.seq (.reg [⟨(some 15), none, (.fa 0), [.t 5]⟩, ⟨(some 16), none, .ld1, [.t 15]⟩, ⟨(some 6), none, .mv, [.t 16]⟩]) (.seq (.seq (.reg [⟨(some 7), none, .mv, [.c (.int .i64 64)]⟩]) (.blk 2 wb_ref04_ERow_2 (.loop wl_ref04_ERow_2 c_ref04_ERow_l2))) c_ref04_ERow_k0))))) c_ref04_ERow_k1)))
def wb_ref04_ERow_0 : List Bool := [true, true, true, false, true, true, true, true, true, true, true, true, true, true, true, true, true, true, true, true, true, true, true, true, true, true, true, true, true, true, true, true, true, true, true, true, true, true, true, true, true]
abbrev e_ref04_ERow_0 (t3 : AV) : List AV := [.any, .any, .any, t3, .any, .any, .any, .any, .any, .any, .any, .any, .any, .any, .any, .any, .any, .any, .any, .any, .any, .any, .any, .any, .any, .any, .any, .any, .any, .any, .any, .any, .any, .any, .any, .any, .any, .any, .any, .any, .any]
abbrev i_ref04_ERow_0 : List It := [.lp wl_ref04_ERow_0 c_ref04_ERow_l0, .blk 0 wb_ref04_ERow_0]
def c_ref04_ERow_k2 : Cd := (.seq (.reg [⟨(some 40), none, .mv, [.t 3]⟩, ⟨(some 2), none, .mv, [.t 40]⟩]) .ret)
def c_ref04_ERow : Cd := (.seq (.reg [⟨(some 1), none, .box, [.t 0]⟩, ⟨(some 2), none, .mv, [.c .nils]⟩]) (.seq (.reg [⟨(some 8), none, (.mk (.int .i64 0) 8 8), [.c (.int .i64 128)]⟩, ⟨(some 3), none, .mv, [.t 8]⟩]) (.seq (.seq (.reg [⟨(some 9), none, .mv, [.t 3]⟩, ⟨(some 10), none, .len, [.t 9]⟩, ⟨(some 11), none, .mv, [.c (.int .i64 0)]⟩]) (.blk 0 wb_ref04_ERow_0 (.loop wl_ref04_ERow_0 c_ref04_ERow_l0))) c_ref04_ERow_k2)))
theorem comp_ref04_ERow : compF Try.prog (mset [] [] []) (cset [] [] []) (wset [(2, wl_ref04_ERow_2, wb_ref04_ERow_2), (1, ⟨[], []⟩, wb_ref04_ERow_1), (0, wl_ref04_ERow_0, wb_ref04_ERow_0)] []) Try.f38 = some c_ref04_ERow := by kernel_rfl
theorem ok_ref04_ERow : fnOk Try.prog F_ref04_ERow = true := by kernel_rfl
theorem calls_ref04_ERow {args : List AV} {r : AV} (h : RunsX Try.prog 0 (Gives [.t 2] r) [.c c_ref04_ERow] (args ++ List.replicate (41 - args.length) (.tup [])) [] zeroC) : PCalls Try.prog F_ref04_ERow args r :=
  pcallsF Try.checked.mixed Try.func38 ok_ref04_ERow comp_ref04_ERow rfl (rs := [.t 2]) (by kernel_rfl) h
theorem hcalls_ref04_ERow {args : List AV} {Hin Hout : Heap} {nx nx2 : Ctr} {r : AV} (φ : Nat) (ks : List (Nat × Nat)) (h : RunsX Try.prog φ (GivesH ks [.t 2] r Hout nx2) [.c c_ref04_ERow] (args ++ List.replicate (41 - args.length) (.tup [])) Hin nx) : HCalls Try.prog F_ref04_ERow args Hin nx r Hout nx2 :=
  hcallsF Try.checked.mixed Try.func38 ok_ref04_ERow comp_ref04_ERow rfl (rs := [.t 2]) (by kernel_rfl) φ ks h

/-- pedlar/pedlarref04.Leq: parameters [65, 65], results [.t 4], calls  -/
def wl_ref04_Leq_0 : Mk := ⟨[false, false, true, true, true, true, true, false, false, true, true, true, true, true, true, true, true, true, true, true, true], []⟩
abbrev s_ref04_Leq_0 (t0 t1 t7 t8 : AV) : List AV := [t0, t1, .any, .any, .any, .any, .any, t7, t8, .any, .any, .any, .any, .any, .any, .any, .any, .any, .any, .any, .any]
def c_ref04_Leq_l0 : Cd := (.seq (.reg [⟨(some 9), none, (.bin .lss), [.t 8, .t 7]⟩]) (.seq (.cond (.t 9) .skip (.exit 0)) (.seq (.blk 1 [] (.seq (.reg [⟨(some 10), none, .mv, [.t 8]⟩, ⟨(some 5), none, .mv, [.t 10]⟩]) (.seq (.reg [⟨(some 11), none, .mv, [.t 0]⟩, ⟨(some 12), none, .mv, [.t 5]⟩, ⟨(some 13), none, (.ixS 1), [.t 11, .t 12]⟩, ⟨(some 14), none, .ld1, [.t 13]⟩, ⟨(some 15), none, .mv, [.t 1]⟩, ⟨(some 16), none, .mv, [.t 5]⟩, ⟨(some 17), none, (.ixS 1), [.t 15, .t 16]⟩, ⟨(some 18), none, .ld1, [.t 17]⟩, ⟨(some 19), none, (.bin .gtr), [.t 14, .t 18]⟩]) (.cond (.t 19) (.seq (.reg [⟨(some 4), none, .mv, [.c (.bool false)]⟩]) .ret) .skip)))) (.reg [⟨(some 20), none, (.bin .add), [.t 8, .c (.int .i64 1)]⟩, ⟨(some 8), none, .mv, [.t 20]⟩]))))
def wb_ref04_Leq_0 : List Bool := [true, true, true, true, true, true, true, true, true, true, true, true, true, true, true, true, true, true, true, true, true]
abbrev e_ref04_Leq_0 : List AV := [.any, .any, .any, .any, .any, .any, .any, .any, .any, .any, .any, .any, .any, .any, .any, .any, .any, .any, .any, .any, .any]
abbrev i_ref04_Leq_0 : List It := [.lp wl_ref04_Leq_0 c_ref04_Leq_l0, .blk 0 wb_ref04_Leq_0]
def c_ref04_Leq_k0 : Cd := (.seq (.reg [⟨(some 4), none, .mv, [.c (.bool true)]⟩]) .ret)
def c_ref04_Leq : Cd := (.seq (.reg [⟨(some 4), none, .mv, [.c (.bool false)]⟩]) (.seq (.seq (.reg [⟨(some 6), none, .mv, [.t 0]⟩, ⟨(some 7), none, .len, [.t 6]⟩, ⟨(some 8), none, .mv, [.c (.int .i64 0)]⟩]) (.blk 0 wb_ref04_Leq_0 (.loop wl_ref04_Leq_0 c_ref04_Leq_l0))) c_ref04_Leq_k0))
theorem comp_ref04_Leq : compF Try.prog (mset [] [] []) (cset [] [] []) (wset [(0, wl_ref04_Leq_0, wb_ref04_Leq_0)] []) Try.f45 = some c_ref04_Leq := by kernel_rfl
theorem ok_ref04_Leq : fnOk Try.prog F_ref04_Leq = true := by kernel_rfl
theorem calls_ref04_Leq {args : List AV} {r : AV} (h : RunsX Try.prog 0 (Gives [.t 4] r) [.c c_ref04_Leq] (args ++ List.replicate (21 - args.length) (.tup [])) [] zeroC) : PCalls Try.prog F_ref04_Leq args r :=
  pcallsF Try.checked.mixed Try.func45 ok_ref04_Leq comp_ref04_Leq rfl (rs := [.t 4]) (by kernel_rfl) h
theorem hcalls_ref04_Leq {args : List AV} {Hin Hout : Heap} {nx nx2 : Ctr} {r : AV} (φ : Nat) (ks : List (Nat × Nat)) (h : RunsX Try.prog φ (GivesH ks [.t 4] r Hout nx2) [.c c_ref04_Leq] (args ++ List.replicate (21 - args.length) (.tup [])) Hin nx) : HCalls Try.prog F_ref04_Leq args Hin nx r Hout nx2 :=
  hcallsF Try.checked.mixed Try.func45 ok_ref04_Leq comp_ref04_Leq rfl (rs := [.t 4]) (by kernel_rfl) φ ks h

/-- pedlar/pedlarref04.equal: parameters [65, 65], results [.t 4], calls  -/
def wl_ref04_equal_0 : Mk := ⟨[false, false, true, true, true, true, true, false, false, true, true, true, true, true, true, true, true, true, true, true, true], []⟩
abbrev s_ref04_equal_0 (t0 t1 t7 t8 : AV) : List AV := [t0, t1, .any, .any, .any, .any, .any, t7, t8, .any, .any, .any, .any, .any, .any, .any, .any, .any, .any, .any, .any]
def c_ref04_equal_l0 : Cd := (.seq (.reg [⟨(some 9), none, (.bin .lss), [.t 8, .t 7]⟩]) (.seq (.cond (.t 9) .skip (.exit 0)) (.seq (.blk 1 [] (.seq (.reg [⟨(some 10), none, .mv, [.t 8]⟩, ⟨(some 5), none, .mv, [.t 10]⟩]) (.seq (.reg [⟨(some 11), none, .mv, [.t 0]⟩, ⟨(some 12), none, .mv, [.t 5]⟩, ⟨(some 13), none, (.ixS 1), [.t 11, .t 12]⟩, ⟨(some 14), none, .ld1, [.t 13]⟩, ⟨(some 15), none, .mv, [.t 1]⟩, ⟨(some 16), none, .mv, [.t 5]⟩, ⟨(some 17), none, (.ixS 1), [.t 15, .t 16]⟩, ⟨(some 18), none, .ld1, [.t 17]⟩, ⟨(some 19), none, (.bin .neq), [.t 14, .t 18]⟩]) (.cond (.t 19) (.seq (.reg [⟨(some 4), none, .mv, [.c (.bool false)]⟩]) .ret) .skip)))) (.reg [⟨(some 20), none, (.bin .add), [.t 8, .c (.int .i64 1)]⟩, ⟨(some 8), none, .mv, [.t 20]⟩]))))
def wb_ref04_equal_0 : List Bool := [true, true, true, true, true, true, true, true, true, true, true, true, true, true, true, true, true, true, true, true, true]
abbrev e_ref04_equal_0 : List AV := [.any, .any, .any, .any, .any, .any, .any, .any, .any, .any, .any, .any, .any, .any, .any, .any, .any, .any, .any, .any, .any]
abbrev i_ref04_equal_0 : List It := [.lp wl_ref04_equal_0 c_ref04_equal_l0, .blk 0 wb_ref04_equal_0]
def c_ref04_equal_k0 : Cd := (.seq (.reg [⟨(some 4), none, .mv, [.c (.bool true)]⟩]) .ret)
def c_ref04_equal : Cd := (.seq (.reg [⟨(some 4), none, .mv, [.c (.bool false)]⟩]) (.seq (.seq (.reg [⟨(some 6), none, .mv, [.t 0]⟩, ⟨(some 7), none, .len, [.t 6]⟩, ⟨(some 8), none, .mv, [.c (.int .i64 0)]⟩]) (.blk 0 wb_ref04_equal_0 (.loop wl_ref04_equal_0 c_ref04_equal_l0))) c_ref04_equal_k0))
theorem comp_ref04_equal : compF Try.prog (mset [] [] []) (cset [] [] []) (wset [(0, wl_ref04_equal_0, wb_ref04_equal_0)] []) Try.f107 = some c_ref04_equal := by kernel_rfl
theorem ok_ref04_equal : fnOk Try.prog F_ref04_equal = true := by kernel_rfl
theorem calls_ref04_equal {args : List AV} {r : AV} (h : RunsX Try.prog 0 (Gives [.t 4] r) [.c c_ref04_equal] (args ++ List.replicate (21 - args.length) (.tup [])) [] zeroC) : PCalls Try.prog F_ref04_equal args r :=
  pcallsF Try.checked.mixed Try.func107 ok_ref04_equal comp_ref04_equal rfl (rs := [.t 4]) (by kernel_rfl) h
theorem hcalls_ref04_equal {args : List AV} {Hin Hout : Heap} {nx nx2 : Ctr} {r : AV} (φ : Nat) (ks : List (Nat × Nat)) (h : RunsX Try.prog φ (GivesH ks [.t 4] r Hout nx2) [.c c_ref04_equal] (args ++ List.replicate (21 - args.length) (.tup [])) Hin nx) : HCalls Try.prog F_ref04_equal args Hin nx r Hout nx2 :=
  hcallsF Try.checked.mixed Try.func107 ok_ref04_equal comp_ref04_equal rfl (rs := [.t 4]) (by kernel_rfl) φ ks h

/-- pedlar/pedlarref04.ESame: parameters [42, 42], results [.t 4], calls ref04_ESame -/
def wl_ref04_ESame_0 : Mk := ⟨[true, true, false, false, true, true, true, true, true, true, true, true, true, true, true, true, true, true, true, true, true, true, false, false, true, true, true, true, true, true, true, true, true, true, true, true, true, true, true], []⟩
abbrev s_ref04_ESame_0 (t2 t3 t22 t23 : AV) : List AV := [.any, .any, t2, t3, .any, .any, .any, .any, .any, .any, .any, .any, .any, .any, .any, .any, .any, .any, .any, .any, .any, .any, t22, t23, .any, .any, .any, .any, .any, .any, .any, .any, .any, .any, .any, .any, .any, .any, .any]
def c_ref04_ESame_l0 : Cd := (.seq (.reg [⟨(some 24), none, (.bin .lss), [.t 23, .t 22]⟩]) (.seq (.cond (.t 24) .skip (.exit 0)) (.seq (.blk 1 [] (.seq (.reg [⟨(some 25), none, .mv, [.t 23]⟩, ⟨(some 5), none, .mv, [.t 25]⟩]) (.seq (.reg [⟨(some 26), none, (.fa 1), [.t 2]⟩, ⟨(some 27), none, .ld1, [.t 26]⟩, ⟨(some 28), none, .mv, [.t 5]⟩, ⟨(some 29), none, (.ixS 2), [.t 27, .t 28]⟩, ⟨(some 30), none, (.ldn 2), [.t 29]⟩, ⟨(some 31), none, (.fa 1), [.t 3]⟩, ⟨(some 32), none, .ld1, [.t 31]⟩, ⟨(some 33), none, .mv, [.t 5]⟩, ⟨(some 34), none, (.ixS 2), [.t 32, .t 33]⟩, ⟨(some 35), none, (.ldn 2), [.t 34]⟩, ⟨(some 36), none, (.call F_ref04_ESame 0), [.t 30, .t 35]⟩, ⟨(some 37), none, .not, [.t 36]⟩]) (.cond (.t 37) (.seq (.reg [⟨(some 4), none, .mv, [.c (.bool false)]⟩]) .ret) .skip)))) (.reg [⟨(some 38), none, (.bin .add), [.t 23, .c (.int .i64 1)]⟩, ⟨(some 23), none, .mv, [.t 38]⟩]))))
def wb_ref04_ESame_0 : List Bool := [true, true, true, true, true, true, true, true, true, true, true, true, true, true, true, true, true, true, true, true, true, true, true, true, true, true, true, true, true, true, true, true, true, true, true, true, true, true, true]
abbrev e_ref04_ESame_0 : List AV := [.any, .any, .any, .any, .any, .any, .any, .any, .any, .any, .any, .any, .any, .any, .any, .any, .any, .any, .any, .any, .any, .any, .any, .any, .any, .any, .any, .any, .any, .any, .any, .any, .any, .any, .any, .any, .any, .any, .any]
abbrev i_ref04_ESame_0 : List It := [.lp wl_ref04_ESame_0 c_ref04_ESame_l0, .blk 0 wb_ref04_ESame_0]
def c_ref04_ESame_k0 : Cd := (.seq (.reg [⟨(some 4), none, .mv, [.c (.bool true)]⟩]) .ret)
def c_ref04_ESame : Cd := (.seq (.reg [⟨(some 2), none, .box, [.t 0]⟩, ⟨(some 3), none, .box, [.t 1]⟩, ⟨(some 4), none, .mv, [.c (.bool false)]⟩]) (.seq (.seq (.reg [⟨(some 6), none, (.fa 0), [.t 2]⟩, ⟨(some 7), none, .ld1, [.t 6]⟩, ⟨(some 8), none, (.fa 0), [.t 3]⟩, ⟨(some 9), none, .ld1, [.t 8]⟩, ⟨(some 10), none, (.bin .neq), [.t 7, .t 9]⟩, ⟨(some 11), none, .mv, [.t 10]⟩, ⟨(some 12), (some (11, false)), (.fa 1), [.t 2]⟩, ⟨(some 13), (some (11, false)), .ld1, [.t 12]⟩, ⟨(some 14), (some (11, false)), .len, [.t 13]⟩, ⟨(some 15), (some (11, false)), (.fa 1), [.t 3]⟩, ⟨(some 16), (some (11, false)), .ld1, [.t 15]⟩, ⟨(some 17), (some (11, false)), .len, [.t 16]⟩, ⟨(some 18), (some (11, false)), (.bin .neq), [.t 14, .t 17]⟩, ⟨(some 19), none, .pick, [.t 11, .c (.bool true), .t 18]⟩]) (.cond (.t 19) (.seq (.reg [⟨(some 4), none, .mv, [.c (.bool false)]⟩]) .ret) .skip)) (.seq (.seq (.reg [⟨(some 20), none, (.fa 1), [.t 2]⟩, ⟨(some 21), none, .ld1, [.t 20]⟩, ⟨(some 22), none, .len, [.t 21]⟩, ⟨(some 23), none, .mv, [.c (.int .i64 0)]⟩]) (.blk 0 wb_ref04_ESame_0 (.loop wl_ref04_ESame_0 c_ref04_ESame_l0))) c_ref04_ESame_k0)))
theorem comp_ref04_ESame : compF Try.prog (mset [] [] []) (cset [] [] []) (wset [(0, wl_ref04_ESame_0, wb_ref04_ESame_0)] []) Try.f41 = some c_ref04_ESame := by kernel_rfl
theorem ok_ref04_ESame : fnOk Try.prog F_ref04_ESame = true := by kernel_rfl
theorem calls_ref04_ESame {args : List AV} {r : AV} (h : RunsX Try.prog 0 (Gives [.t 4] r) [.c c_ref04_ESame] (args ++ List.replicate (39 - args.length) (.tup [])) [] zeroC) : PCalls Try.prog F_ref04_ESame args r :=
  pcallsF Try.checked.mixed Try.func41 ok_ref04_ESame comp_ref04_ESame rfl (rs := [.t 4]) (by kernel_rfl) h
theorem hcalls_ref04_ESame {args : List AV} {Hin Hout : Heap} {nx nx2 : Ctr} {r : AV} (φ : Nat) (ks : List (Nat × Nat)) (h : RunsX Try.prog φ (GivesH ks [.t 4] r Hout nx2) [.c c_ref04_ESame] (args ++ List.replicate (39 - args.length) (.tup [])) Hin nx) : HCalls Try.prog F_ref04_ESame args Hin nx r Hout nx2 :=
  hcallsF Try.checked.mixed Try.func41 ok_ref04_ESame comp_ref04_ESame rfl (rs := [.t 4]) (by kernel_rfl) φ ks h

/-- pedlar/pedlarlaw05.count: parameters [42, 3], results [.t 4], calls law05_count -/
def wl_law05_count_0 : Mk := ⟨[true, false, false, true, true, false, true, true, true, true, true, false, false, true, true, true, true, true, true, true, true, true, true, true, true, true, true, true, true, true], []⟩
abbrev s_law05_count_0 (t1 t2 t5 t11 t12 : AV) : List AV := [.any, t1, t2, .any, .any, t5, .any, .any, .any, .any, .any, t11, t12, .any, .any, .any, .any, .any, .any, .any, .any, .any, .any, .any, .any, .any, .any, .any, .any, .any]
def c_law05_count_l0 : Cd := (.seq (.reg [⟨(some 13), none, (.bin .lss), [.t 12, .t 11]⟩]) (.seq (.cond (.t 13) .skip (.exit 0)) (.seq (.blk 1 [] (.seq (.reg [⟨(some 14), none, .mv, [.t 12]⟩, ⟨(some 6), none, .mv, [.t 14]⟩]) (.seq (.reg [⟨(some 15), none, .mv, [.t 5]⟩, ⟨(some 16), none, (.fa 1), [.t 2]⟩, ⟨(some 17), none, .ld1, [.t 16]⟩, ⟨(some 18), none, .mv, [.t 6]⟩, ⟨(some 19), none, (.ixS 2), [.t 17, .t 18]⟩, ⟨(some 20), none, (.ldn 2), [.t 19]⟩, ⟨(some 21), none, .mv, [.t 1]⟩, ⟨(some 22), none, (.bin .sub), [.t 21, .c (.int .i64 1)]⟩, ⟨(some 23), none, (.call F_law05_count 0), [.t 20, .t 22]⟩, ⟨(some 24), none, (.bin .add), [.t 15, .t 23]⟩, ⟨(some 5), none, .mv, [.t 24]⟩]) (.seq (.reg [⟨(some 25), none, .mv, [.t 5]⟩, ⟨(some 26), none, (.bin .gtr), [.t 25, .c (.int .i64 1000)]⟩]) (.cond (.t 26) (.seq (.reg [⟨(some 27), none, .mv, [.t 5]⟩, ⟨(some 4), none, .mv, [.t 27]⟩]) .ret) .skip))))) (.reg [⟨(some 28), none, (.bin .add), [.t 12, .c (.int .i64 1)]⟩, ⟨(some 12), none, .mv, [.t 28]⟩]))))
def wb_law05_count_0 : List Bool := [true, true, true, true, true, false, true, true, true, true, true, true, true, true, true, true, true, true, true, true, true, true, true, true, true, true, true, true, true, true]
abbrev e_law05_count_0 (t5 : AV) : List AV := [.any, .any, .any, .any, .any, t5, .any, .any, .any, .any, .any, .any, .any, .any, .any, .any, .any, .any, .any, .any, .any, .any, .any, .any, .any, .any, .any, .any, .any, .any]
abbrev i_law05_count_0 : List It := [.lp wl_law05_count_0 c_law05_count_l0, .blk 0 wb_law05_count_0]
def c_law05_count_k0 : Cd := (.seq (.reg [⟨(some 29), none, .mv, [.t 5]⟩, ⟨(some 4), none, .mv, [.t 29]⟩]) .ret)
def c_law05_count : Cd := (.seq (.reg [⟨(some 2), none, .box, [.t 0]⟩, ⟨(some 4), none, .mv, [.c (.int .i64 0)]⟩]) (.seq (.seq (.reg [⟨(some 7), none, .mv, [.t 1]⟩, ⟨(some 8), none, (.bin .lss), [.t 7, .c (.int .i64 1)]⟩]) (.cond (.t 8) (.seq (.reg [⟨(some 4), none, .mv, [.c (.int .i64 2000)]⟩]) .ret) .skip)) (.seq (.reg [⟨(some 5), none, .mv, [.c (.int .i64 1)]⟩]) (.seq (.seq (.reg [⟨(some 9), none, (.fa 1), [.t 2]⟩, ⟨(some 10), none, .ld1, [.t 9]⟩, ⟨(some 11), none, .len, [.t 10]⟩, ⟨(some 12), none, .mv, [.c (.int .i64 0)]⟩]) (.blk 0 wb_law05_count_0 (.loop wl_law05_count_0 c_law05_count_l0))) c_law05_count_k0))))
theorem comp_law05_count : compF Try.prog (mset [] [] []) (cset [] [] []) (wset [(0, wl_law05_count_0, wb_law05_count_0)] []) Try.f98 = some c_law05_count := by kernel_rfl
theorem ok_law05_count : fnOk Try.prog F_law05_count = true := by kernel_rfl
theorem calls_law05_count {args : List AV} {r : AV} (h : RunsX Try.prog 0 (Gives [.t 4] r) [.c c_law05_count] (args ++ List.replicate (30 - args.length) (.tup [])) [] zeroC) : PCalls Try.prog F_law05_count args r :=
  pcallsF Try.checked.mixed Try.func98 ok_law05_count comp_law05_count rfl (rs := [.t 4]) (by kernel_rfl) h
theorem hcalls_law05_count {args : List AV} {Hin Hout : Heap} {nx nx2 : Ctr} {r : AV} (φ : Nat) (ks : List (Nat × Nat)) (h : RunsX Try.prog φ (GivesH ks [.t 4] r Hout nx2) [.c c_law05_count] (args ++ List.replicate (30 - args.length) (.tup [])) Hin nx) : HCalls Try.prog F_law05_count args Hin nx r Hout nx2 :=
  hcallsF Try.checked.mixed Try.func98 ok_law05_count comp_law05_count rfl (rs := [.t 4]) (by kernel_rfl) φ ks h

/-- pedlar/pedlarlaw05.Few: parameters [42, 3], results [.t 4], calls law05_count -/
def c_law05_Few : Cd := (.seq (.reg [⟨(some 2), none, .box, [.t 0]⟩, ⟨(some 4), none, .mv, [.c (.bool false)]⟩]) (.seq (.reg [⟨(some 5), none, (.ldn 2), [.t 2]⟩, ⟨(some 6), none, .mv, [.t 1]⟩, ⟨(some 7), none, (.call F_law05_count 0), [.t 5, .t 6]⟩, ⟨(some 8), none, (.bin .leq), [.t 7, .c (.int .i64 1000)]⟩, ⟨(some 4), none, .mv, [.t 8]⟩]) .ret))
theorem comp_law05_Few : compF Try.prog (mset [] [] []) (cset [] [] []) (wset [] []) Try.f35 = some c_law05_Few := by kernel_rfl
theorem ok_law05_Few : fnOk Try.prog F_law05_Few = true := by kernel_rfl
theorem calls_law05_Few {args : List AV} {r : AV} (h : RunsX Try.prog 0 (Gives [.t 4] r) [.c c_law05_Few] (args ++ List.replicate (9 - args.length) (.tup [])) [] zeroC) : PCalls Try.prog F_law05_Few args r :=
  pcallsF Try.checked.mixed Try.func35 ok_law05_Few comp_law05_Few rfl (rs := [.t 4]) (by kernel_rfl) h
theorem hcalls_law05_Few {args : List AV} {Hin Hout : Heap} {nx nx2 : Ctr} {r : AV} (φ : Nat) (ks : List (Nat × Nat)) (h : RunsX Try.prog φ (GivesH ks [.t 4] r Hout nx2) [.c c_law05_Few] (args ++ List.replicate (9 - args.length) (.tup [])) Hin nx) : HCalls Try.prog F_law05_Few args Hin nx r Hout nx2 :=
  hcallsF Try.checked.mixed Try.func35 ok_law05_Few comp_law05_Few rfl (rs := [.t 4]) (by kernel_rfl) φ ks h

/-- pedlar/pedlarref04.least: parameters [65], results [.t 2], calls  -/
def wl_ref04_least_0 : Mk := ⟨[false, true, true, false, true, true, true, true, true, false, false, true, true, true, true, true, true, true, true, true, true], []⟩
abbrev s_ref04_least_0 (t0 t3 t9 t10 : AV) : List AV := [t0, .any, .any, t3, .any, .any, .any, .any, .any, t9, t10, .any, .any, .any, .any, .any, .any, .any, .any, .any, .any]
def c_ref04_least_l0 : Cd := (.seq (.reg [⟨(some 11), none, (.bin .lss), [.t 10, .t 9]⟩]) (.seq (.cond (.t 11) .skip (.exit 0)) (.seq (.blk 1 [] (.seq (.reg [⟨(some 12), none, .mv, [.t 10]⟩, ⟨(some 4), none, .mv, [.t 12]⟩]) (.reg [⟨(some 13), none, .mv, [.t 3]⟩, ⟨(some 14), none, .mv, [.t 0]⟩, ⟨(some 15), none, .mv, [.t 4]⟩, ⟨(some 16), none, (.ixS 1), [.t 14, .t 15]⟩, ⟨(some 17), none, .ld1, [.t 16]⟩, ⟨(some 18), none, .mn, [.t 13, .t 17]⟩, ⟨(some 3), none, .mv, [.t 18]⟩]))) (.reg [⟨(some 19), none, (.bin .add), [.t 10, .c (.int .i64 1)]⟩, ⟨(some 10), none, .mv, [.t 19]⟩]))))
def wb_ref04_least_0 : List Bool := [true, true, true, false, true, true, true, true, true, true, true, true, true, true, true, true, true, true, true, true, true]
abbrev e_ref04_least_0 (t3 : AV) : List AV := [.any, .any, .any, t3, .any, .any, .any, .any, .any, .any, .any, .any, .any, .any, .any, .any, .any, .any, .any, .any, .any]
abbrev i_ref04_least_0 : List It := [.lp wl_ref04_least_0 c_ref04_least_l0, .blk 0 wb_ref04_least_0]
def c_ref04_least_k0 : Cd := (.seq (.reg [⟨(some 20), none, .mv, [.t 3]⟩, ⟨(some 2), none, .mv, [.t 20]⟩]) .ret)
def c_ref04_least : Cd := (.seq (.reg [⟨(some 2), none, .mv, [.c (.int .i64 0)]⟩]) (.seq (.reg [⟨(some 5), none, .mv, [.t 0]⟩, ⟨(some 6), none, (.ixS 1), [.t 5, .c (.int .i64 0)]⟩, ⟨(some 7), none, .ld1, [.t 6]⟩, ⟨(some 3), none, .mv, [.t 7]⟩]) (.seq (.seq (.reg [⟨(some 8), none, .mv, [.t 0]⟩, ⟨(some 9), none, .len, [.t 8]⟩, ⟨(some 10), none, .mv, [.c (.int .i64 0)]⟩]) (.blk 0 wb_ref04_least_0 (.loop wl_ref04_least_0 c_ref04_least_l0))) c_ref04_least_k0)))
theorem comp_ref04_least : compF Try.prog (mset [] [] []) (cset [] [] []) (wset [(0, wl_ref04_least_0, wb_ref04_least_0)] []) Try.f109 = some c_ref04_least := by kernel_rfl
theorem ok_ref04_least : fnOk Try.prog F_ref04_least = true := by kernel_rfl
theorem calls_ref04_least {args : List AV} {r : AV} (h : RunsX Try.prog 0 (Gives [.t 2] r) [.c c_ref04_least] (args ++ List.replicate (21 - args.length) (.tup [])) [] zeroC) : PCalls Try.prog F_ref04_least args r :=
  pcallsF Try.checked.mixed Try.func109 ok_ref04_least comp_ref04_least rfl (rs := [.t 2]) (by kernel_rfl) h
theorem hcalls_ref04_least {args : List AV} {Hin Hout : Heap} {nx nx2 : Ctr} {r : AV} (φ : Nat) (ks : List (Nat × Nat)) (h : RunsX Try.prog φ (GivesH ks [.t 2] r Hout nx2) [.c c_ref04_least] (args ++ List.replicate (21 - args.length) (.tup [])) Hin nx) : HCalls Try.prog F_ref04_least args Hin nx r Hout nx2 :=
  hcallsF Try.checked.mixed Try.func109 ok_ref04_least comp_ref04_least rfl (rs := [.t 2]) (by kernel_rfl) φ ks h

/-- pedlar/pedlarref04.most: parameters [65], results [.t 2], calls  -/
def wl_ref04_most_0 : Mk := ⟨[false, true, true, false, true, true, true, true, true, false, false, true, true, true, true, true, true, true, true, true, true], []⟩
abbrev s_ref04_most_0 (t0 t3 t9 t10 : AV) : List AV := [t0, .any, .any, t3, .any, .any, .any, .any, .any, t9, t10, .any, .any, .any, .any, .any, .any, .any, .any, .any, .any]
def c_ref04_most_l0 : Cd := (.seq (.reg [⟨(some 11), none, (.bin .lss), [.t 10, .t 9]⟩]) (.seq (.cond (.t 11) .skip (.exit 0)) (.seq (.blk 1 [] (.seq (.reg [⟨(some 12), none, .mv, [.t 10]⟩, ⟨(some 4), none, .mv, [.t 12]⟩]) (.reg [⟨(some 13), none, .mv, [.t 3]⟩, ⟨(some 14), none, .mv, [.t 0]⟩, ⟨(some 15), none, .mv, [.t 4]⟩, ⟨(some 16), none, (.ixS 1), [.t 14, .t 15]⟩, ⟨(some 17), none, .ld1, [.t 16]⟩, ⟨(some 18), none, .mx, [.t 13, .t 17]⟩, ⟨(some 3), none, .mv, [.t 18]⟩]))) (.reg [⟨(some 19), none, (.bin .add), [.t 10, .c (.int .i64 1)]⟩, ⟨(some 10), none, .mv, [.t 19]⟩]))))
def wb_ref04_most_0 : List Bool := [true, true, true, false, true, true, true, true, true, true, true, true, true, true, true, true, true, true, true, true, true]
abbrev e_ref04_most_0 (t3 : AV) : List AV := [.any, .any, .any, t3, .any, .any, .any, .any, .any, .any, .any, .any, .any, .any, .any, .any, .any, .any, .any, .any, .any]
abbrev i_ref04_most_0 : List It := [.lp wl_ref04_most_0 c_ref04_most_l0, .blk 0 wb_ref04_most_0]
def c_ref04_most_k0 : Cd := (.seq (.reg [⟨(some 20), none, .mv, [.t 3]⟩, ⟨(some 2), none, .mv, [.t 20]⟩]) .ret)
def c_ref04_most : Cd := (.seq (.reg [⟨(some 2), none, .mv, [.c (.int .i64 0)]⟩]) (.seq (.reg [⟨(some 5), none, .mv, [.t 0]⟩, ⟨(some 6), none, (.ixS 1), [.t 5, .c (.int .i64 0)]⟩, ⟨(some 7), none, .ld1, [.t 6]⟩, ⟨(some 3), none, .mv, [.t 7]⟩]) (.seq (.seq (.reg [⟨(some 8), none, .mv, [.t 0]⟩, ⟨(some 9), none, .len, [.t 8]⟩, ⟨(some 10), none, .mv, [.c (.int .i64 0)]⟩]) (.blk 0 wb_ref04_most_0 (.loop wl_ref04_most_0 c_ref04_most_l0))) c_ref04_most_k0)))
theorem comp_ref04_most : compF Try.prog (mset [] [] []) (cset [] [] []) (wset [(0, wl_ref04_most_0, wb_ref04_most_0)] []) Try.f110 = some c_ref04_most := by kernel_rfl
theorem ok_ref04_most : fnOk Try.prog F_ref04_most = true := by kernel_rfl
theorem calls_ref04_most {args : List AV} {r : AV} (h : RunsX Try.prog 0 (Gives [.t 2] r) [.c c_ref04_most] (args ++ List.replicate (21 - args.length) (.tup [])) [] zeroC) : PCalls Try.prog F_ref04_most args r :=
  pcallsF Try.checked.mixed Try.func110 ok_ref04_most comp_ref04_most rfl (rs := [.t 2]) (by kernel_rfl) h
theorem hcalls_ref04_most {args : List AV} {Hin Hout : Heap} {nx nx2 : Ctr} {r : AV} (φ : Nat) (ks : List (Nat × Nat)) (h : RunsX Try.prog φ (GivesH ks [.t 2] r Hout nx2) [.c c_ref04_most] (args ++ List.replicate (21 - args.length) (.tup [])) Hin nx) : HCalls Try.prog F_ref04_most args Hin nx r Hout nx2 :=
  hcallsF Try.checked.mixed Try.func110 ok_ref04_most comp_ref04_most rfl (rs := [.t 2]) (by kernel_rfl) φ ks h

/-- pedlar/pedlarref04.Max: parameters [65, 65], results [.t 4], calls  -/
def wl_ref04_Max_0 : Mk := ⟨[false, false, true, true, true, false, true, true, true, true, true, false, false, true, true, true, true, true, true, true, true, true, true, true, true, true, true, true, true], []⟩
abbrev s_ref04_Max_0 (t0 t1 t5 t11 t12 : AV) : List AV := [t0, t1, .any, .any, .any, t5, .any, .any, .any, .any, .any, t11, t12, .any, .any, .any, .any, .any, .any, .any, .any, .any, .any, .any, .any, .any, .any, .any, .any]
def c_ref04_Max_l0 : Cd := (.seq (.reg [⟨(some 13), none, (.bin .lss), [.t 12, .t 11]⟩]) (.seq (.cond (.t 13) .skip (.exit 0)) (.seq (.blk 1 [] (.seq (.reg [⟨(some 14), none, .mv, [.t 12]⟩, ⟨(some 6), none, .mv, [.t 14]⟩]) (.reg [⟨(some 15), none, .mv, [.t 5]⟩, ⟨(some 16), none, .mv, [.t 6]⟩, ⟨(some 17), none, .mv, [.t 0]⟩, ⟨(some 18), none, .mv, [.t 6]⟩, ⟨(some 19), none, (.ixS 1), [.t 17, .t 18]⟩, ⟨(some 20), none, .ld1, [.t 19]⟩, ⟨(some 21), none, .mv, [.t 1]⟩, ⟨(some 22), none, .mv, [.t 6]⟩, ⟨(some 23), none, (.ixS 1), [.t 21, .t 22]⟩, ⟨(some 24), none, .ld1, [.t 23]⟩, ⟨(some 25), none, .mx, [.t 20, .t 24]⟩, ⟨(some 26), none, (.ixS 1), [.t 15, .t 16]⟩, ⟨none, none, (.st 1), [.t 26, .t 25]⟩]))) (.reg [⟨(some 27), none, (.bin .add), [.t 12, .c (.int .i64 1)]⟩, ⟨(some 12), none, .mv, [.t 27]⟩]))))
def wb_ref04_Max_0 : List Bool := [true, true, true, true, true, false, true, true, true, true, true, true, true, true, true, true, true, true, true, true, true, true, true, true, true, true, true, true, true]
abbrev e_ref04_Max_0 (t5 : AV) : List AV := [.any, .any, .any, .any, .any, t5, .any, .any, .any, .any, .any, .any, .any, .any, .any, .any, .any, .any, .any, .any, .any, .any, .any, .any, .any, .any, .any, .any, .any]
abbrev i_ref04_Max_0 : List It := [.lp wl_ref04_Max_0 c_ref04_Max_l0, .blk 0 wb_ref04_Max_0]
def c_ref04_Max_k0 : Cd := (.seq (.reg [⟨(some 28), none, .mv, [.t 5]⟩, ⟨(some 4), none, .mv, [.t 28]⟩]) .ret)
def c_ref04_Max : Cd := (.seq (.reg [⟨(some 4), none, .mv, [.c .nils]⟩]) (.seq (.reg [⟨(some 7), none, .mv, [.t 0]⟩, ⟨(some 8), none, .len, [.t 7]⟩, ⟨(some 9), none, (.mk (.int .i64 0) 8 9), [.t 8]⟩, ⟨(some 5), none, .mv, [.t 9]⟩]) (.seq (.seq (.reg [⟨(some 10), none, .mv, [.t 0]⟩, ⟨(some 11), none, .len, [.t 10]⟩, ⟨(some 12), none, .mv, [.c (.int .i64 0)]⟩]) (.blk 0 wb_ref04_Max_0 (.loop wl_ref04_Max_0 c_ref04_Max_l0))) c_ref04_Max_k0)))
theorem comp_ref04_Max : compF Try.prog (mset [] [] []) (cset [] [] []) (wset [(0, wl_ref04_Max_0, wb_ref04_Max_0)] []) Try.f46 = some c_ref04_Max := by kernel_rfl
theorem ok_ref04_Max : fnOk Try.prog F_ref04_Max = true := by kernel_rfl
theorem calls_ref04_Max {args : List AV} {r : AV} (h : RunsX Try.prog 0 (Gives [.t 4] r) [.c c_ref04_Max] (args ++ List.replicate (29 - args.length) (.tup [])) [] zeroC) : PCalls Try.prog F_ref04_Max args r :=
  pcallsF Try.checked.mixed Try.func46 ok_ref04_Max comp_ref04_Max rfl (rs := [.t 4]) (by kernel_rfl) h
theorem hcalls_ref04_Max {args : List AV} {Hin Hout : Heap} {nx nx2 : Ctr} {r : AV} (φ : Nat) (ks : List (Nat × Nat)) (h : RunsX Try.prog φ (GivesH ks [.t 4] r Hout nx2) [.c c_ref04_Max] (args ++ List.replicate (29 - args.length) (.tup [])) Hin nx) : HCalls Try.prog F_ref04_Max args Hin nx r Hout nx2 :=
  hcallsF Try.checked.mixed Try.func46 ok_ref04_Max comp_ref04_Max rfl (rs := [.t 4]) (by kernel_rfl) φ ks h

/-- pedlar/pedlarref04.ETree: parameters [65, 2], results [.cn 4 2], calls ref04_least, ref04_most, ref04_ETree -/
def c_ref04_ETree : Cd := (.seq (.reg [⟨(some 4), none, (.new [(.int .i64 0), .nils] 4), []⟩]) (.seq (.reg [⟨(some 7), none, .mv, [.t 0]⟩, ⟨(some 8), none, (.call F_ref04_least 0), [.t 7]⟩, ⟨(some 5), none, .mv, [.t 8]⟩]) (.seq (.seq (.reg [⟨(some 9), none, .mv, [.t 5]⟩, ⟨(some 10), none, .mv, [.t 0]⟩, ⟨(some 11), none, (.call F_ref04_most 0), [.t 10]⟩, ⟨(some 12), none, (.bin .eql), [.t 9, .t 11]⟩]) (.cond (.t 12) (.seq (.reg [⟨(some 13), none, .mv, [.t 5]⟩, ⟨(some 14), none, .mv, [.t 1]⟩, ⟨(some 15), none, (.bin .sub), [.t 13, .t 14]⟩, ⟨(some 16), none, (.bld [(.int .i64 0), .nils] [(0, 1)]), [.t 15]⟩, ⟨none, none, (.st 2), [.t 4, .t 16]⟩]) .ret) .skip)) (.seq (.reg [⟨(some 17), none, .mv, [.t 0]⟩, ⟨(some 18), none, .len, [.t 17]⟩, ⟨(some 19), none, (.bin .quo), [.t 18, .c (.int .i64 2)]⟩, ⟨(some 6), none, .mv, [.t 19]⟩]) (.seq (.reg [⟨(some 20), none, .mv, [.t 5]⟩, ⟨(some 21), none, .mv, [.t 1]⟩, ⟨(some 22), none, (.bin .sub), [.t 20, .t 21]⟩, ⟨(some 23), none, .mv, [.t 0]⟩, ⟨(some 24), none, .mv, [.t 6]⟩, ⟨(some 25), none, (.slc 1 false true false), [.t 23, .t 24]⟩, ⟨(some 26), none, .mv, [.t 5]⟩, ⟨(some 27), none, (.call F_ref04_ETree 0), [.t 25, .t 26]⟩, ⟨(some 28), none, .mv, [.t 0]⟩, ⟨(some 29), none, .mv, [.t 6]⟩, ⟨(some 30), none, (.slc 1 true false false), [.t 28, .t 29]⟩, ⟨(some 31), none, .mv, [.t 5]⟩, ⟨(some 32), none, (.call F_ref04_ETree 0), [.t 30, .t 31]⟩, ⟨(some 33), none, (.lit 2 2), [.t 27, .t 32]⟩, ⟨(some 34), none, (.bld [(.int .i64 0), .nils] [(0, 1), (1, 1)]), [.t 22, .t 33]⟩, ⟨none, none, (.st 2), [.t 4, .t 34]⟩]) .ret)))))
theorem comp_ref04_ETree : compF Try.prog (mset [] [] []) (cset [] [] []) (wset [] []) Try.f40 = some c_ref04_ETree := by kernel_rfl
theorem ok_ref04_ETree : fnOk Try.prog F_ref04_ETree = true := by kernel_rfl
theorem calls_ref04_ETree {args : List AV} {r : AV} (h : RunsX Try.prog 0 (Gives [.cn 4 2] r) [.c c_ref04_ETree] (args ++ List.replicate (35 - args.length) (.tup [])) [] zeroC) : PCalls Try.prog F_ref04_ETree args r :=
  pcallsF Try.checked.mixed Try.func40 ok_ref04_ETree comp_ref04_ETree rfl (rs := [.cn 4 2]) (by kernel_rfl) h
theorem hcalls_ref04_ETree {args : List AV} {Hin Hout : Heap} {nx nx2 : Ctr} {r : AV} (φ : Nat) (ks : List (Nat × Nat)) (h : RunsX Try.prog φ (GivesH ks [.cn 4 2] r Hout nx2) [.c c_ref04_ETree] (args ++ List.replicate (35 - args.length) (.tup [])) Hin nx) : HCalls Try.prog F_ref04_ETree args Hin nx r Hout nx2 :=
  hcallsF Try.checked.mixed Try.func40 ok_ref04_ETree comp_ref04_ETree rfl (rs := [.cn 4 2]) (by kernel_rfl) φ ks h

def tab_CdEvent : List (Nat × Cd × Nat × List RS) := [(F_event_leaf, c_event_leaf, 7, [.t 2]), (F_event_count, c_event_count, 48, [.t 4]), (F_event_short, c_event_short, 47, [.t 2]), (F_event_Right, c_event_Right, 10, [.t 2]), (F_event_same, c_event_same, 47, [.t 6]), (F_event_Same, c_event_Same, 8, [.t 4]), (F_event_shallow, c_event_shallow, 26, [.t 4]), (F_event_clone, c_event_clone, 25, [.cn 2 2]), (F_event_Clone, c_event_Clone, 9, [.cn 2 2]), (F_event_lift, c_event_lift, 12, [.cn 4 2]), (F_event_half, c_event_half, 16, [.cn 4 2]), (F_event_leq, c_event_leq, 28, [.t 4]), (F_event_Leq, c_event_Leq, 16, [.t 4]), (F_event_node, c_event_node, 43, [.cn 6 2]), (F_event_join, c_event_join, 28, [.cn 4 2]), (F_event_told, c_event_told, 10, [.cn 2 2, .t 3]), (F_event_Join, c_event_Join, 21, [.cn 4 2, .t 5]), (F_ref04_EDeep, c_ref04_EDeep, 28, [.t 4]), (F_ref04_ecount, c_ref04_ecount, 91, [.t 2, .t 3]), (F_ref04_ERight, c_ref04_ERight, 18, [.t 2]), (F_ref04_ERow, c_ref04_ERow, 41, [.t 2]), (F_ref04_Leq, c_ref04_Leq, 21, [.t 4]), (F_ref04_equal, c_ref04_equal, 21, [.t 4]), (F_ref04_ESame, c_ref04_ESame, 39, [.t 4]), (F_law05_count, c_law05_count, 30, [.t 4]), (F_law05_Few, c_law05_Few, 9, [.t 4]), (F_ref04_least, c_ref04_least, 21, [.t 2]), (F_ref04_most, c_ref04_most, 21, [.t 2]), (F_ref04_Max, c_ref04_Max, 29, [.t 4]), (F_ref04_ETree, c_ref04_ETree, 35, [.cn 4 2])]
theorem tok_CdEvent : TabOk Try.prog (tabOf tab_CdEvent) := tab_cons calls_event_leaf hcalls_event_leaf (tab_cons calls_event_count hcalls_event_count (tab_cons calls_event_short hcalls_event_short (tab_cons calls_event_Right hcalls_event_Right (tab_cons calls_event_same hcalls_event_same (tab_cons calls_event_Same hcalls_event_Same (tab_cons calls_event_shallow hcalls_event_shallow (tab_cons calls_event_clone hcalls_event_clone (tab_cons calls_event_Clone hcalls_event_Clone (tab_cons calls_event_lift hcalls_event_lift (tab_cons calls_event_half hcalls_event_half (tab_cons calls_event_leq hcalls_event_leq (tab_cons calls_event_Leq hcalls_event_Leq (tab_cons calls_event_node hcalls_event_node (tab_cons calls_event_join hcalls_event_join (tab_cons calls_event_told hcalls_event_told (tab_cons calls_event_Join hcalls_event_Join (tab_cons calls_ref04_EDeep hcalls_ref04_EDeep (tab_cons calls_ref04_ecount hcalls_ref04_ecount (tab_cons calls_ref04_ERight hcalls_ref04_ERight (tab_cons calls_ref04_ERow hcalls_ref04_ERow (tab_cons calls_ref04_Leq hcalls_ref04_Leq (tab_cons calls_ref04_equal hcalls_ref04_equal (tab_cons calls_ref04_ESame hcalls_ref04_ESame (tab_cons calls_law05_count hcalls_law05_count (tab_cons calls_law05_Few hcalls_law05_Few (tab_cons calls_ref04_least hcalls_ref04_least (tab_cons calls_ref04_most hcalls_ref04_most (tab_cons calls_ref04_Max hcalls_ref04_Max (tab_cons calls_ref04_ETree hcalls_ref04_ETree (tab_nil))))))))))))))))))))))))))))))
end Go.Proofs.Ytmokhopjnjecbab
/- Trees of events, and what the words say of them: plain. -/
namespace Go.Ev
set_option linter.unusedVariables false

inductive ET where
  | mk (n : Int) (ps : List ET)
def ET.n : ET → Int | .mk o _ => o
def ET.ps : ET → List ET | .mk _ ps => ps
theorem ET.eta (t : ET) : ET.mk t.n t.ps = t := by cases t; rfl
mutual
def xtav : ET → AV
  | .mk o ps => .agg [.int .i64 o, .fz 2 (xtavs ps) none]
def xtavs : List ET → List AV
  | [] => []
  | p :: ps => xtav p :: xtavs ps
end
/-- A tree, as a value. -/
abbrev xtv (t : ET) : AV := .agg [.int .i64 t.n, .fz 2 (xtavs t.ps) none]
theorem xtav_tv (t : ET) : xtav t = xtv t := by cases t; simp only [xtav]; rfl
theorem xtavs_len : ∀ ps, (xtavs ps).length = ps.length
  | [] => by simp only [xtavs, List.length_nil]
  | p :: ps => by simp only [xtavs, List.length_cons, xtavs_len ps]
theorem xtavs_get : ∀ (ps : List ET) (i : Nat), (xtavs ps)[i]? = ps[i]?.map xtv
  | [], i => by simp [xtavs]
  | p :: ps, 0 => by simp [xtavs, xtav_tv]
  | p :: ps, i + 1 => by simp only [xtavs, List.getElem?_cons_succ]; exact xtavs_get ps i
theorem xtavs_append : ∀ (a b : List ET), xtavs a ++ xtavs b = xtavs (a ++ b)
  | [], b => by simp [xtavs]
  | p :: a, b => by simp [xtavs, xtavs_append a b]

mutual
def ET.size : ET → Nat
  | .mk _ ps => 1 + xsizes ps
def xsizes : List ET → Nat
  | [] => 0
  | p :: ps => p.size + xsizes ps
end
theorem xsize_mem {p : ET} : ∀ {ps : List ET}, p ∈ ps → p.size ≤ xsizes ps
  | q :: ps, h => by
    simp only [xsizes]
    rcases List.mem_cons.1 h with rfl | h
    · omega
    · have := xsize_mem h; omega
theorem xsize_ps (t : ET) : t.size = 1 + xsizes t.ps := by cases t; simp only [ET.size, ET.ps]
theorem xsize_lt {t p : ET} (h : p ∈ t.ps) : p.size < t.size := by have := xsize_mem h; rw [xsize_ps t]; omega
/-- Whoever holds of a tree if it holds of its parts holds of all. -/
theorem ET.ind {C : ET → Prop} (h : ∀ t, (∀ p ∈ t.ps, C p) → C t) : ∀ t, C t := by
  have key : ∀ n t, t.size < n → C t := by
    intro n
    induction n with
    | zero => intro t ht; omega
    | succ n ih => exact fun t ht => h t (fun p hp => ih p (by have := xsize_lt hp; omega))
  exact fun t => key _ t (Nat.lt_succ_self _)

/-- How xdeep, as far as so many levels. -/
def xdeepL (f : ET → Nat) : Nat → List ET → Nat
  | n, [] => n
  | n, p :: ps => xdeepL f (max n (f p)) ps
def xdeep : Nat → ET → Nat
  | 0, _ => 1
  | m + 1, t => xdeepL (xdeep m) 0 t.ps + 1
/-- No deeper than that. -/
def xflatTo : Nat → ET → Prop
  | 0, _ => False
  | d + 1, t => ∀ p ∈ t.ps, xflatTo d p
theorem xdeepL_le (f : ET → Nat) (b : Nat) : ∀ (n : Nat) (ps : List ET), xdeepL f n ps ≤ b ↔ n ≤ b ∧ ∀ p ∈ ps, f p ≤ b
  | n, [] => by simp [xdeepL]
  | n, p :: ps => by
    simp only [xdeepL, xdeepL_le f b _ ps, List.mem_cons, forall_eq_or_imp]
    constructor
    · rintro ⟨h1, h2⟩; exact ⟨by omega, by omega, h2⟩
    · rintro ⟨h1, h2, h3⟩; exact ⟨by omega, h3⟩
theorem xdeep_pos (m : Nat) (t : ET) : 1 ≤ xdeep m t := by cases m <;> simp [xdeep]
theorem xdeep_le : ∀ (m : Nat) (t : ET), xdeep m t ≤ m ↔ xflatTo m t
  | 0, t => by simp [xdeep, xflatTo]
  | m + 1, t => by
    simp only [xdeep, xflatTo, Nat.add_le_add_iff_right, xdeepL_le, Nat.zero_le, true_and]
    exact ⟨fun h p hp => (xdeep_le m p).1 (h p hp), fun h p hp => (xdeep_le m p).2 (h p hp)⟩
theorem xdeep_max : ∀ (m : Nat) (t : ET), xdeep m t ≤ m + 1
  | 0, t => by simp [xdeep]
  | m + 1, t => by
    simp only [xdeep, Nat.add_le_add_iff_right]
    exact (xdeepL_le _ _ _ _).2 ⟨by omega, fun p hp => xdeep_max m p⟩

/-- How many nodes: 61 where it is too xdeep, or not of two parts or none. -/
def xcntL (f : ET → Nat) : Nat → List ET → Nat
  | n, [] => n
  | n, p :: ps => if 60 < n + f p then 61 else xcntL f (n + f p) ps
def xcnt : Nat → ET → Nat
  | 0, _ => 61
  | d + 1, t => if t.n < 0 ∨ 1099511627776 < t.n ∨ (¬ t.ps.length = 0 ∧ ¬ t.ps.length = 2) then 61 else xcntL (xcnt d) 1 t.ps
theorem xcntL_le (f : ET → Nat) : ∀ (n : Nat) (ps : List ET), n ≤ 61 → xcntL f n ps ≤ 61
  | n, [], h => h
  | n, p :: ps, h => by
    simp only [xcntL]; split
    · omega
    · exact xcntL_le f _ ps (by omega)
theorem xcnt_le : ∀ (d : Nat) (t : ET), xcnt d t ≤ 61
  | 0, t => by simp [xcnt]
  | d + 1, t => by
    simp only [xcnt]; split
    · omega
    · exact xcntL_le _ _ _ (by omega)
/-! ### trees compared -/
def xsmL (f : ET → ET → Bool) : List ET → List ET → Bool
  | p :: ps, q :: qs => f p q && xsmL f ps qs
  | _, _ => true
def xsm : Nat → ET → ET → Bool
  | 0, _, _ => false
  | d + 1, a, b => decide (a.n = b.n ∧ a.ps.length = b.ps.length) && xsmL (xsm d) a.ps b.ps
theorem xsmL_iff (f : ET → ET → Bool) (P : ET → Prop) : ∀ (ps qs : List ET), ps.length = qs.length → (∀ p ∈ ps, ∀ q, f p q = true ↔ p = q ∧ P p) → (xsmL f ps qs = true ↔ ps = qs ∧ ∀ p ∈ ps, P p)
  | [], [], _, _ => by simp [xsmL]
  | [], _ :: _, h, _ => by simp at h
  | _ :: _, [], h, _ => by simp at h
  | p :: ps, q :: qs, h, hf => by
    have ih := xsmL_iff f P ps qs (by simpa using h) (fun x hx => hf x (List.mem_cons_of_mem _ hx))
    simp only [xsmL, Bool.and_eq_true, ih, hf p (List.mem_cons_self) q, List.cons.injEq, List.mem_cons, forall_eq_or_imp]
    constructor
    · rintro ⟨⟨a, b⟩, c, d⟩; exact ⟨⟨a, c⟩, b, d⟩
    · rintro ⟨⟨a, c⟩, b, d⟩; exact ⟨⟨a, b⟩, c, d⟩
theorem xsm_iff : ∀ (d : Nat) (a b : ET), xsm d a b = true ↔ a = b ∧ xflatTo d a
  | 0, a, b => by simp [xsm, xflatTo]
  | d + 1, a, b => by
    simp only [xsm, Bool.and_eq_true, decide_eq_true_eq, xflatTo]
    constructor
    · rintro ⟨⟨h1, h2⟩, h3⟩
      have := (xsmL_iff (xsm d) (xflatTo d) a.ps b.ps h2 (fun p _ q => xsm_iff d p q)).1 h3
      exact ⟨by rw [← a.eta, ← b.eta, h1, this.1], this.2⟩
    · rintro ⟨rfl, h⟩
      exact ⟨⟨rfl, rfl⟩, (xsmL_iff (xsm d) (xflatTo d) a.ps a.ps rfl (fun p _ q => xsm_iff d p q)).2 ⟨rfl, h⟩⟩
/-- Alike? -/
noncomputable def xteq (a b : ET) : Bool := @decide (a = b) (Classical.propDecidable _)
theorem xteq_true {a b : ET} : xteq a b = true ↔ a = b := by simp [xteq]
theorem xteq_step (a b : ET) : xteq a b = (decide (a.n = b.n ∧ a.ps.length = b.ps.length) && xsmL xteq a.ps b.ps) := by
  rw [Bool.eq_iff_iff, xteq_true, Bool.and_eq_true, decide_eq_true_eq]
  constructor
  · rintro rfl
    exact ⟨⟨rfl, rfl⟩, (xsmL_iff xteq (fun _ => True) _ _ rfl (fun p _ q => by simp [xteq_true])).2 ⟨rfl, by simp⟩⟩
  · rintro ⟨⟨h1, h2⟩, h3⟩
    have := (xsmL_iff xteq (fun _ => True) a.ps b.ps h2 (fun p _ q => by simp [xteq_true])).1 h3
    rw [← a.eta, ← b.eta, h1, this.1]
/-! ### as the law's bound counts -/
def xlcntL (f : ET → Nat) : Nat → List ET → Nat
  | n, [] => n
  | n, p :: ps => if 1000 < n + f p then n + f p else xlcntL f (n + f p) ps
def xlcnt : Nat → ET → Nat
  | 0, _ => 2000
  | m + 1, t => xlcntL (xlcnt m) 1 t.ps
theorem xlcntL_le (f : ET → Nat) (hf : ∀ t, f t ≤ 3000) : ∀ (n : Nat) (ps : List ET), n ≤ 1000 → xlcntL f n ps ≤ 4000
  | n, [], h => by simp [xlcntL]; omega
  | n, p :: ps, h => by
    simp only [xlcntL]; have := hf p; split
    · omega
    · exact xlcntL_le f hf _ ps (by omega)
theorem xlcntL_le2 (f : ET → Nat) (b : Nat) (hf : ∀ t, f t ≤ b) : ∀ (n : Nat) (ps : List ET), n ≤ 1000 → xlcntL f n ps ≤ 1000 + b
  | n, [], h => by simp [xlcntL]; omega
  | n, p :: ps, h => by
    simp only [xlcntL]; have := hf p; split
    · omega
    · exact xlcntL_le2 f b hf _ ps (by omega)
theorem xlcnt_le : ∀ (m : Nat) (t : ET), xlcnt m t ≤ 2000 + 1000 * m
  | 0, t => by simp [xlcnt]
  | m + 1, t => by
    simp only [xlcnt]
    have := xlcntL_le2 (xlcnt m) _ (fun t => xlcnt_le m t) 1 t.ps (by omega)
    omega
theorem xlcnt_pos : ∀ (m : Nat) (t : ET), 1 ≤ xlcnt m t := by
  intro m
  have key : ∀ (f : ET → Nat) (n : Nat) (ps : List ET), 1 ≤ n → 1 ≤ xlcntL f n ps := by
    intro f n ps
    induction ps generalizing n with
    | nil => intro h; exact h
    | cons p ps ih =>
      intro h
      simp only [xlcntL]; split
      · omega
      · exact ih _ (by omega)
  intro t
  cases m with
  | zero => simp [xlcnt]
  | succ m => exact key _ _ _ (Nat.le_refl _)
theorem xlcntL_size (f : ET → Nat) (hf : ∀ t, f t ≤ 1000 → t.size ≤ f t) : ∀ (n : Nat) (ps : List ET), xlcntL f n ps ≤ 1000 → n + xsizes ps ≤ xlcntL f n ps
  | n, [], h => by simp [xlcntL, xsizes]
  | n, p :: ps, h => by
    simp only [xlcntL, xsizes] at h ⊢
    split at h
    · omega
    · rename_i h1
      rw [if_neg h1]
      have := hf p (by omega)
      have := xlcntL_size f hf _ ps h
      omega
theorem xlcnt_size : ∀ (m : Nat) (t : ET), xlcnt m t ≤ 1000 → t.size ≤ xlcnt m t
  | 0, t, h => by simp [xlcnt] at h
  | m + 1, t, h => by
    simp only [xlcnt] at h ⊢
    have := xlcntL_size (xlcnt m) (xlcnt_size m) 1 t.ps h
    rw [xsize_ps]; exact this
theorem xlen_sizes : ∀ ps : List ET, ps.length ≤ xsizes ps
  | [] => by simp
  | p :: ps => by have := xlen_sizes ps; have := xsize_ps p; simp only [xsizes, List.length_cons]; omega
theorem xlen_size (t : ET) : t.ps.length < t.size := by have := xlen_sizes t.ps; rw [xsize_ps]; omega
/-! ### trees of two parts or none, counted by Nat -/
inductive E where
  | lf (n : Nat) | nd (n : Nat) (l r : E)
def E.t : E → ET
  | .lf n => .mk n []
  | .nd n l r => .mk n [l.t, r.t]
def E.n : E → Nat
  | .lf n => n
  | .nd n _ _ => n
def E.leaf : E → Bool
  | .lf _ => true
  | .nd _ _ _ => false
def E.nodes : E → Nat
  | .lf _ => 1
  | .nd _ l r => 1 + l.nodes + r.nodes
def E.dep : E → Nat
  | .lf _ => 1
  | .nd _ l r => max l.dep r.dep + 1
/-- Each number is at most 2^40. -/
def E.small : E → Bool
  | .lf n => decide (n ≤ 1099511627776)
  | .nd n l r => decide (n ≤ 1099511627776) && l.small && r.small
def E.short : E → Bool
  | .lf _ => true
  | .nd _ l r => l.short && r.short && (decide (l.n = 0) || decide (r.n = 0)) && !(l.leaf && r.leaf && decide (l.n = r.n))
theorem E.t_n (b : E) : b.t.n = (b.n : Int) := by cases b <;> rfl
theorem E.t_leaf (b : E) : decide (b.t.ps.length = 0) = b.leaf := by cases b <;> simp [E.t, ET.ps, E.leaf]
theorem E.nodes_pos (b : E) : 1 ≤ b.nodes := by cases b <;> simp [E.nodes] <;> omega
theorem E.dep_pos (b : E) : 1 ≤ b.dep := by cases b <;> simp [E.dep]
theorem E.small_n {b : E} (h : b.small = true) : b.n ≤ 1099511627776 := by
  cases b with
  | lf n => simp only [E.small, decide_eq_true_eq] at h; exact h
  | nd n l r => simp only [E.small, Bool.and_eq_true, decide_eq_true_eq] at h; exact h.1.1
theorem xcnt_b : ∀ (d : Nat) (t : ET), xcnt d t ≤ 60 → ∃ b : E, t = b.t ∧ b.nodes = xcnt d t ∧ b.dep ≤ d ∧ b.small = true
  | 0, t, h => by simp [xcnt] at h
  | d + 1, t, h => by
    simp only [xcnt] at h ⊢
    by_cases hn : t.n < 0 ∨ 1099511627776 < t.n ∨ (¬ t.ps.length = 0 ∧ ¬ t.ps.length = 2)
    · rw [if_pos hn] at h; omega
    · rw [if_neg hn] at h
      rw [if_neg hn]
      have he := t.eta
      obtain ⟨n, hnn⟩ : ∃ n : Nat, t.n = (n : Int) := ⟨t.n.toNat, by omega⟩
      rw [hnn] at he hn
      generalize t.ps = ps at hn he h
      subst he
      match ps, hn, h with
      | [], hn, h => exact ⟨.lf n, rfl, rfl, by simp [E.dep], by simp [E.small]; omega⟩
      | [l, r], hn, h =>
        simp only [xcntL] at h ⊢
        split at h
        · omega
        · rename_i h1
          split at h
          · omega
          · rename_i h2
            rw [if_neg h1, if_neg h2]
            obtain ⟨bl, e1, e2, e3, e4⟩ := xcnt_b d l (by omega)
            obtain ⟨br, f1, f2, f3, f4⟩ := xcnt_b d r (by omega)
            exact ⟨.nd n bl br, by rw [e1, f1]; rfl, by simp only [E.nodes]; omega, by simp only [E.dep]; omega, by simp [E.small, e4, f4]; omega⟩
      | [_], hn, h => simp at hn
      | _ :: _ :: _ :: _, hn, h => simp at hn
theorem b_xcnt : ∀ (b : E) (d : Nat), b.nodes ≤ 60 → b.dep ≤ d → b.small = true → xcnt d b.t = b.nodes
  | .lf o, 0, _, h, _ => by simp [E.dep] at h
  | .lf o, d + 1, _, _, h3 => by
    simp only [E.small, decide_eq_true_eq] at h3
    simp only [xcnt, E.t, ET.ps, ET.n, xcntL, E.nodes]
    rw [if_neg (by simp; omega)]
  | .nd n l r, 0, _, h, _ => by simp [E.dep] at h
  | .nd n l r, d + 1, h1, h2, h3 => by
    simp only [E.nodes, E.dep] at h1 h2
    simp only [E.small, Bool.and_eq_true, decide_eq_true_eq] at h3
    have e1 := b_xcnt l d (by omega) (by omega) h3.1.2
    have e2 := b_xcnt r d (by omega) (by omega) h3.2
    simp only [xcnt, E.t, ET.ps, ET.n, xcntL, e1, e2, E.nodes]
    rw [if_neg (by simp; omega), if_neg (by omega), if_neg (by omega)]
theorem E.inj : ∀ {a b : E}, a.t = b.t → a = b
  | .lf o, .lf o', h => by
    simp [E.t] at h
    have h0 : o = o' := by omega
    rw [h0]
  | .lf o, .nd n l r, h => by simp [E.t] at h
  | .nd n l r, .lf o, h => by simp [E.t] at h
  | .nd n l r, .nd n' l' r', h => by
    simp only [E.t, ET.mk.injEq, List.cons.injEq, and_true] at h
    have h0 : n = n' := by omega
    rw [E.inj h.2.1, E.inj h.2.2, h0]
/-- A right event tree: of two parts or none, as short as may be, neither too deep nor too great. -/
def XRt (t : ET) : Prop := ∃ b : E, t = b.t ∧ b.dep ≤ 8 ∧ b.nodes ≤ 60 ∧ b.short = true ∧ b.small = true
noncomputable def xrtb (t : ET) : Bool := @decide (XRt t) (Classical.propDecidable _)
theorem xrtb_true {t : ET} : xrtb t = true ↔ XRt t := by simp [xrtb]
theorem xflat_dep : ∀ (d : Nat) (b : E), xflatTo d b.t ↔ b.dep ≤ d
  | 0, .lf o => by simp [xflatTo, E.dep]
  | 0, .nd n l r => by simp [xflatTo, E.dep]
  | d + 1, .lf o => by simp [xflatTo, E.dep, E.t, ET.ps]
  | d + 1, .nd n l r => by simp only [xflatTo, E.dep, E.t, ET.ps, List.mem_cons, List.not_mem_nil, or_false, forall_eq_or_imp, forall_eq, xflat_dep d l, xflat_dep d r]; omega
theorem E.t_size : ∀ b : E, b.t.size = b.nodes
  | .lf o => by simp [E.t, ET.size, xsizes, E.nodes]
  | .nd n l r => by simp only [E.t, ET.size, xsizes, E.nodes, E.t_size l, E.t_size r]; omega
end Go.Ev
/- Whole numbers of the machine's kinds, as naturals; the sums by arithmetic alone. -/
set_option linter.unusedSimpArgs false
namespace Go.Ev
set_option linter.unusedVariables false

theorem bv_toNat (n a : Nat) (h : a < 2 ^ n) : (BitVec.ofInt n (a : Int)).toNat = a := by
  rw [BitVec.toNat_ofInt]
  have : ((a : Int) % ((2 ^ n : Nat) : Int)).toNat = a := by
    rw [← Int.natCast_emod, Int.toNat_natCast, Nat.mod_eq_of_lt h]
  exact this
theorem wrap_nat (k : IntKind) (hk : k.signed = false) (a : Nat) (h : a < 2 ^ k.bits) : k.wrap (a : Int) = (a : Int) := by
  have : ((a : Int) % ((2 ^ k.bits : Nat) : Int)) = (a : Int) := by
    rw [← Int.natCast_emod, Nat.mod_eq_of_lt h]
  have e : ((2 : Int) ^ k.bits) = ((2 ^ k.bits : Nat) : Int) := by simp
  simp only [IntKind.wrap, hk, Bool.false_and, Bool.false_eq_true, if_false, e, this]
theorem ibits_xor (k : IntKind) (hk : k.signed = false) (a b : Nat) (ha : a < 2 ^ k.bits) (hb : b < 2 ^ k.bits) : ibits .xor k a b = ((a ^^^ b : Nat) : Int) := by
  simp only [ibits, BitVec.toNat_xor, bv_toNat _ _ ha, bv_toNat _ _ hb]
  exact wrap_nat k hk _ (Nat.xor_lt_two_pow ha hb)
theorem ibits_and (k : IntKind) (hk : k.signed = false) (a b : Nat) (ha : a < 2 ^ k.bits) (hb : b < 2 ^ k.bits) : ibits .and k a b = ((a &&& b : Nat) : Int) := by
  simp only [ibits, BitVec.toNat_and, bv_toNat _ _ ha, bv_toNat _ _ hb]
  exact wrap_nat k hk _ (Nat.lt_of_le_of_lt Nat.and_le_left ha)
theorem ishr_nat (k k2 : IntKind) (a b : Nat) (hb : b ≤ k.bits) : ishr k a b = ((a / 2 ^ b : Nat) : Int) := by
  have h1 : min (Int.toNat (b : Int)) k.bits = b := by rw [Int.toNat_natCast]; exact Nat.min_eq_left hb
  simp only [ishr, h1]
  have e : ((2 : Int) ^ b) = ((2 ^ b : Nat) : Int) := by simp
  rw [e, Int.fdiv_eq_ediv_of_nonneg _ (Int.natCast_nonneg _)]
  simp
/-- Bytes. -/
def avs (bs : List Nat) : List AV := bs.map fun (b : Nat) => .int .u8 (b : Int)
theorem avs_get (bs : List Nat) (i : Nat) : (avs bs)[i]? = (bs[i]?).map fun (b : Nat) => AV.int .u8 (b : Int) := by simp [avs]
theorem avs_len (bs : List Nat) : (avs bs).length = bs.length := by simp [avs]
theorem frz_ints {α : Type} (n : Nat) (H : Heap) : ∀ (bs : List Nat) (ok : List AV → List (Nat × Nat) → α) (bad : α), mapK (frzK (n + 1) H) (avs bs) ok bad = ok (avs bs) []
  | [], ok, bad => rfl
  | b :: bs, ok, bad => by
    have ih := frz_ints (α := α) n H bs
    simp only [avs, List.map_cons, mapK, frzK] at ih ⊢
    rw [ih]; rfl

def cstep (s : Nat) : Nat := if s % 2 = 1 then (s / 2) ^^^ 2197175160 else s / 2
def csteps : Nat → Nat → Nat
  | 0, s => s
  | n + 1, s => csteps n (cstep s)
def add (s b : Nat) : Nat := csteps 8 (s ^^^ b)
def crcOf (bs : List Nat) : Nat := (bs.foldl add 4294967295) ^^^ 4294967295
theorem cstep_lt {s : Nat} (h : s < 2 ^ 32) : cstep s < 2 ^ 32 := by
  unfold cstep
  have h2 : s / 2 < 2 ^ 32 := by omega
  split
  · exact Nat.xor_lt_two_pow h2 (by decide)
  · exact h2
theorem csteps_lt : ∀ (n : Nat) {s : Nat}, s < 2 ^ 32 → csteps n s < 2 ^ 32
  | 0, _, h => h
  | n + 1, _, h => csteps_lt n (cstep_lt h)
theorem add_lt {s b : Nat} (hs : s < 2 ^ 32) (hb : b < 256) : add s b < 2 ^ 32 := csteps_lt 8 (Nat.xor_lt_two_pow hs (by omega))
theorem fold_lt : ∀ (bs : List Nat) {s : Nat}, s < 2 ^ 32 → (∀ b ∈ bs, b < 256) → bs.foldl add s < 2 ^ 32
  | [], _, h, _ => h
  | b :: bs, _, h, hb => fold_lt bs (add_lt h (hb b (List.mem_cons_self))) (fun c hc => hb c (List.mem_cons_of_mem _ hc))

def rbit (r b j : Nat) : Nat := (r % 2) ^^^ ((b / 2 ^ j) % 2)
def rstep (r b j : Nat) : Nat := if rbit r b j = 1 then (r / 2) ^^^ 2197175160 else r / 2
def rsteps : Nat → Nat → Nat → Nat → Nat
  | 0, r, _, _ => r
  | n + 1, r, b, j => rsteps n (rstep r b j) b (j + 1)
theorem xor_half (x y : Nat) : (x ^^^ y) / 2 = x / 2 ^^^ y / 2 := by
  have := @Nat.shiftRight_xor_distrib 1 x y
  simpa [Nat.shiftRight_eq_div_pow] using this
theorem xor_two (x y : Nat) : (x ^^^ y) % 2 = (x % 2) ^^^ (y % 2) := by
  have := @Nat.xor_mod_two_pow x y 1
  simpa using this
theorem cstep_rstep (r b j : Nat) : cstep (r ^^^ b / 2 ^ j) = rstep r b j ^^^ (b / 2 ^ (j + 1)) := by
  have e1 : b / 2 ^ j / 2 = b / 2 ^ (j + 1) := by rw [Nat.div_div_eq_div_mul, Nat.pow_succ]
  unfold cstep rstep rbit
  rw [xor_two, xor_half, e1]
  split
  · rw [Nat.xor_assoc, Nat.xor_comm (b / 2 ^ (j + 1)), ← Nat.xor_assoc]
  · rfl
theorem csteps_rsteps : ∀ (n r b j : Nat), csteps n (r ^^^ b / 2 ^ j) = rsteps n r b j ^^^ (b / 2 ^ (j + n))
  | 0, r, b, j => rfl
  | n + 1, r, b, j => by
    simp only [csteps, rsteps]
    rw [cstep_rstep, csteps_rsteps n (rstep r b j) b (j + 1)]
    congr 2
    rw [Nat.add_right_comm, Nat.add_assoc]
theorem rsteps_add (r b : Nat) (hb : b < 256) : rsteps 8 r b 0 = add r b := by
  have := csteps_rsteps 8 r b 0
  have e : b / 2 ^ (0 + 8) = 0 := Nat.div_eq_of_lt hb
  rw [e] at this
  simpa [add] using this.symm
theorem rstep_lt {r b j : Nat} (h : r < 2 ^ 32) : rstep r b j < 2 ^ 32 := by
  unfold rstep
  have h2 : r / 2 < 2 ^ 32 := by omega
  split
  · exact Nat.xor_lt_two_pow h2 (by decide)
  · exact h2
end Go.Ev
/- The walk through the events' functions. -/
-- short
namespace Go.Proofs.Ytmokhopjnjecbab
open Go.Ev
set_option linter.unusedVariables false
set_option linter.unusedSimpArgs false
set_option maxRecDepth 100000
variable {R : List AV → Heap → Ctr → Prop} {k : List It} {H : Heap} {nx : Ctr} {φ : Nat}

theorem xleaf_calls (t : ET) : PCalls Try.prog F_event_leaf [xtv t] (.bool (decide (t.ps.length = 0))) := by
  refine calls_event_leaf (walk0 100 trivial (fun A eA => ?_))
  by_cases h : t.ps.length = 0
  · simp (disch := first | omega | (simp only [avs_len, List.length_cons, List.length_append, List.length_nil, List.length_take, List.length_drop, List.length_map]; omega) | (simp only [cells, scal1, allSz, List.length_cons, List.length_nil, List.length_append, List.length_map, List.all_cons, List.all_nil, avs_len, beq_self_eq_true, Bool.and_self, and_self, or_true, true_or, reduceCtorEq, *]; done) | fail) only [c_event_leaf, go_sem, Nat.reduceAdd, Nat.reduceSub, Nat.reduceMul, Nat.reduceLT, Nat.reduceLeDiff, Int.reduceToNat, Nat.reduceEqDiff, Nat.reduceBEq, ↓reduceIte, reduceCtorEq, eA, scal1, xtavs_len]
    exact doneG rfl
  · simp (disch := first | omega | (simp only [avs_len, List.length_cons, List.length_append, List.length_nil, List.length_take, List.length_drop, List.length_map]; omega) | (simp only [cells, scal1, allSz, List.length_cons, List.length_nil, List.length_append, List.length_map, List.all_cons, List.all_nil, avs_len, beq_self_eq_true, Bool.and_self, and_self, or_true, true_or, reduceCtorEq, *]; done) | fail) only [c_event_leaf, go_sem, Nat.reduceAdd, Nat.reduceSub, Nat.reduceMul, Nat.reduceLT, Nat.reduceLeDiff, Int.reduceToNat, Nat.reduceEqDiff, Nat.reduceBEq, ↓reduceIte, reduceCtorEq, eA, scal1, xtavs_len]
    exact doneG rfl
theorem xcount_loop (d : Nat) (hd : d < 1000) (ihd : ∀ t, PCalls Try.prog F_event_count [xtv t, .int .i64 (d : Nat)] (.int .i64 (xcnt d t : Nat))) (ts : List ET) (hts : ts.length ≤ 2) : ∀ (post pre : List ET), ts = pre ++ post → ∀ (n : Nat) (nx : Ctr), n ≤ 60 →
    RunsX Try.prog 0 (Gives [.t 4] (.int .i64 (xcntL (xcnt d) n post : Nat))) (i_event_count_0 ++ [.c c_event_count_k0]) (s_event_count_0 (.int .i64 ((d + 1 : Nat) : Int)) (.int .i64 (n : Nat)) (.fz 2 (xtavs ts) none) (.int .i64 (ts.length : Nat)) (.int .i64 (pre.length : Nat))) [] nx := by
  intro post
  induction post with
  | nil =>
    intro pre h1 n nx hn
    rw [List.append_nil] at h1
    subst h1
    refine round (its := [.blk 0 wb_event_count_0]) (k0 := [.c c_event_count_k0]) 100 trivial trivial (fun A eA => ?_)
    simp (disch := first | omega | (simp only [avs_len, List.length_cons, List.length_append, List.length_nil, List.length_take, List.length_drop, List.length_map]; omega) | (simp only [cells, scal1, allSz, List.length_cons, List.length_nil, List.length_append, List.length_map, List.all_cons, List.all_nil, avs_len, beq_self_eq_true, Bool.and_self, and_self, or_true, true_or, reduceCtorEq, *]; done) | fail) only [c_event_count, wl_event_count_0, s_event_count_0, c_event_count_l0, wb_event_count_0, c_event_count_k0, go_sem, Nat.reduceAdd, Nat.reduceSub, Nat.reduceMul, Nat.reduceLT, Nat.reduceLeDiff, Int.reduceToNat, Nat.reduceEqDiff, Nat.reduceBEq, ↓reduceIte, reduceCtorEq, eA]
    refine walk0 (its := [.c c_event_count_k0]) 100 trivial (fun A eA => ?_)
    simp (disch := first | omega | (simp only [avs_len, List.length_cons, List.length_append, List.length_nil, List.length_take, List.length_drop, List.length_map]; omega) | (simp only [cells, scal1, allSz, List.length_cons, List.length_nil, List.length_append, List.length_map, List.all_cons, List.all_nil, avs_len, beq_self_eq_true, Bool.and_self, and_self, or_true, true_or, reduceCtorEq, *]; done) | fail) only [c_event_count, wl_event_count_0, s_event_count_0, c_event_count_l0, wb_event_count_0, c_event_count_k0, go_sem, Nat.reduceAdd, Nat.reduceSub, Nat.reduceMul, Nat.reduceLT, Nat.reduceLeDiff, Int.reduceToNat, Nat.reduceEqDiff, Nat.reduceBEq, ↓reduceIte, reduceCtorEq, eA]
    exact doneG rfl
  | cons p post ih =>
    intro pre h1 n nx hn
    have hlt : pre.length < ts.length := by rw [h1]; simp
    have g0 : (xtavs ts)[pre.length]? = some (xtv p) := by rw [xtavs_get, h1]; simp
    have w1 : IntKind.i64.wrap ((pre.length : Int) + 1) = ((pre.length + 1 : Nat) : Int) := by rw [IntKind.wrap_i64]; omega
    have w2 : IntKind.i64.wrap (((d + 1 : Nat) : Int) - 1) = ((d : Nat) : Int) := by rw [IntKind.wrap_i64]; omega
    have hc := xcnt_le d p
    have w3 : IntKind.i64.wrap ((n : Int) + (xcnt d p : Nat)) = ((n + xcnt d p : Nat) : Int) := by rw [IntKind.wrap_i64]; omega
    refine round (its := [.blk 0 wb_event_count_0]) (k0 := [.c c_event_count_k0]) 100 trivial trivial (fun A eA => ?_)
    simp (disch := first | omega | (simp only [avs_len, List.length_cons, List.length_append, List.length_nil, List.length_take, List.length_drop, List.length_map]; omega) | (simp only [cells, scal1, allSz, List.length_cons, List.length_nil, List.length_append, List.length_map, List.all_cons, List.all_nil, avs_len, beq_self_eq_true, Bool.and_self, and_self, or_true, true_or, reduceCtorEq, *]; done) | fail) only [c_event_count, wl_event_count_0, s_event_count_0, c_event_count_l0, wb_event_count_0, c_event_count_k0, go_sem, Nat.reduceAdd, Nat.reduceSub, Nat.reduceMul, Nat.reduceLT, Nat.reduceLeDiff, Int.reduceToNat, Nat.reduceEqDiff, Nat.reduceBEq, ↓reduceIte, reduceCtorEq, eA, Int.toNat_natCast, g0, w2, scal1, List.all_cons, List.all_nil, Bool.and_self]
    refine call0 100 trivial trivial (ihd p) (.inl rfl) (fun A eA => ?_)
    by_cases hq : 60 < n + xcnt d p
    · simp only [xcntL, if_pos hq]
      simp (disch := first | omega | (simp only [avs_len, List.length_cons, List.length_append, List.length_nil, List.length_take, List.length_drop, List.length_map]; omega) | (simp only [cells, scal1, allSz, List.length_cons, List.length_nil, List.length_append, List.length_map, List.all_cons, List.all_nil, avs_len, beq_self_eq_true, Bool.and_self, and_self, or_true, true_or, reduceCtorEq, *]; done) | fail) only [c_event_count, wl_event_count_0, s_event_count_0, c_event_count_l0, wb_event_count_0, c_event_count_k0, go_sem, Nat.reduceAdd, Nat.reduceSub, Nat.reduceMul, Nat.reduceLT, Nat.reduceLeDiff, Int.reduceToNat, Nat.reduceEqDiff, Nat.reduceBEq, ↓reduceIte, reduceCtorEq, eA, w3]
      exact doneG rfl
    · simp only [xcntL, if_neg hq]
      simp (disch := first | omega | (simp only [avs_len, List.length_cons, List.length_append, List.length_nil, List.length_take, List.length_drop, List.length_map]; omega) | (simp only [cells, scal1, allSz, List.length_cons, List.length_nil, List.length_append, List.length_map, List.all_cons, List.all_nil, avs_len, beq_self_eq_true, Bool.and_self, and_self, or_true, true_or, reduceCtorEq, *]; done) | fail) only [c_event_count, wl_event_count_0, s_event_count_0, c_event_count_l0, wb_event_count_0, c_event_count_k0, go_sem, Nat.reduceAdd, Nat.reduceSub, Nat.reduceMul, Nat.reduceLT, Nat.reduceLeDiff, Int.reduceToNat, Nat.reduceEqDiff, Nat.reduceBEq, ↓reduceIte, reduceCtorEq, eA, w3, w1]
      have hih := ih (pre ++ [p]) (by rw [h1]; simp) (n + xcnt d p) (bump nx 7) (by omega)
      rw [show (pre ++ [p]).length = pre.length + 1 by simp] at hih
      exact hih
theorem xcount_calls : ∀ (d : Nat) (t : ET), d < 1000 → PCalls Try.prog F_event_count [xtv t, .int .i64 (d : Nat)] (.int .i64 (xcnt d t : Nat)) := by
  intro d
  induction d with
  | zero =>
    intro t _
    refine calls_event_count (walk0 100 trivial (fun A eA => ?_))
    simp (disch := first | omega | (simp only [avs_len, List.length_cons, List.length_append, List.length_nil, List.length_take, List.length_drop, List.length_map]; omega) | (simp only [cells, scal1, allSz, List.length_cons, List.length_nil, List.length_append, List.length_map, List.all_cons, List.all_nil, avs_len, beq_self_eq_true, Bool.and_self, and_self, or_true, true_or, reduceCtorEq, *]; done) | fail) only [c_event_count, wl_event_count_0, s_event_count_0, c_event_count_l0, wb_event_count_0, c_event_count_k0, go_sem, Nat.reduceAdd, Nat.reduceSub, Nat.reduceMul, Nat.reduceLT, Nat.reduceLeDiff, Int.reduceToNat, Nat.reduceEqDiff, Nat.reduceBEq, ↓reduceIte, reduceCtorEq, eA, scal1, xtavs_len]
    exact doneG rfl
  | succ d ih =>
    intro t hd
    refine calls_event_count (walk0 100 trivial (fun A eA => ?_))
    simp only [xcnt]
    by_cases n0 : t.n < 0
    · rw [if_pos (.inl n0)]
      simp (disch := first | omega | (simp only [avs_len, List.length_cons, List.length_append, List.length_nil, List.length_take, List.length_drop, List.length_map]; omega) | (simp only [cells, scal1, allSz, List.length_cons, List.length_nil, List.length_append, List.length_map, List.all_cons, List.all_nil, avs_len, beq_self_eq_true, Bool.and_self, and_self, or_true, true_or, reduceCtorEq, *]; done) | fail) only [c_event_count, wl_event_count_0, s_event_count_0, c_event_count_l0, wb_event_count_0, c_event_count_k0, go_sem, Nat.reduceAdd, Nat.reduceSub, Nat.reduceMul, Nat.reduceLT, Nat.reduceLeDiff, Int.reduceToNat, Nat.reduceEqDiff, Nat.reduceBEq, ↓reduceIte, reduceCtorEq, eA, scal1, xtavs_len]
      exact doneG rfl
    by_cases n1 : 1099511627776 < t.n
    · rw [if_pos (.inr (.inl n1))]
      simp (disch := first | omega | (simp only [avs_len, List.length_cons, List.length_append, List.length_nil, List.length_take, List.length_drop, List.length_map]; omega) | (simp only [cells, scal1, allSz, List.length_cons, List.length_nil, List.length_append, List.length_map, List.all_cons, List.all_nil, avs_len, beq_self_eq_true, Bool.and_self, and_self, or_true, true_or, reduceCtorEq, *]; done) | fail) only [c_event_count, wl_event_count_0, s_event_count_0, c_event_count_l0, wb_event_count_0, c_event_count_k0, go_sem, Nat.reduceAdd, Nat.reduceSub, Nat.reduceMul, Nat.reduceLT, Nat.reduceLeDiff, Int.reduceToNat, Nat.reduceEqDiff, Nat.reduceBEq, ↓reduceIte, reduceCtorEq, eA, scal1, xtavs_len]
      exact doneG rfl
    simp (disch := first | omega | (simp only [avs_len, List.length_cons, List.length_append, List.length_nil, List.length_take, List.length_drop, List.length_map]; omega) | (simp only [cells, scal1, allSz, List.length_cons, List.length_nil, List.length_append, List.length_map, List.all_cons, List.all_nil, avs_len, beq_self_eq_true, Bool.and_self, and_self, or_true, true_or, reduceCtorEq, *]; done) | fail) only [c_event_count, wl_event_count_0, s_event_count_0, c_event_count_l0, wb_event_count_0, c_event_count_k0, go_sem, Nat.reduceAdd, Nat.reduceSub, Nat.reduceMul, Nat.reduceLT, Nat.reduceLeDiff, Int.reduceToNat, Nat.reduceEqDiff, Nat.reduceBEq, ↓reduceIte, reduceCtorEq, eA, scal1, xtavs_len]
    refine call0 100 trivial trivial (xleaf_calls t) (.inl rfl) (fun A eA => ?_)
    by_cases h0 : t.ps.length = 0
    · rw [if_neg (by omega)]
      simp (disch := first | omega | (simp only [avs_len, List.length_cons, List.length_append, List.length_nil, List.length_take, List.length_drop, List.length_map]; omega) | (simp only [cells, scal1, allSz, List.length_cons, List.length_nil, List.length_append, List.length_map, List.all_cons, List.all_nil, avs_len, beq_self_eq_true, Bool.and_self, and_self, or_true, true_or, reduceCtorEq, *]; done) | fail) only [c_event_count, wl_event_count_0, s_event_count_0, c_event_count_l0, wb_event_count_0, c_event_count_k0, go_sem, Nat.reduceAdd, Nat.reduceSub, Nat.reduceMul, Nat.reduceLT, Nat.reduceLeDiff, Int.reduceToNat, Nat.reduceEqDiff, Nat.reduceBEq, ↓reduceIte, reduceCtorEq, eA, xtavs_len]
      exact xcount_loop d (by omega) (fun t => ih t (by omega)) t.ps (by omega) t.ps [] rfl 1 zeroC (by omega)
    · by_cases h2 : t.ps.length = 2
      · rw [if_neg (by omega)]
        simp (disch := first | omega | (simp only [avs_len, List.length_cons, List.length_append, List.length_nil, List.length_take, List.length_drop, List.length_map]; omega) | (simp only [cells, scal1, allSz, List.length_cons, List.length_nil, List.length_append, List.length_map, List.all_cons, List.all_nil, avs_len, beq_self_eq_true, Bool.and_self, and_self, or_true, true_or, reduceCtorEq, *]; done) | fail) only [c_event_count, wl_event_count_0, s_event_count_0, c_event_count_l0, wb_event_count_0, c_event_count_k0, go_sem, Nat.reduceAdd, Nat.reduceSub, Nat.reduceMul, Nat.reduceLT, Nat.reduceLeDiff, Int.reduceToNat, Nat.reduceEqDiff, Nat.reduceBEq, ↓reduceIte, reduceCtorEq, eA, xtavs_len]
        exact xcount_loop d (by omega) (fun t => ih t (by omega)) t.ps (by omega) t.ps [] rfl 1 zeroC (by omega)
      · rw [if_pos (.inr (.inr ⟨h0, h2⟩))]
        simp (disch := first | omega | (simp only [avs_len, List.length_cons, List.length_append, List.length_nil, List.length_take, List.length_drop, List.length_map]; omega) | (simp only [cells, scal1, allSz, List.length_cons, List.length_nil, List.length_append, List.length_map, List.all_cons, List.all_nil, avs_len, beq_self_eq_true, Bool.and_self, and_self, or_true, true_or, reduceCtorEq, *]; done) | fail) only [c_event_count, wl_event_count_0, s_event_count_0, c_event_count_l0, wb_event_count_0, c_event_count_k0, go_sem, Nat.reduceAdd, Nat.reduceSub, Nat.reduceMul, Nat.reduceLT, Nat.reduceLeDiff, Int.reduceToNat, Nat.reduceEqDiff, Nat.reduceBEq, ↓reduceIte, reduceCtorEq, eA, xtavs_len]
        exact doneG rfl
theorem xleaf_b (b : E) : PCalls Try.prog F_event_leaf [xtv b.t] (.bool b.leaf) := by rw [← b.t_leaf]; exact xleaf_calls b.t
theorem xshort_calls : ∀ (b : E), PCalls Try.prog F_event_short [xtv b.t] (.bool b.short) := by
  intro b
  induction b with
  | lf o =>
    refine calls_event_short (walk0 100 trivial (fun A eA => ?_))
    simp (disch := first | omega | (simp only [avs_len, List.length_cons, List.length_append, List.length_nil, List.length_take, List.length_drop, List.length_map]; omega) | (simp only [cells, scal1, allSz, List.length_cons, List.length_nil, List.length_append, List.length_map, List.all_cons, List.all_nil, avs_len, beq_self_eq_true, Bool.and_self, and_self, or_true, true_or, reduceCtorEq, *]; done) | fail) only [c_event_short, go_sem, Nat.reduceAdd, Nat.reduceSub, Nat.reduceMul, Nat.reduceLT, Nat.reduceLeDiff, Int.reduceToNat, Nat.reduceEqDiff, Nat.reduceBEq, ↓reduceIte, reduceCtorEq, eA, scal1, xtavs_len]
    refine call0 100 trivial trivial (xleaf_b (E.lf o)) (.inl rfl) (fun A eA => ?_)
    simp (disch := first | omega | (simp only [avs_len, List.length_cons, List.length_append, List.length_nil, List.length_take, List.length_drop, List.length_map]; omega) | (simp only [cells, scal1, allSz, List.length_cons, List.length_nil, List.length_append, List.length_map, List.all_cons, List.all_nil, avs_len, beq_self_eq_true, Bool.and_self, and_self, or_true, true_or, reduceCtorEq, *]; done) | fail) only [c_event_short, go_sem, Nat.reduceAdd, Nat.reduceSub, Nat.reduceMul, Nat.reduceLT, Nat.reduceLeDiff, Int.reduceToNat, Nat.reduceEqDiff, Nat.reduceBEq, ↓reduceIte, reduceCtorEq, eA, E.leaf]
    exact doneG rfl
  | nd n l r ihl ihr =>
    have h0 : (E.nd n l r).t.ps = [l.t, r.t] := rfl
    have g0 : (xtavs [l.t, r.t])[0]? = some (xtv l.t) := by rw [xtavs_get]; rfl
    have g1 : (xtavs [l.t, r.t])[1]? = some (xtv r.t) := by rw [xtavs_get]; rfl
    refine calls_event_short (walk0 100 trivial (fun A eA => ?_))
    simp (disch := first | omega | (simp only [avs_len, List.length_cons, List.length_append, List.length_nil, List.length_take, List.length_drop, List.length_map]; omega) | (simp only [cells, scal1, allSz, List.length_cons, List.length_nil, List.length_append, List.length_map, List.all_cons, List.all_nil, avs_len, beq_self_eq_true, Bool.and_self, and_self, or_true, true_or, reduceCtorEq, *]; done) | fail) only [c_event_short, go_sem, Nat.reduceAdd, Nat.reduceSub, Nat.reduceMul, Nat.reduceLT, Nat.reduceLeDiff, Int.reduceToNat, Nat.reduceEqDiff, Nat.reduceBEq, ↓reduceIte, reduceCtorEq, eA, scal1, xtavs_len]
    refine call0 100 trivial trivial (xleaf_b (E.nd n l r)) (.inl rfl) (fun A eA => ?_)
    simp (disch := first | omega | (simp only [avs_len, List.length_cons, List.length_append, List.length_nil, List.length_take, List.length_drop, List.length_map]; omega) | (simp only [cells, scal1, allSz, List.length_cons, List.length_nil, List.length_append, List.length_map, List.all_cons, List.all_nil, avs_len, beq_self_eq_true, Bool.and_self, and_self, or_true, true_or, reduceCtorEq, *]; done) | fail) only [c_event_short, go_sem, Nat.reduceAdd, Nat.reduceSub, Nat.reduceMul, Nat.reduceLT, Nat.reduceLeDiff, Int.reduceToNat, Nat.reduceEqDiff, Nat.reduceBEq, ↓reduceIte, reduceCtorEq, eA, h0, g0, g1, scal1, List.all_cons, List.all_nil, Bool.and_self, E.leaf]
    refine call0 100 trivial trivial ihl (.inl rfl) (fun A eA => ?_)
    simp only [E.short]
    have cl := xleaf_b l
    have cr := xleaf_b r
    cases hl : l.short with
    | false =>
      simp (disch := first | omega | (simp only [avs_len, List.length_cons, List.length_append, List.length_nil, List.length_take, List.length_drop, List.length_map]; omega) | (simp only [cells, scal1, allSz, List.length_cons, List.length_nil, List.length_append, List.length_map, List.all_cons, List.all_nil, avs_len, beq_self_eq_true, Bool.and_self, and_self, or_true, true_or, reduceCtorEq, *]; done) | fail) only [c_event_short, go_sem, Nat.reduceAdd, Nat.reduceSub, Nat.reduceMul, Nat.reduceLT, Nat.reduceLeDiff, Int.reduceToNat, Nat.reduceEqDiff, Nat.reduceBEq, ↓reduceIte, reduceCtorEq, eA, hl]
      simp only [Bool.false_and]
      exact doneG rfl
    | true =>
      simp (disch := first | omega | (simp only [avs_len, List.length_cons, List.length_append, List.length_nil, List.length_take, List.length_drop, List.length_map]; omega) | (simp only [cells, scal1, allSz, List.length_cons, List.length_nil, List.length_append, List.length_map, List.all_cons, List.all_nil, avs_len, beq_self_eq_true, Bool.and_self, and_self, or_true, true_or, reduceCtorEq, *]; done) | fail) only [c_event_short, go_sem, Nat.reduceAdd, Nat.reduceSub, Nat.reduceMul, Nat.reduceLT, Nat.reduceLeDiff, Int.reduceToNat, Nat.reduceEqDiff, Nat.reduceBEq, ↓reduceIte, reduceCtorEq, eA, hl]
      refine call0 100 trivial trivial ihr (.inl rfl) (fun A eA => ?_)
      cases hr : r.short with
      | false =>
        simp (disch := first | omega | (simp only [avs_len, List.length_cons, List.length_append, List.length_nil, List.length_take, List.length_drop, List.length_map]; omega) | (simp only [cells, scal1, allSz, List.length_cons, List.length_nil, List.length_append, List.length_map, List.all_cons, List.all_nil, avs_len, beq_self_eq_true, Bool.and_self, and_self, or_true, true_or, reduceCtorEq, *]; done) | fail) only [c_event_short, go_sem, Nat.reduceAdd, Nat.reduceSub, Nat.reduceMul, Nat.reduceLT, Nat.reduceLeDiff, Int.reduceToNat, Nat.reduceEqDiff, Nat.reduceBEq, ↓reduceIte, reduceCtorEq, eA, hr]
        simp only [Bool.and_false, Bool.false_and]
        exact doneG rfl
      | true =>
        have tl := l.t_n
        have tr := r.t_n
        generalize l.leaf = ll at cl ⊢
        generalize r.leaf = rl at cr ⊢
        by_cases z : l.n = 0 ∨ r.n = 0
        · have z1 : (decide (l.n = 0) || decide (r.n = 0)) = true := by simpa using z
          rw [z1]
          by_cases q : l.n = r.n
          · rw [show decide (l.n = r.n) = true by simpa using q]
            have zl : l.n = 0 := by omega
            cases ll <;> cases rl
            all_goals
              simp (disch := first | omega | (simp only [avs_len, List.length_cons, List.length_append, List.length_nil, List.length_take, List.length_drop, List.length_map]; omega) | (simp only [cells, scal1, allSz, List.length_cons, List.length_nil, List.length_append, List.length_map, List.all_cons, List.all_nil, avs_len, beq_self_eq_true, Bool.and_self, and_self, or_true, true_or, reduceCtorEq, *]; done) | fail) only [c_event_short, go_sem, Nat.reduceAdd, Nat.reduceSub, Nat.reduceMul, Nat.reduceLT, Nat.reduceLeDiff, Int.reduceToNat, Nat.reduceEqDiff, Nat.reduceBEq, ↓reduceIte, reduceCtorEq, eA, Bool.true_and, Bool.false_and, Bool.and_false, Bool.and_true]
              repeat ((first | refine call0 100 trivial trivial (by first | exact cl | exact cr) (by first | exact .inl rfl | exact .inr rfl) (fun A eA => ?_) | refine call1 100 trivial trivial (by first | exact cl | exact cr) (fun A eA => ?_)); simp (disch := first | omega | (simp only [avs_len, List.length_cons, List.length_append, List.length_nil, List.length_take, List.length_drop, List.length_map]; omega) | (simp only [cells, scal1, allSz, List.length_cons, List.length_nil, List.length_append, List.length_map, List.all_cons, List.all_nil, avs_len, beq_self_eq_true, Bool.and_self, and_self, or_true, true_or, reduceCtorEq, *]; done) | fail) only [c_event_short, go_sem, Nat.reduceAdd, Nat.reduceSub, Nat.reduceMul, Nat.reduceLT, Nat.reduceLeDiff, Int.reduceToNat, Nat.reduceEqDiff, Nat.reduceBEq, ↓reduceIte, reduceCtorEq, eA, Bool.true_and, Bool.false_and, Bool.and_false, Bool.and_true])
              exact doneG rfl
          · rw [show decide (l.n = r.n) = false by simpa using q]
            by_cases zl : l.n = 0 <;> cases ll <;> cases rl
            all_goals
              simp (disch := first | omega | (simp only [avs_len, List.length_cons, List.length_append, List.length_nil, List.length_take, List.length_drop, List.length_map]; omega) | (simp only [cells, scal1, allSz, List.length_cons, List.length_nil, List.length_append, List.length_map, List.all_cons, List.all_nil, avs_len, beq_self_eq_true, Bool.and_self, and_self, or_true, true_or, reduceCtorEq, *]; done) | fail) only [c_event_short, go_sem, Nat.reduceAdd, Nat.reduceSub, Nat.reduceMul, Nat.reduceLT, Nat.reduceLeDiff, Int.reduceToNat, Nat.reduceEqDiff, Nat.reduceBEq, ↓reduceIte, reduceCtorEq, eA, Bool.true_and, Bool.false_and, Bool.and_false, Bool.and_true]
              repeat ((first | refine call0 100 trivial trivial (by first | exact cl | exact cr) (by first | exact .inl rfl | exact .inr rfl) (fun A eA => ?_) | refine call1 100 trivial trivial (by first | exact cl | exact cr) (fun A eA => ?_)); simp (disch := first | omega | (simp only [avs_len, List.length_cons, List.length_append, List.length_nil, List.length_take, List.length_drop, List.length_map]; omega) | (simp only [cells, scal1, allSz, List.length_cons, List.length_nil, List.length_append, List.length_map, List.all_cons, List.all_nil, avs_len, beq_self_eq_true, Bool.and_self, and_self, or_true, true_or, reduceCtorEq, *]; done) | fail) only [c_event_short, go_sem, Nat.reduceAdd, Nat.reduceSub, Nat.reduceMul, Nat.reduceLT, Nat.reduceLeDiff, Int.reduceToNat, Nat.reduceEqDiff, Nat.reduceBEq, ↓reduceIte, reduceCtorEq, eA, Bool.true_and, Bool.false_and, Bool.and_false, Bool.and_true])
              exact doneG rfl
        · have z1 : (decide (l.n = 0) || decide (r.n = 0)) = false := by simp; omega
          rw [z1]
          simp (disch := first | omega | (simp only [avs_len, List.length_cons, List.length_append, List.length_nil, List.length_take, List.length_drop, List.length_map]; omega) | (simp only [cells, scal1, allSz, List.length_cons, List.length_nil, List.length_append, List.length_map, List.all_cons, List.all_nil, avs_len, beq_self_eq_true, Bool.and_self, and_self, or_true, true_or, reduceCtorEq, *]; done) | fail) only [c_event_short, go_sem, Nat.reduceAdd, Nat.reduceSub, Nat.reduceMul, Nat.reduceLT, Nat.reduceLeDiff, Int.reduceToNat, Nat.reduceEqDiff, Nat.reduceBEq, ↓reduceIte, reduceCtorEq, eA]
          exact doneG rfl
theorem xrt_cnt (t : ET) : XRt t ↔ xcnt 8 t ≤ 60 ∧ ∃ b : E, t = b.t ∧ b.short = true := by
  constructor
  · rintro ⟨b, rfl, h1, h2, h3, h4⟩
    exact ⟨by rw [b_xcnt b 8 h2 h1 h4]; exact h2, b, rfl, h3⟩
  · rintro ⟨h1, b, rfl, h3⟩
    obtain ⟨b', e, h4, h5, h6⟩ := xcnt_b 8 _ h1
    obtain rfl := E.inj e
    exact ⟨b, rfl, h5, by omega, h3, h6⟩
theorem xright_calls (t : ET) : PCalls Try.prog F_event_Right [xtv t] (.bool (xrtb t)) := by
  refine calls_event_Right (walk0 100 trivial (fun A eA => ?_))
  simp (disch := first | omega | (simp only [avs_len, List.length_cons, List.length_append, List.length_nil, List.length_take, List.length_drop, List.length_map]; omega) | (simp only [cells, scal1, allSz, List.length_cons, List.length_nil, List.length_append, List.length_map, List.all_cons, List.all_nil, avs_len, beq_self_eq_true, Bool.and_self, and_self, or_true, true_or, reduceCtorEq, *]; done) | fail) only [c_event_Right, go_sem, Nat.reduceAdd, Nat.reduceSub, Nat.reduceMul, Nat.reduceLT, Nat.reduceLeDiff, Int.reduceToNat, Nat.reduceEqDiff, Nat.reduceBEq, ↓reduceIte, reduceCtorEq, eA, scal1, xtavs_len]
  refine call0 100 trivial trivial (xcount_calls 8 t (by omega)) (.inl rfl) (fun A eA => ?_)
  by_cases h : xcnt 8 t ≤ 60
  · simp (disch := first | omega | (simp only [avs_len, List.length_cons, List.length_append, List.length_nil, List.length_take, List.length_drop, List.length_map]; omega) | (simp only [cells, scal1, allSz, List.length_cons, List.length_nil, List.length_append, List.length_map, List.all_cons, List.all_nil, avs_len, beq_self_eq_true, Bool.and_self, and_self, or_true, true_or, reduceCtorEq, *]; done) | fail) only [c_event_Right, go_sem, Nat.reduceAdd, Nat.reduceSub, Nat.reduceMul, Nat.reduceLT, Nat.reduceLeDiff, Int.reduceToNat, Nat.reduceEqDiff, Nat.reduceBEq, ↓reduceIte, reduceCtorEq, eA]
    obtain ⟨b, rfl, h1, h2, h4⟩ := xcnt_b 8 t h
    refine call0 100 trivial trivial (xshort_calls b) (.inl rfl) (fun A eA => ?_)
    have : b.short = xrtb b.t := by
      rw [Bool.eq_iff_iff, xrtb_true, xrt_cnt]
      exact ⟨fun h3 => ⟨h, b, rfl, h3⟩, fun ⟨_, b', e, h3⟩ => by rw [E.inj e]; exact h3⟩
    simp (disch := first | omega | (simp only [avs_len, List.length_cons, List.length_append, List.length_nil, List.length_take, List.length_drop, List.length_map]; omega) | (simp only [cells, scal1, allSz, List.length_cons, List.length_nil, List.length_append, List.length_map, List.all_cons, List.all_nil, avs_len, beq_self_eq_true, Bool.and_self, and_self, or_true, true_or, reduceCtorEq, *]; done) | fail) only [c_event_Right, go_sem, Nat.reduceAdd, Nat.reduceSub, Nat.reduceMul, Nat.reduceLT, Nat.reduceLeDiff, Int.reduceToNat, Nat.reduceEqDiff, Nat.reduceBEq, ↓reduceIte, reduceCtorEq, eA, this]
    exact doneG rfl
  · simp (disch := first | omega | (simp only [avs_len, List.length_cons, List.length_append, List.length_nil, List.length_take, List.length_drop, List.length_map]; omega) | (simp only [cells, scal1, allSz, List.length_cons, List.length_nil, List.length_append, List.length_map, List.all_cons, List.all_nil, avs_len, beq_self_eq_true, Bool.and_self, and_self, or_true, true_or, reduceCtorEq, *]; done) | fail) only [c_event_Right, go_sem, Nat.reduceAdd, Nat.reduceSub, Nat.reduceMul, Nat.reduceLT, Nat.reduceLeDiff, Int.reduceToNat, Nat.reduceEqDiff, Nat.reduceBEq, ↓reduceIte, reduceCtorEq, eA]
    have : xrtb t = false := by rw [Bool.eq_false_iff, ne_eq, xrtb_true, xrt_cnt]; exact fun h3 => h h3.1
    rw [this]
    exact doneG rfl
end Go.Proofs.Ytmokhopjnjecbab
/- The walk through the events' functions, on. -/
-- short
namespace Go.Proofs.Ytmokhopjnjecbab
open Go.Ev
set_option linter.unusedVariables false
set_option linter.unusedSimpArgs false
set_option maxRecDepth 100000
variable {R : List AV → Heap → Ctr → Prop} {k : List It} {H : Heap} {nx : Ctr} {φ : Nat}

theorem xsame_loop4 (d : Nat) (hd : d < 1000) (ihd : ∀ a b : ET, a.size < 2 ^ 60 → PCalls Try.prog F_event_same [xtv a, xtv b, .int .i64 (d : Nat)] (.bool (xsm d a b))) (a b : ET) (hl : a.ps.length = b.ps.length) (hs : a.size < 2 ^ 60) : ∀ (post pre post2 pre2 : List ET), a.ps = pre ++ post → b.ps = pre2 ++ post2 → pre.length = pre2.length → ∀ nx : Ctr,
    RunsX Try.prog 0 (Gives [.t 6] (.bool (xsmL (xsm d) post post2))) (i_event_same_0 ++ [.c c_event_same_k0]) (s_event_same_0 (.int .i64 ((d + 1 : Nat) : Int)) (.ro [.int .i64 a.n, .fz 2 (xtavs a.ps) none]) (.ro [.int .i64 b.n, .fz 2 (xtavs b.ps) none]) (.int .i64 (a.ps.length : Nat)) (.int .i64 (pre.length : Nat))) [] nx := by
  have hls := xlen_size a
  intro post
  induction post with
  | nil =>
    intro pre post2 pre2 h1 h2 h3 nx
    have h5 : a.ps.length = pre.length := by rw [h1]; simp
    refine round (its := [.blk 0 wb_event_same_0]) (k0 := [.c c_event_same_k0]) 100 trivial trivial (fun A eA => ?_)
    simp (disch := first | omega | (simp only [avs_len, List.length_cons, List.length_append, List.length_nil, List.length_take, List.length_drop, List.length_map]; omega) | (simp only [cells, scal1, allSz, List.length_cons, List.length_nil, List.length_append, List.length_map, List.all_cons, List.all_nil, avs_len, beq_self_eq_true, Bool.and_self, and_self, or_true, true_or, reduceCtorEq, *]; done) | fail) only [c_event_same, wl_event_same_0, s_event_same_0, c_event_same_l0, wb_event_same_0, c_event_same_k0, go_sem, Nat.reduceAdd, Nat.reduceSub, Nat.reduceMul, Nat.reduceLT, Nat.reduceLeDiff, Int.reduceToNat, Nat.reduceEqDiff, Nat.reduceBEq, ↓reduceIte, reduceCtorEq, eA]
    refine walk0 (its := [.c c_event_same_k0]) 100 trivial (fun A eA => ?_)
    simp (disch := first | omega | (simp only [avs_len, List.length_cons, List.length_append, List.length_nil, List.length_take, List.length_drop, List.length_map]; omega) | (simp only [cells, scal1, allSz, List.length_cons, List.length_nil, List.length_append, List.length_map, List.all_cons, List.all_nil, avs_len, beq_self_eq_true, Bool.and_self, and_self, or_true, true_or, reduceCtorEq, *]; done) | fail) only [c_event_same, wl_event_same_0, s_event_same_0, c_event_same_l0, wb_event_same_0, c_event_same_k0, go_sem, Nat.reduceAdd, Nat.reduceSub, Nat.reduceMul, Nat.reduceLT, Nat.reduceLeDiff, Int.reduceToNat, Nat.reduceEqDiff, Nat.reduceBEq, ↓reduceIte, reduceCtorEq, eA]
    cases post2 <;> exact doneG rfl
  | cons p post ih =>
    intro pre post2 pre2 h1 h2 h3 nx
    cases post2 with
    | nil => have h7 := congrArg List.length h1; have h8 := congrArg List.length h2; simp only [List.length_append, List.length_nil, List.length_cons] at h7 h8; omega
    | cons q post2 =>
      have hlt : pre.length < a.ps.length := by rw [h1]; simp
      have hpm : p ∈ a.ps := by rw [h1]; simp
      have hpz := xsize_lt hpm
      have g0 : (xtavs a.ps)[pre.length]? = some (xtv p) := by rw [xtavs_get, h1]; simp
      have g1 : (xtavs b.ps)[pre.length]? = some (xtv q) := by rw [xtavs_get, h2, h3]; simp
      have w1 : IntKind.i64.wrap ((pre.length : Int) + 1) = ((pre.length + 1 : Nat) : Int) := by rw [IntKind.wrap_i64]; omega
      have w2 : IntKind.i64.wrap (((d + 1 : Nat) : Int) - 1) = ((d : Nat) : Int) := by rw [IntKind.wrap_i64]; omega
      refine round (its := [.blk 0 wb_event_same_0]) (k0 := [.c c_event_same_k0]) 100 trivial trivial (fun A eA => ?_)
      simp (disch := first | omega | (simp only [avs_len, List.length_cons, List.length_append, List.length_nil, List.length_take, List.length_drop, List.length_map]; omega) | (simp only [cells, scal1, allSz, List.length_cons, List.length_nil, List.length_append, List.length_map, List.all_cons, List.all_nil, avs_len, beq_self_eq_true, Bool.and_self, and_self, or_true, true_or, reduceCtorEq, *]; done) | fail) only [c_event_same, wl_event_same_0, s_event_same_0, c_event_same_l0, wb_event_same_0, c_event_same_k0, go_sem, Nat.reduceAdd, Nat.reduceSub, Nat.reduceMul, Nat.reduceLT, Nat.reduceLeDiff, Int.reduceToNat, Nat.reduceEqDiff, Nat.reduceBEq, ↓reduceIte, reduceCtorEq, eA, Int.toNat_natCast, g0, g1, w2, scal1, List.all_cons, List.all_nil, Bool.and_self]
      refine call0 100 trivial trivial (ihd p q (by omega)) (.inl rfl) (fun A eA => ?_)
      cases hq : xsm d p q with
      | false =>
        simp (disch := first | omega | (simp only [avs_len, List.length_cons, List.length_append, List.length_nil, List.length_take, List.length_drop, List.length_map]; omega) | (simp only [cells, scal1, allSz, List.length_cons, List.length_nil, List.length_append, List.length_map, List.all_cons, List.all_nil, avs_len, beq_self_eq_true, Bool.and_self, and_self, or_true, true_or, reduceCtorEq, *]; done) | fail) only [c_event_same, wl_event_same_0, s_event_same_0, c_event_same_l0, wb_event_same_0, c_event_same_k0, go_sem, Nat.reduceAdd, Nat.reduceSub, Nat.reduceMul, Nat.reduceLT, Nat.reduceLeDiff, Int.reduceToNat, Nat.reduceEqDiff, Nat.reduceBEq, ↓reduceIte, reduceCtorEq, eA]
        simp only [xsmL, hq, Bool.false_and]
        exact doneG rfl
      | true =>
        simp (disch := first | omega | (simp only [avs_len, List.length_cons, List.length_append, List.length_nil, List.length_take, List.length_drop, List.length_map]; omega) | (simp only [cells, scal1, allSz, List.length_cons, List.length_nil, List.length_append, List.length_map, List.all_cons, List.all_nil, avs_len, beq_self_eq_true, Bool.and_self, and_self, or_true, true_or, reduceCtorEq, *]; done) | fail) only [c_event_same, wl_event_same_0, s_event_same_0, c_event_same_l0, wb_event_same_0, c_event_same_k0, go_sem, Nat.reduceAdd, Nat.reduceSub, Nat.reduceMul, Nat.reduceLT, Nat.reduceLeDiff, Int.reduceToNat, Nat.reduceEqDiff, Nat.reduceBEq, ↓reduceIte, reduceCtorEq, eA, w1]
        simp only [xsmL, hq, Bool.true_and]
        have hih := ih (pre ++ [p]) post2 (pre2 ++ [q]) (by rw [h1]; simp) (by rw [h2]; simp) (by simp [h3]) nx
        rw [show (pre ++ [p]).length = pre.length + 1 by simp] at hih
        exact hih
theorem xsame4_calls : ∀ (d : Nat) (a b : ET), d < 1000 → a.size < 2 ^ 60 → PCalls Try.prog F_event_same [xtv a, xtv b, .int .i64 (d : Nat)] (.bool (xsm d a b)) := by
  intro d
  induction d with
  | zero =>
    intro a b _ _
    refine calls_event_same (walk0 100 trivial (fun A eA => ?_))
    simp (disch := first | omega | (simp only [avs_len, List.length_cons, List.length_append, List.length_nil, List.length_take, List.length_drop, List.length_map]; omega) | (simp only [cells, scal1, allSz, List.length_cons, List.length_nil, List.length_append, List.length_map, List.all_cons, List.all_nil, avs_len, beq_self_eq_true, Bool.and_self, and_self, or_true, true_or, reduceCtorEq, *]; done) | fail) only [c_event_same, wl_event_same_0, s_event_same_0, c_event_same_l0, wb_event_same_0, c_event_same_k0, go_sem, Nat.reduceAdd, Nat.reduceSub, Nat.reduceMul, Nat.reduceLT, Nat.reduceLeDiff, Int.reduceToNat, Nat.reduceEqDiff, Nat.reduceBEq, ↓reduceIte, reduceCtorEq, eA, scal1, xtavs_len]
    exact doneG rfl
  | succ d ih =>
    intro a b hd hs
    refine calls_event_same (walk0 100 trivial (fun A eA => ?_))
    simp only [xsm]
    by_cases h1 : a.n = b.n
    · by_cases h2 : a.ps.length = b.ps.length
      · simp (disch := first | omega | (simp only [avs_len, List.length_cons, List.length_append, List.length_nil, List.length_take, List.length_drop, List.length_map]; omega) | (simp only [cells, scal1, allSz, List.length_cons, List.length_nil, List.length_append, List.length_map, List.all_cons, List.all_nil, avs_len, beq_self_eq_true, Bool.and_self, and_self, or_true, true_or, reduceCtorEq, *]; done) | fail) only [c_event_same, wl_event_same_0, s_event_same_0, c_event_same_l0, wb_event_same_0, c_event_same_k0, go_sem, Nat.reduceAdd, Nat.reduceSub, Nat.reduceMul, Nat.reduceLT, Nat.reduceLeDiff, Int.reduceToNat, Nat.reduceEqDiff, Nat.reduceBEq, ↓reduceIte, reduceCtorEq, eA, scal1, xtavs_len, h1]
        rw [← h1, Bool.true_and]
        have := xsame_loop4 d (by omega) (fun a b hz => ih a b (by omega) hz) a b h2 hs a.ps [] b.ps [] rfl rfl rfl zeroC
        rw [← h1] at this
        exact this
      · simp (disch := first | omega | (simp only [avs_len, List.length_cons, List.length_append, List.length_nil, List.length_take, List.length_drop, List.length_map]; omega) | (simp only [cells, scal1, allSz, List.length_cons, List.length_nil, List.length_append, List.length_map, List.all_cons, List.all_nil, avs_len, beq_self_eq_true, Bool.and_self, and_self, or_true, true_or, reduceCtorEq, *]; done) | fail) only [c_event_same, wl_event_same_0, s_event_same_0, c_event_same_l0, wb_event_same_0, c_event_same_k0, go_sem, Nat.reduceAdd, Nat.reduceSub, Nat.reduceMul, Nat.reduceLT, Nat.reduceLeDiff, Int.reduceToNat, Nat.reduceEqDiff, Nat.reduceBEq, ↓reduceIte, reduceCtorEq, eA, scal1, xtavs_len, h1]
        exact doneG rfl
    · have hb : decide (a.n = b.n) = false := by simp [h1]
      simp (disch := first | omega | (simp only [avs_len, List.length_cons, List.length_append, List.length_nil, List.length_take, List.length_drop, List.length_map]; omega) | (simp only [cells, scal1, allSz, List.length_cons, List.length_nil, List.length_append, List.length_map, List.all_cons, List.all_nil, avs_len, beq_self_eq_true, Bool.and_self, and_self, or_true, true_or, reduceCtorEq, *]; done) | fail) only [c_event_same, wl_event_same_0, s_event_same_0, c_event_same_l0, wb_event_same_0, c_event_same_k0, go_sem, Nat.reduceAdd, Nat.reduceSub, Nat.reduceMul, Nat.reduceLT, Nat.reduceLeDiff, Int.reduceToNat, Nat.reduceEqDiff, Nat.reduceBEq, ↓reduceIte, reduceCtorEq, eA, scal1, xtavs_len]
      simp only [h1, false_and, decide_false, Bool.false_and]
      exact doneG rfl
theorem xSame4_calls (a b : ET) (hs : a.size < 2 ^ 60) : PCalls Try.prog F_event_Same [xtv a, xtv b] (.bool (xsm 8 a b)) := by
  refine calls_event_Same (walk0 100 trivial (fun A eA => ?_))
  simp (disch := first | omega | (simp only [avs_len, List.length_cons, List.length_append, List.length_nil, List.length_take, List.length_drop, List.length_map]; omega) | (simp only [cells, scal1, allSz, List.length_cons, List.length_nil, List.length_append, List.length_map, List.all_cons, List.all_nil, avs_len, beq_self_eq_true, Bool.and_self, and_self, or_true, true_or, reduceCtorEq, *]; done) | fail) only [c_event_Same, go_sem, Nat.reduceAdd, Nat.reduceSub, Nat.reduceMul, Nat.reduceLT, Nat.reduceLeDiff, Int.reduceToNat, Nat.reduceEqDiff, Nat.reduceBEq, ↓reduceIte, reduceCtorEq, eA, scal1, xtavs_len]
  refine call0 100 trivial trivial (xsame4_calls 8 a b (by omega) hs) (.inl rfl) (fun A eA => ?_)
  simp (disch := first | omega | (simp only [avs_len, List.length_cons, List.length_append, List.length_nil, List.length_take, List.length_drop, List.length_map]; omega) | (simp only [cells, scal1, allSz, List.length_cons, List.length_nil, List.length_append, List.length_map, List.all_cons, List.all_nil, avs_len, beq_self_eq_true, Bool.and_self, and_self, or_true, true_or, reduceCtorEq, *]; done) | fail) only [c_event_Same, go_sem, Nat.reduceAdd, Nat.reduceSub, Nat.reduceMul, Nat.reduceLT, Nat.reduceLeDiff, Int.reduceToNat, Nat.reduceEqDiff, Nat.reduceBEq, ↓reduceIte, reduceCtorEq, eA]
  exact doneG rfl
theorem xrefSame_loop (a b : ET) (hl : a.ps.length = b.ps.length) (hs : a.size < 2 ^ 60) (ihd : ∀ p ∈ a.ps, ∀ q : ET, PCalls Try.prog F_ref04_ESame [xtv p, xtv q] (.bool (xteq p q))) : ∀ (post pre post2 pre2 : List ET), a.ps = pre ++ post → b.ps = pre2 ++ post2 → pre.length = pre2.length → ∀ nx : Ctr,
    RunsX Try.prog 0 (Gives [.t 4] (.bool (xsmL xteq post post2))) (i_ref04_ESame_0 ++ [.c c_ref04_ESame_k0]) (s_ref04_ESame_0 (.ro [.int .i64 a.n, .fz 2 (xtavs a.ps) none]) (.ro [.int .i64 b.n, .fz 2 (xtavs b.ps) none]) (.int .i64 (a.ps.length : Nat)) (.int .i64 (pre.length : Nat))) [] nx := by
  have hls := xlen_size a
  intro post
  induction post with
  | nil =>
    intro pre post2 pre2 h1 h2 h3 nx
    have h5 : a.ps.length = pre.length := by rw [h1]; simp
    refine round (its := [.blk 0 wb_ref04_ESame_0]) (k0 := [.c c_ref04_ESame_k0]) 100 trivial trivial (fun A eA => ?_)
    simp (disch := first | omega | (simp only [avs_len, List.length_cons, List.length_append, List.length_nil, List.length_take, List.length_drop, List.length_map]; omega) | (simp only [cells, scal1, allSz, List.length_cons, List.length_nil, List.length_append, List.length_map, List.all_cons, List.all_nil, avs_len, beq_self_eq_true, Bool.and_self, and_self, or_true, true_or, reduceCtorEq, *]; done) | fail) only [c_ref04_ESame, wl_ref04_ESame_0, s_ref04_ESame_0, c_ref04_ESame_l0, wb_ref04_ESame_0, c_ref04_ESame_k0, go_sem, Nat.reduceAdd, Nat.reduceSub, Nat.reduceMul, Nat.reduceLT, Nat.reduceLeDiff, Int.reduceToNat, Nat.reduceEqDiff, Nat.reduceBEq, ↓reduceIte, reduceCtorEq, eA]
    refine walk0 (its := [.c c_ref04_ESame_k0]) 100 trivial (fun A eA => ?_)
    simp (disch := first | omega | (simp only [avs_len, List.length_cons, List.length_append, List.length_nil, List.length_take, List.length_drop, List.length_map]; omega) | (simp only [cells, scal1, allSz, List.length_cons, List.length_nil, List.length_append, List.length_map, List.all_cons, List.all_nil, avs_len, beq_self_eq_true, Bool.and_self, and_self, or_true, true_or, reduceCtorEq, *]; done) | fail) only [c_ref04_ESame, wl_ref04_ESame_0, s_ref04_ESame_0, c_ref04_ESame_l0, wb_ref04_ESame_0, c_ref04_ESame_k0, go_sem, Nat.reduceAdd, Nat.reduceSub, Nat.reduceMul, Nat.reduceLT, Nat.reduceLeDiff, Int.reduceToNat, Nat.reduceEqDiff, Nat.reduceBEq, ↓reduceIte, reduceCtorEq, eA]
    cases post2 <;> exact doneG rfl
  | cons p post ih =>
    intro pre post2 pre2 h1 h2 h3 nx
    cases post2 with
    | nil => have h7 := congrArg List.length h1; have h8 := congrArg List.length h2; simp only [List.length_append, List.length_nil, List.length_cons] at h7 h8; omega
    | cons q post2 =>
      have hlt : pre.length < a.ps.length := by rw [h1]; simp
      have hpm : p ∈ a.ps := by rw [h1]; simp
      have g0 : (xtavs a.ps)[pre.length]? = some (xtv p) := by rw [xtavs_get, h1]; simp
      have g1 : (xtavs b.ps)[pre.length]? = some (xtv q) := by rw [xtavs_get, h2, h3]; simp
      have w1 : IntKind.i64.wrap ((pre.length : Int) + 1) = ((pre.length + 1 : Nat) : Int) := by rw [IntKind.wrap_i64]; omega
      refine round (its := [.blk 0 wb_ref04_ESame_0]) (k0 := [.c c_ref04_ESame_k0]) 100 trivial trivial (fun A eA => ?_)
      simp (disch := first | omega | (simp only [avs_len, List.length_cons, List.length_append, List.length_nil, List.length_take, List.length_drop, List.length_map]; omega) | (simp only [cells, scal1, allSz, List.length_cons, List.length_nil, List.length_append, List.length_map, List.all_cons, List.all_nil, avs_len, beq_self_eq_true, Bool.and_self, and_self, or_true, true_or, reduceCtorEq, *]; done) | fail) only [c_ref04_ESame, wl_ref04_ESame_0, s_ref04_ESame_0, c_ref04_ESame_l0, wb_ref04_ESame_0, c_ref04_ESame_k0, go_sem, Nat.reduceAdd, Nat.reduceSub, Nat.reduceMul, Nat.reduceLT, Nat.reduceLeDiff, Int.reduceToNat, Nat.reduceEqDiff, Nat.reduceBEq, ↓reduceIte, reduceCtorEq, eA, Int.toNat_natCast, g0, g1, scal1, List.all_cons, List.all_nil, Bool.and_self]
      refine call0 100 trivial trivial (ihd p hpm q) (.inl rfl) (fun A eA => ?_)
      cases hq : xteq p q with
      | false =>
        simp (disch := first | omega | (simp only [avs_len, List.length_cons, List.length_append, List.length_nil, List.length_take, List.length_drop, List.length_map]; omega) | (simp only [cells, scal1, allSz, List.length_cons, List.length_nil, List.length_append, List.length_map, List.all_cons, List.all_nil, avs_len, beq_self_eq_true, Bool.and_self, and_self, or_true, true_or, reduceCtorEq, *]; done) | fail) only [c_ref04_ESame, wl_ref04_ESame_0, s_ref04_ESame_0, c_ref04_ESame_l0, wb_ref04_ESame_0, c_ref04_ESame_k0, go_sem, Nat.reduceAdd, Nat.reduceSub, Nat.reduceMul, Nat.reduceLT, Nat.reduceLeDiff, Int.reduceToNat, Nat.reduceEqDiff, Nat.reduceBEq, ↓reduceIte, reduceCtorEq, eA]
        simp only [xsmL, hq, Bool.false_and]
        exact doneG rfl
      | true =>
        simp (disch := first | omega | (simp only [avs_len, List.length_cons, List.length_append, List.length_nil, List.length_take, List.length_drop, List.length_map]; omega) | (simp only [cells, scal1, allSz, List.length_cons, List.length_nil, List.length_append, List.length_map, List.all_cons, List.all_nil, avs_len, beq_self_eq_true, Bool.and_self, and_self, or_true, true_or, reduceCtorEq, *]; done) | fail) only [c_ref04_ESame, wl_ref04_ESame_0, s_ref04_ESame_0, c_ref04_ESame_l0, wb_ref04_ESame_0, c_ref04_ESame_k0, go_sem, Nat.reduceAdd, Nat.reduceSub, Nat.reduceMul, Nat.reduceLT, Nat.reduceLeDiff, Int.reduceToNat, Nat.reduceEqDiff, Nat.reduceBEq, ↓reduceIte, reduceCtorEq, eA, w1]
        simp only [xsmL, hq, Bool.true_and]
        have hih := ih (pre ++ [p]) post2 (pre2 ++ [q]) (by rw [h1]; simp) (by rw [h2]; simp) (by simp [h3]) nx
        rw [show (pre ++ [p]).length = pre.length + 1 by simp] at hih
        exact hih
theorem xrefSame_calls : ∀ (a : ET), a.size < 2 ^ 60 → ∀ b, PCalls Try.prog F_ref04_ESame [xtv a, xtv b] (.bool (xteq a b)) := by
  intro a
  induction a using ET.ind with
  | h a ih =>
    intro hs b
    rw [xteq_step]
    refine calls_ref04_ESame (walk0 100 trivial (fun A eA => ?_))
    by_cases h1 : a.n = b.n
    · by_cases h2 : a.ps.length = b.ps.length
      · simp (disch := first | omega | (simp only [avs_len, List.length_cons, List.length_append, List.length_nil, List.length_take, List.length_drop, List.length_map]; omega) | (simp only [cells, scal1, allSz, List.length_cons, List.length_nil, List.length_append, List.length_map, List.all_cons, List.all_nil, avs_len, beq_self_eq_true, Bool.and_self, and_self, or_true, true_or, reduceCtorEq, *]; done) | fail) only [c_ref04_ESame, wl_ref04_ESame_0, s_ref04_ESame_0, c_ref04_ESame_l0, wb_ref04_ESame_0, c_ref04_ESame_k0, go_sem, Nat.reduceAdd, Nat.reduceSub, Nat.reduceMul, Nat.reduceLT, Nat.reduceLeDiff, Int.reduceToNat, Nat.reduceEqDiff, Nat.reduceBEq, ↓reduceIte, reduceCtorEq, eA, scal1, xtavs_len, h1]
        rw [← h1, Bool.true_and]
        have := xrefSame_loop a b h2 hs (fun p hp q => ih p hp (by have := xsize_lt hp; omega) q) a.ps [] b.ps [] rfl rfl rfl zeroC
        rw [← h1] at this
        exact this
      · simp (disch := first | omega | (simp only [avs_len, List.length_cons, List.length_append, List.length_nil, List.length_take, List.length_drop, List.length_map]; omega) | (simp only [cells, scal1, allSz, List.length_cons, List.length_nil, List.length_append, List.length_map, List.all_cons, List.all_nil, avs_len, beq_self_eq_true, Bool.and_self, and_self, or_true, true_or, reduceCtorEq, *]; done) | fail) only [c_ref04_ESame, wl_ref04_ESame_0, s_ref04_ESame_0, c_ref04_ESame_l0, wb_ref04_ESame_0, c_ref04_ESame_k0, go_sem, Nat.reduceAdd, Nat.reduceSub, Nat.reduceMul, Nat.reduceLT, Nat.reduceLeDiff, Int.reduceToNat, Nat.reduceEqDiff, Nat.reduceBEq, ↓reduceIte, reduceCtorEq, eA, scal1, xtavs_len, h1]
        exact doneG rfl
    · have hb : decide (a.n = b.n) = false := by simp [h1]
      simp (disch := first | omega | (simp only [avs_len, List.length_cons, List.length_append, List.length_nil, List.length_take, List.length_drop, List.length_map]; omega) | (simp only [cells, scal1, allSz, List.length_cons, List.length_nil, List.length_append, List.length_map, List.all_cons, List.all_nil, avs_len, beq_self_eq_true, Bool.and_self, and_self, or_true, true_or, reduceCtorEq, *]; done) | fail) only [c_ref04_ESame, wl_ref04_ESame_0, s_ref04_ESame_0, c_ref04_ESame_l0, wb_ref04_ESame_0, c_ref04_ESame_k0, go_sem, Nat.reduceAdd, Nat.reduceSub, Nat.reduceMul, Nat.reduceLT, Nat.reduceLeDiff, Int.reduceToNat, Nat.reduceEqDiff, Nat.reduceBEq, ↓reduceIte, reduceCtorEq, eA, scal1, xtavs_len]
      simp only [h1, false_and, decide_false, Bool.false_and]
      exact doneG rfl

/-- No deeper than that? -/
noncomputable def xflatb (d : Nat) (t : ET) : Bool := @decide (xflatTo d t) (Classical.propDecidable _)
theorem xflatb_true {d : Nat} {t : ET} : xflatb d t = true ↔ xflatTo d t := by simp [xflatb]
theorem xflatb_false {d : Nat} {t : ET} : xflatb d t = false ↔ ¬ xflatTo d t := by simp [xflatb]
theorem xshallow_loop (d : Nat) (hd : d < 1000) (ihd : ∀ t : ET, t.size < 2 ^ 60 → PCalls Try.prog F_event_shallow [xtv t, .int .i64 (d : Nat)] (.bool (xflatb d t))) (a : ET) (hs : a.size < 2 ^ 60) : ∀ (post pre : List ET), a.ps = pre ++ post → (∀ p ∈ pre, xflatTo d p) → ∀ nx : Ctr,
    RunsX Try.prog 0 (Gives [.t 4] (.bool (xflatb (d + 1) a))) (i_event_shallow_0 ++ [.c c_event_shallow_k0]) (s_event_shallow_0 (.int .i64 ((d + 1 : Nat) : Int)) (.fz 2 (xtavs a.ps) none) (.int .i64 (a.ps.length : Nat)) (.int .i64 (pre.length : Nat))) [] nx := by
  have hls := xlen_size a
  intro post
  induction post with
  | nil =>
    intro pre h1 h2 nx
    have h5 : a.ps.length = pre.length := by rw [h1]; simp
    have h6 : xflatb (d + 1) a = true := by rw [xflatb_true]; intro p hp; rw [h1, List.append_nil] at hp; exact h2 p hp
    refine round (its := [.blk 0 wb_event_shallow_0]) (k0 := [.c c_event_shallow_k0]) 100 trivial trivial (fun A eA => ?_)
    simp (disch := first | omega | (simp only [avs_len, List.length_cons, List.length_append, List.length_nil, List.length_take, List.length_drop, List.length_map]; omega) | (simp only [cells, scal1, allSz, List.length_cons, List.length_nil, List.length_append, List.length_map, List.all_cons, List.all_nil, avs_len, beq_self_eq_true, Bool.and_self, and_self, or_true, true_or, reduceCtorEq, *]; done) | fail) only [c_event_shallow, wl_event_shallow_0, s_event_shallow_0, c_event_shallow_l0, wb_event_shallow_0, c_event_shallow_k0, go_sem, Nat.reduceAdd, Nat.reduceSub, Nat.reduceMul, Nat.reduceLT, Nat.reduceLeDiff, Int.reduceToNat, Nat.reduceEqDiff, Nat.reduceBEq, ↓reduceIte, reduceCtorEq, eA]
    refine walk0 (its := [.c c_event_shallow_k0]) 100 trivial (fun A eA => ?_)
    simp (disch := first | omega | (simp only [avs_len, List.length_cons, List.length_append, List.length_nil, List.length_take, List.length_drop, List.length_map]; omega) | (simp only [cells, scal1, allSz, List.length_cons, List.length_nil, List.length_append, List.length_map, List.all_cons, List.all_nil, avs_len, beq_self_eq_true, Bool.and_self, and_self, or_true, true_or, reduceCtorEq, *]; done) | fail) only [c_event_shallow, wl_event_shallow_0, s_event_shallow_0, c_event_shallow_l0, wb_event_shallow_0, c_event_shallow_k0, go_sem, Nat.reduceAdd, Nat.reduceSub, Nat.reduceMul, Nat.reduceLT, Nat.reduceLeDiff, Int.reduceToNat, Nat.reduceEqDiff, Nat.reduceBEq, ↓reduceIte, reduceCtorEq, eA, h6]
    exact doneG rfl
  | cons p post ih =>
    intro pre h1 h2 nx
    have hlt : pre.length < a.ps.length := by rw [h1]; simp
    have hpm : p ∈ a.ps := by rw [h1]; simp
    have hpz := xsize_lt hpm
    have g0 : (xtavs a.ps)[pre.length]? = some (xtv p) := by rw [xtavs_get, h1]; simp
    have w1 : IntKind.i64.wrap ((pre.length : Int) + 1) = ((pre.length + 1 : Nat) : Int) := by rw [IntKind.wrap_i64]; omega
    have w2 : IntKind.i64.wrap (((d + 1 : Nat) : Int) - 1) = ((d : Nat) : Int) := by rw [IntKind.wrap_i64]; omega
    have hno : ¬ xflatTo d p → xflatb (d + 1) a = false := by intro hx; rw [xflatb_false]; intro h; exact hx (h p hpm)
    refine round (its := [.blk 0 wb_event_shallow_0]) (k0 := [.c c_event_shallow_k0]) 100 trivial trivial (fun A eA => ?_)
    by_cases hd0 : d = 0
    · subst hd0
      simp (disch := first | omega | (simp only [avs_len, List.length_cons, List.length_append, List.length_nil, List.length_take, List.length_drop, List.length_map]; omega) | (simp only [cells, scal1, allSz, List.length_cons, List.length_nil, List.length_append, List.length_map, List.all_cons, List.all_nil, avs_len, beq_self_eq_true, Bool.and_self, and_self, or_true, true_or, reduceCtorEq, *]; done) | fail) only [c_event_shallow, wl_event_shallow_0, s_event_shallow_0, c_event_shallow_l0, wb_event_shallow_0, c_event_shallow_k0, go_sem, Nat.reduceAdd, Nat.reduceSub, Nat.reduceMul, Nat.reduceLT, Nat.reduceLeDiff, Int.reduceToNat, Nat.reduceEqDiff, Nat.reduceBEq, ↓reduceIte, reduceCtorEq, eA, Int.toNat_natCast, g0, w2, scal1, List.all_cons, List.all_nil, Bool.and_self]
      rw [hno (by simp [xflatTo])]
      exact doneG rfl
    · simp (disch := first | omega | (simp only [avs_len, List.length_cons, List.length_append, List.length_nil, List.length_take, List.length_drop, List.length_map]; omega) | (simp only [cells, scal1, allSz, List.length_cons, List.length_nil, List.length_append, List.length_map, List.all_cons, List.all_nil, avs_len, beq_self_eq_true, Bool.and_self, and_self, or_true, true_or, reduceCtorEq, *]; done) | fail) only [c_event_shallow, wl_event_shallow_0, s_event_shallow_0, c_event_shallow_l0, wb_event_shallow_0, c_event_shallow_k0, go_sem, Nat.reduceAdd, Nat.reduceSub, Nat.reduceMul, Nat.reduceLT, Nat.reduceLeDiff, Int.reduceToNat, Nat.reduceEqDiff, Nat.reduceBEq, ↓reduceIte, reduceCtorEq, eA, Int.toNat_natCast, g0, w2, scal1, List.all_cons, List.all_nil, Bool.and_self]
      refine call0 100 trivial trivial (ihd p (by omega)) (.inl rfl) (fun A eA => ?_)
      cases hq : xflatb d p with
      | false =>
        simp (disch := first | omega | (simp only [avs_len, List.length_cons, List.length_append, List.length_nil, List.length_take, List.length_drop, List.length_map]; omega) | (simp only [cells, scal1, allSz, List.length_cons, List.length_nil, List.length_append, List.length_map, List.all_cons, List.all_nil, avs_len, beq_self_eq_true, Bool.and_self, and_self, or_true, true_or, reduceCtorEq, *]; done) | fail) only [c_event_shallow, wl_event_shallow_0, s_event_shallow_0, c_event_shallow_l0, wb_event_shallow_0, c_event_shallow_k0, go_sem, Nat.reduceAdd, Nat.reduceSub, Nat.reduceMul, Nat.reduceLT, Nat.reduceLeDiff, Int.reduceToNat, Nat.reduceEqDiff, Nat.reduceBEq, ↓reduceIte, reduceCtorEq, eA]
        rw [hno (xflatb_false.1 hq)]
        exact doneG rfl
      | true =>
        simp (disch := first | omega | (simp only [avs_len, List.length_cons, List.length_append, List.length_nil, List.length_take, List.length_drop, List.length_map]; omega) | (simp only [cells, scal1, allSz, List.length_cons, List.length_nil, List.length_append, List.length_map, List.all_cons, List.all_nil, avs_len, beq_self_eq_true, Bool.and_self, and_self, or_true, true_or, reduceCtorEq, *]; done) | fail) only [c_event_shallow, wl_event_shallow_0, s_event_shallow_0, c_event_shallow_l0, wb_event_shallow_0, c_event_shallow_k0, go_sem, Nat.reduceAdd, Nat.reduceSub, Nat.reduceMul, Nat.reduceLT, Nat.reduceLeDiff, Int.reduceToNat, Nat.reduceEqDiff, Nat.reduceBEq, ↓reduceIte, reduceCtorEq, eA, w1]
        have hih := ih (pre ++ [p]) (by rw [h1]; simp) (by intro x hx; rcases List.mem_append.1 hx with hx | hx; exact h2 x hx; rw [List.mem_singleton.1 hx]; exact xflatb_true.1 hq) (bump nx 6)
        rw [show (pre ++ [p]).length = pre.length + 1 by simp] at hih
        exact hih
theorem xshallow_calls : ∀ (d : Nat) (t : ET), d < 1000 → t.size < 2 ^ 60 → PCalls Try.prog F_event_shallow [xtv t, .int .i64 (d : Nat)] (.bool (xflatb d t)) := by
  intro d
  induction d with
  | zero =>
    intro t _ hs
    have hls := xlen_size t
    have h6 : xflatb 0 t = false := by rw [xflatb_false]; simp [xflatTo]
    refine calls_event_shallow (walk0 100 trivial (fun A eA => ?_))
    simp (disch := first | omega | (simp only [avs_len, List.length_cons, List.length_append, List.length_nil, List.length_take, List.length_drop, List.length_map]; omega) | (simp only [cells, scal1, allSz, List.length_cons, List.length_nil, List.length_append, List.length_map, List.all_cons, List.all_nil, avs_len, beq_self_eq_true, Bool.and_self, and_self, or_true, true_or, reduceCtorEq, *]; done) | fail) only [c_event_shallow, wl_event_shallow_0, s_event_shallow_0, c_event_shallow_l0, wb_event_shallow_0, c_event_shallow_k0, go_sem, Nat.reduceAdd, Nat.reduceSub, Nat.reduceMul, Nat.reduceLT, Nat.reduceLeDiff, Int.reduceToNat, Nat.reduceEqDiff, Nat.reduceBEq, ↓reduceIte, reduceCtorEq, eA, scal1, xtavs_len]
    refine round (its := [.blk 0 wb_event_shallow_0]) (k0 := [.c c_event_shallow_k0]) 100 trivial trivial (fun A eA => ?_)
    by_cases h0 : t.ps = []
    · have h5 : t.ps.length = 0 := by rw [h0]; rfl
      simp (disch := first | omega | (simp only [avs_len, List.length_cons, List.length_append, List.length_nil, List.length_take, List.length_drop, List.length_map]; omega) | (simp only [cells, scal1, allSz, List.length_cons, List.length_nil, List.length_append, List.length_map, List.all_cons, List.all_nil, avs_len, beq_self_eq_true, Bool.and_self, and_self, or_true, true_or, reduceCtorEq, *]; done) | fail) only [c_event_shallow, wl_event_shallow_0, s_event_shallow_0, c_event_shallow_l0, wb_event_shallow_0, c_event_shallow_k0, go_sem, Nat.reduceAdd, Nat.reduceSub, Nat.reduceMul, Nat.reduceLT, Nat.reduceLeDiff, Int.reduceToNat, Nat.reduceEqDiff, Nat.reduceBEq, ↓reduceIte, reduceCtorEq, eA]
      refine walk0 (its := [.c c_event_shallow_k0]) 100 trivial (fun A eA => ?_)
      simp (disch := first | omega | (simp only [avs_len, List.length_cons, List.length_append, List.length_nil, List.length_take, List.length_drop, List.length_map]; omega) | (simp only [cells, scal1, allSz, List.length_cons, List.length_nil, List.length_append, List.length_map, List.all_cons, List.all_nil, avs_len, beq_self_eq_true, Bool.and_self, and_self, or_true, true_or, reduceCtorEq, *]; done) | fail) only [c_event_shallow, wl_event_shallow_0, s_event_shallow_0, c_event_shallow_l0, wb_event_shallow_0, c_event_shallow_k0, go_sem, Nat.reduceAdd, Nat.reduceSub, Nat.reduceMul, Nat.reduceLT, Nat.reduceLeDiff, Int.reduceToNat, Nat.reduceEqDiff, Nat.reduceBEq, ↓reduceIte, reduceCtorEq, eA, h6]
      exact doneG rfl
    · obtain ⟨p, ps, hp⟩ : ∃ p ps, t.ps = p :: ps := by cases h : t.ps with | nil => exact absurd h h0 | cons p ps => exact ⟨p, ps, rfl⟩
      have hlt : 0 < t.ps.length := by rw [hp]; simp
      have g0 : (xtavs t.ps)[0]? = some (xtv p) := by rw [xtavs_get, hp]; simp
      simp (disch := first | omega | (simp only [avs_len, List.length_cons, List.length_append, List.length_nil, List.length_take, List.length_drop, List.length_map]; omega) | (simp only [cells, scal1, allSz, List.length_cons, List.length_nil, List.length_append, List.length_map, List.all_cons, List.all_nil, avs_len, beq_self_eq_true, Bool.and_self, and_self, or_true, true_or, reduceCtorEq, *]; done) | fail) only [c_event_shallow, wl_event_shallow_0, s_event_shallow_0, c_event_shallow_l0, wb_event_shallow_0, c_event_shallow_k0, go_sem, Nat.reduceAdd, Nat.reduceSub, Nat.reduceMul, Nat.reduceLT, Nat.reduceLeDiff, Int.reduceToNat, Nat.reduceEqDiff, Nat.reduceBEq, ↓reduceIte, reduceCtorEq, eA, Int.toNat_natCast, g0, scal1, List.all_cons, List.all_nil, Bool.and_self, h6]
      exact doneG rfl
  | succ d ih =>
    intro t hd hs
    refine calls_event_shallow (walk0 100 trivial (fun A eA => ?_))
    simp (disch := first | omega | (simp only [avs_len, List.length_cons, List.length_append, List.length_nil, List.length_take, List.length_drop, List.length_map]; omega) | (simp only [cells, scal1, allSz, List.length_cons, List.length_nil, List.length_append, List.length_map, List.all_cons, List.all_nil, avs_len, beq_self_eq_true, Bool.and_self, and_self, or_true, true_or, reduceCtorEq, *]; done) | fail) only [c_event_shallow, wl_event_shallow_0, s_event_shallow_0, c_event_shallow_l0, wb_event_shallow_0, c_event_shallow_k0, go_sem, Nat.reduceAdd, Nat.reduceSub, Nat.reduceMul, Nat.reduceLT, Nat.reduceLeDiff, Int.reduceToNat, Nat.reduceEqDiff, Nat.reduceBEq, ↓reduceIte, reduceCtorEq, eA, scal1, xtavs_len]
    exact xshallow_loop d (by omega) (fun t h => ih t (by omega) h) t hs t.ps [] rfl (by simp) zeroC
/-- The rows appended, frozen, are the list. -/
theorem xwk_tree {o : Int} {x : AV} {ps : List ET} (h : Wk1 x (.fz 2 (xtavs ps) none)) : Wk1 (.agg [.int .i64 o, x]) (xtv (.mk o ps)) := by
  refine Wk1.agg rfl (fun j a b ha hb => ?_)
  rcases j with _ | _ | j
  · simp at ha hb; subst ha hb; exact Wk1.refl _
  · simp at ha hb; subst ha hb; exact h
  · simp at ha
theorem xwk_leaf (o : Int) : Wk1 (.agg [.int .i64 o, .nils]) (xtv (.mk o [])) := xwk_tree (by simp only [xtavs]; exact Wk1.nils 2)
theorem xcat_len : ∀ ps : List ET, (catCells (xtavs ps)).length = ps.length * 2
  | [] => by simp [xtavs, catCells]
  | p :: ps => by simp only [xtavs, catCells, xtav_tv, cells, List.length_append, xcat_len ps, List.length_cons, List.length_nil]; omega
theorem xcat_snoc : ∀ (ps : List ET) (p : ET), catCells (xtavs (ps ++ [p])) = catCells (xtavs ps) ++ [.int .i64 p.n, .fz 2 (xtavs p.ps) none]
  | [], p => by simp [xtavs, catCells, xtav_tv, cells]
  | q :: ps, p => by simp only [List.cons_append, xtavs, catCells, xcat_snoc ps p, List.append_assoc]
theorem xfrz_cat {α : Type} (n : Nat) (H : Heap) : ∀ (ps : List ET) (ok : List AV → List (Nat × Nat) → α) (bd : α), mapK (frzK (n + 1) H) (catCells (xtavs ps)) ok bd = ok (catCells (xtavs ps)) []
  | [], ok, bd => by simp [xtavs, catCells, mapK]
  | p :: ps, ok, bd => by simp only [xtavs, catCells, xtav_tv, cells, List.cons_append, List.nil_append, mapK, frzK_int, frzK_fz, xfrz_cat n H ps, List.append_nil]
theorem xchunk_cat : ∀ (ps : List ET), chunk 2 ps.length (catCells (xtavs ps)) = xtavs ps := by
  intro ps
  show chunkN 2 _ _ = _
  induction ps with
  | nil => rfl
  | cons p ps ih => simp only [xtavs, catCells, xtav_tv, cells, List.length_cons, chunkN, List.cons_append, List.nil_append, List.take, List.drop, ih]
theorem xcat_take (ps : List ET) : (catCells (xtavs ps)).take (ps.length * 2) = catCells (xtavs ps) := by rw [← xcat_len, List.take_length]
theorem xwk_two (n : Int) (l r : ET) : Wk1 (.agg [.int .i64 n, .fz 2 [xtv l, xtv r] (some 2)]) (xtv (.mk n [l, r])) := xwk_tree (by simp only [xtavs, xtav_tv]; exact Wk1.cap 2 _ _)
theorem xrtb_no {t : ET} (h : ¬ XRt t) : xrtb t = false := by rw [Bool.eq_false_iff, ne_eq, xrtb_true]; exact h
end Go.Proofs.Ytmokhopjnjecbab
