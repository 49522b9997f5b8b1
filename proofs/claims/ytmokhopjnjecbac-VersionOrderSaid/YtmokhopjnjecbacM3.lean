/- The functions' bodies, compiled; printed by a program of mine (gen.py); that they are is checked here. -/
import Derived.Test.YtmokhopjnjecbacM2
import Derived.Test.YtmokhopjnjecbacRows
import Derived.Eval
import Derived.KernelRfl
import Derived.Attr
namespace Go.Proofs.Ytmokhopjnjecbac
open Go.Ev
set_option maxRecDepth 100000

/-- pedlar/version.order: parameters [95, 95], results [.t 4], calls cmp_Compare_int, cmp_Compare_int64, cmp_Or_int -/
def c_version_order : Cd := (.seq (.reg [⟨some 2, none, .box, [.t 0]⟩, ⟨some 3, none, .box, [.t 1]⟩, ⟨some 4, none, .mv, [.c (.int .i64 0)]⟩]) (.seq (.reg [⟨some 5, none, (.fa 0), [.t 2]⟩, ⟨some 6, none, .ld1, [.t 5]⟩, ⟨some 7, none, (.fa 0), [.t 3]⟩, ⟨some 8, none, .ld1, [.t 7]⟩, ⟨some 9, none, (.call F_cmp_Compare_int 0), [.t 6, .t 8]⟩, ⟨some 10, none, (.fa 1), [.t 2]⟩, ⟨some 11, none, .ld1, [.t 10]⟩, ⟨some 12, none, (.fa 1), [.t 3]⟩, ⟨some 13, none, .ld1, [.t 12]⟩, ⟨some 14, none, (.call F_z19z 0), [.t 11, .t 13]⟩, ⟨some 15, none, (.lit 1 2), [.t 9, .t 14]⟩, ⟨some 16, none, (.call F_z33z 0), [.t 15]⟩, ⟨some 4, none, .mv, [.t 16]⟩]) .ret))
theorem comp_version_order : compF Try.prog (mset [] [] []) (cset [] [] []) (wset [] []) Try.f110 = some c_version_order := by kernel_rfl
theorem ok_version_order : fnOk Try.prog F_version_order = true := by kernel_rfl
theorem calls_version_order {args : List AV} {r : AV} (h : RunsX Try.prog 0 (Gives [.t 4] r) [.c c_version_order] (args ++ List.replicate (17 - args.length) (.tup [])) [] zeroC) : PCalls Try.prog F_version_order args r :=
  pcallsF Try.checked.mixed Try.func110 ok_version_order comp_version_order rfl (rs := [.t 4]) (by kernel_rfl) h
theorem hcalls_version_order {args : List AV} {Hin Hout : Heap} {nx nx2 : Ctr} {r : AV} (φ : Nat) (ks : List (Nat × Nat)) (h : RunsX Try.prog φ (GivesH ks [.t 4] r Hout nx2) [.c c_version_order] (args ++ List.replicate (17 - args.length) (.tup [])) Hin nx) : HCalls Try.prog F_version_order args Hin nx r Hout nx2 :=
  hcallsF Try.checked.mixed Try.func110 ok_version_order comp_version_order rfl (rs := [.t 4]) (by kernel_rfl) φ ks h

/-- pedlar/version.named: parameters [95, 95], results [.t 4], calls version_order -/
def c_version_named : Cd := (.seq (.reg [⟨some 2, none, .box, [.t 0]⟩, ⟨some 3, none, .box, [.t 1]⟩, ⟨some 4, none, .mv, [.c (.bool false)]⟩]) (.seq (.reg [⟨some 5, none, (.ldn 7), [.t 2]⟩, ⟨some 6, none, (.ldn 7), [.t 3]⟩, ⟨some 7, none, (.call F_version_order 0), [.t 5, .t 6]⟩, ⟨some 8, none, (.bin .eql), [.t 7, .c (.int .i64 0)]⟩, ⟨some 4, none, .mv, [.t 8]⟩]) .ret))
theorem comp_version_named : compF Try.prog (mset [] [] []) (cset [] [] []) (wset [] []) Try.f105 = some c_version_named := by kernel_rfl
theorem ok_version_named : fnOk Try.prog F_version_named = true := by kernel_rfl
theorem calls_version_named {args : List AV} {r : AV} (h : RunsX Try.prog 0 (Gives [.t 4] r) [.c c_version_named] (args ++ List.replicate (9 - args.length) (.tup [])) [] zeroC) : PCalls Try.prog F_version_named args r :=
  pcallsF Try.checked.mixed Try.func105 ok_version_named comp_version_named rfl (rs := [.t 4]) (by kernel_rfl) h
theorem hcalls_version_named {args : List AV} {Hin Hout : Heap} {nx nx2 : Ctr} {r : AV} (φ : Nat) (ks : List (Nat × Nat)) (h : RunsX Try.prog φ (GivesH ks [.t 4] r Hout nx2) [.c c_version_named] (args ++ List.replicate (9 - args.length) (.tup [])) Hin nx) : HCalls Try.prog F_version_named args Hin nx r Hout nx2 :=
  hcallsF Try.checked.mixed Try.func105 ok_version_named comp_version_named rfl (rs := [.t 4]) (by kernel_rfl) φ ks h

/-- pedlar/version.one$1: parameters [95], results [.t 3], calls version_Right -/
def c_version_one_1 : Cd := (.seq (.reg [⟨some 2, none, .box, [.t 0]⟩, ⟨some 3, none, .mv, [.c (.bool false)]⟩]) (.seq (.reg [⟨some 4, none, (.ldn 7), [.t 2]⟩, ⟨some 5, none, (.call F_z23z 0), [.t 4]⟩, ⟨some 6, none, .not, [.t 5]⟩, ⟨some 7, none, .mv, [.t 6]⟩, ⟨some 8, (some (7, false)), (.fa 2), [.t 2]⟩, ⟨some 9, (some (7, false)), .ld1, [.t 8]⟩, ⟨some 10, (some (7, false)), .ld1, [.t 1]⟩, ⟨some 11, (some (7, false)), (.ixS 7), [.t 10, .c (.int .i64 0)]⟩, ⟨some 12, (some (7, false)), (.fa 2), [.t 11]⟩, ⟨some 13, (some (7, false)), .ld1, [.t 12]⟩, ⟨some 14, (some (7, false)), (.bin .neq), [.t 9, .t 13]⟩, ⟨some 15, none, .pick, [.t 7, .c (.bool true), .t 14]⟩, ⟨some 3, none, .mv, [.t 15]⟩]) .ret))
theorem comp_version_one_1 : compF Try.prog (mset [] [] []) (cset [] [] []) (wset [] []) Try.f169 = some c_version_one_1 := by kernel_rfl
theorem ok_version_one_1 : fnOk Try.prog F_version_one_1 = true := by kernel_rfl
theorem calls_version_one_1 {args : List AV} {r : AV} (h : RunsX Try.prog 0 (Gives [.t 3] r) [.c c_version_one_1] (args ++ List.replicate (16 - args.length) (.tup [])) [] zeroC) : PCalls Try.prog F_version_one_1 args r :=
  pcallsF Try.checked.mixed Try.func169 ok_version_one_1 comp_version_one_1 rfl (rs := [.t 3]) (by kernel_rfl) h
theorem hcalls_version_one_1 {args : List AV} {Hin Hout : Heap} {nx nx2 : Ctr} {r : AV} (φ : Nat) (ks : List (Nat × Nat)) (h : RunsX Try.prog φ (GivesH ks [.t 3] r Hout nx2) [.c c_version_one_1] (args ++ List.replicate (16 - args.length) (.tup [])) Hin nx) : HCalls Try.prog F_version_one_1 args Hin nx r Hout nx2 :=
  hcallsF Try.checked.mixed Try.func169 ok_version_one_1 comp_version_one_1 rfl (rs := [.t 3]) (by kernel_rfl) φ ks h

/-- pedlar/version.one: parameters [78], results [.t 2], calls slices_ContainsFunc_api_Version -/
def c_version_one : Cd := (.seq (.reg [⟨some 1, none, .box, [.t 0]⟩, ⟨some 2, none, .mv, [.c (.bool false)]⟩]) (.seq (.reg [⟨some 3, none, .ld1, [.t 1]⟩, ⟨some 4, none, (.mkf 169), [.t 1]⟩, ⟨some 5, none, (.call F_z13z 0), [.t 3, .t 4]⟩, ⟨some 6, none, .not, [.t 5]⟩, ⟨some 2, none, .mv, [.t 6]⟩]) .ret))
theorem comp_version_one : compF Try.prog (mset [] [] []) (cset [] [] []) (wset [] []) Try.f102 = some c_version_one := by kernel_rfl
theorem ok_version_one : fnOk Try.prog F_version_one = true := by kernel_rfl
theorem calls_version_one {args : List AV} {r : AV} (h : RunsX Try.prog 0 (Gives [.t 2] r) [.c c_version_one] (args ++ List.replicate (7 - args.length) (.tup [])) [] zeroC) : PCalls Try.prog F_version_one args r :=
  pcallsF Try.checked.mixed Try.func102 ok_version_one comp_version_one rfl (rs := [.t 2]) (by kernel_rfl) h
theorem hcalls_version_one {args : List AV} {Hin Hout : Heap} {nx nx2 : Ctr} {r : AV} (φ : Nat) (ks : List (Nat × Nat)) (h : RunsX Try.prog φ (GivesH ks [.t 2] r Hout nx2) [.c c_version_one] (args ++ List.replicate (7 - args.length) (.tup [])) Hin nx) : HCalls Try.prog F_version_one args Hin nx r Hout nx2 :=
  hcallsF Try.checked.mixed Try.func102 ok_version_one comp_version_one rfl (rs := [.t 2]) (by kernel_rfl) φ ks h

/-- pedlar/version.Merge$1: parameters [95], results [.t 3], calls version_named -/
def c_z22z_1 : Cd := (.seq (.reg [⟨some 2, none, .box, [.t 0]⟩, ⟨some 3, none, .mv, [.c (.bool false)]⟩]) (.seq (.reg [⟨some 4, none, (.ldn 7), [.t 1]⟩, ⟨some 5, none, (.ldn 7), [.t 2]⟩, ⟨some 6, none, (.call F_version_named 0), [.t 4, .t 5]⟩, ⟨some 3, none, .mv, [.t 6]⟩]) .ret))
theorem comp_z22z_1 : compF Try.prog (mset [] [] []) (cset [] [] []) (wset [] []) Try.f104 = some c_z22z_1 := by kernel_rfl
theorem ok_z22z_1 : fnOk Try.prog F_z22z_1 = true := by kernel_rfl
theorem calls_z22z_1 {args : List AV} {r : AV} (h : RunsX Try.prog 0 (Gives [.t 3] r) [.c c_z22z_1] (args ++ List.replicate (7 - args.length) (.tup [])) [] zeroC) : PCalls Try.prog F_z22z_1 args r :=
  pcallsF Try.checked.mixed Try.func104 ok_z22z_1 comp_z22z_1 rfl (rs := [.t 3]) (by kernel_rfl) h
theorem hcalls_z22z_1 {args : List AV} {Hin Hout : Heap} {nx nx2 : Ctr} {r : AV} (φ : Nat) (ks : List (Nat × Nat)) (h : RunsX Try.prog φ (GivesH ks [.t 3] r Hout nx2) [.c c_z22z_1] (args ++ List.replicate (7 - args.length) (.tup [])) Hin nx) : HCalls Try.prog F_z22z_1 args Hin nx r Hout nx2 :=
  hcallsF Try.checked.mixed Try.func104 ok_z22z_1 comp_z22z_1 rfl (rs := [.t 3]) (by kernel_rfl) φ ks h

/-- pedlar/version.Merge$2: parameters [95], results [.t 3], calls version_behind -/
def c_z22z_2 : Cd := (.seq (.reg [⟨some 2, none, .box, [.t 0]⟩, ⟨some 3, none, .mv, [.c (.bool false)]⟩]) (.seq (.reg [⟨some 4, none, (.ldn 7), [.t 2]⟩, ⟨some 5, none, (.ldn 7), [.t 1]⟩, ⟨some 6, none, (.call F_version_behind 0), [.t 4, .t 5]⟩, ⟨some 3, none, .mv, [.t 6]⟩]) .ret))
theorem comp_z22z_2 : compF Try.prog (mset [] [] []) (cset [] [] []) (wset [] []) Try.f106 = some c_z22z_2 := by kernel_rfl
theorem ok_z22z_2 : fnOk Try.prog F_z22z_2 = true := by kernel_rfl
theorem calls_z22z_2 {args : List AV} {r : AV} (h : RunsX Try.prog 0 (Gives [.t 3] r) [.c c_z22z_2] (args ++ List.replicate (7 - args.length) (.tup [])) [] zeroC) : PCalls Try.prog F_z22z_2 args r :=
  pcallsF Try.checked.mixed Try.func106 ok_z22z_2 comp_z22z_2 rfl (rs := [.t 3]) (by kernel_rfl) h
theorem hcalls_z22z_2 {args : List AV} {Hin Hout : Heap} {nx nx2 : Ctr} {r : AV} (φ : Nat) (ks : List (Nat × Nat)) (h : RunsX Try.prog φ (GivesH ks [.t 3] r Hout nx2) [.c c_z22z_2] (args ++ List.replicate (7 - args.length) (.tup [])) Hin nx) : HCalls Try.prog F_z22z_2 args Hin nx r Hout nx2 :=
  hcallsF Try.checked.mixed Try.func106 ok_z22z_2 comp_z22z_2 rfl (rs := [.t 3]) (by kernel_rfl) φ ks h

/-- pedlar/version.Merge: parameters [78], results [.t 2, .t 3], calls version_one, slices_ContainsFunc_api_Version, version_Clone, slices_SortFunc_api_Version -/
def wl_z22z_0 : Mk := ⟨[false, true, true, true, false, true, true, true, true, true, true, false, false, false, true, true, true, true, true, true, true, true, true, true, true, true, true, true, true, true, true, true, true, true, true, true, true, true, true, true], [6]⟩
abbrev s_z22z_0 (t0 t4 t11 t12 t13 : AV) : List AV := [t0, .any, .any, .any, t4, .any, .any, .any, .any, .any, .any, t11, t12, t13, .any, .any, .any, .any, .any, .any, .any, .any, .any, .any, .any, .any, .any, .any, .any, .any, .any, .any, .any, .any, .any, .any, .any, .any, .any, .any]
def c_z22z_l0 : Cd := (.seq (.reg [⟨some 14, none, (.bin .lss), [.t 13, .t 12]⟩]) (.seq (.cond (.t 14) .skip (.exit 0)) (.seq (.blk 1 [] (.seq (.reg [⟨some 15, none, (.ixS 7), [.t 11, .t 13]⟩, ⟨some 16, none, (.ldn 7), [.t 15]⟩, ⟨some 6, none, (.new [(.int .i64 0), (.int .i64 0), (.str ⟨#[]⟩), (.str ⟨#[]⟩), (.bool false), (.int .i64 0), .nils] 6), []⟩, ⟨none, none, (.st 7), [.t 6, .t 16]⟩]) (.seq (.reg [⟨some 17, none, .mv, [.t 4]⟩, ⟨some 18, none, (.mkf 104), [.t 6]⟩, ⟨some 19, none, (.call F_z13z 0), [.t 17, .t 18]⟩, ⟨some 7, none, .mv, [.t 19]⟩]) (.seq (.reg [⟨some 20, none, .mv, [.t 7]⟩, ⟨some 21, none, .not, [.t 20]⟩, ⟨some 22, none, .mv, [.t 21]⟩, ⟨some 23, (some (22, true)), .mv, [.t 0]⟩, ⟨some 24, (some (22, true)), (.mkf 106), [.t 6]⟩, ⟨some 25, (some (22, true)), (.call F_z13z 0), [.t 23, .t 24]⟩, ⟨some 26, (some (22, true)), .not, [.t 25]⟩, ⟨some 27, none, .pick, [.t 22, .t 26, .c (.bool false)]⟩]) (.cond (.t 27) (.reg [⟨some 28, none, .mv, [.t 4]⟩, ⟨some 29, none, (.ldn 7), [.t 6]⟩, ⟨some 30, none, (.call F_version_Clone 0), [.t 29]⟩, ⟨some 31, none, (.lit 7 1), [.t 30]⟩, ⟨some 32, none, (.app 7 88 32), [.t 28, .t 31]⟩, ⟨some 4, none, .mv, [.t 32]⟩]) .skip))))) (.reg [⟨some 33, none, (.bin .add), [.t 13, .c (.int .i64 1)]⟩, ⟨some 13, none, .mv, [.t 33]⟩]))))
def wb_z22z_0 : List Bool := [true, true, true, true, false, true, true, true, true, true, true, true, true, true, true, true, true, true, true, true, true, true, true, true, true, true, true, true, true, true, true, true, true, true, true, true, true, true, true, true]
abbrev e_z22z_0 (t4 : AV) : List AV := [.any, .any, .any, .any, t4, .any, .any, .any, .any, .any, .any, .any, .any, .any, .any, .any, .any, .any, .any, .any, .any, .any, .any, .any, .any, .any, .any, .any, .any, .any, .any, .any, .any, .any, .any, .any, .any, .any, .any, .any]
abbrev i_z22z_0 : List It := [.lp wl_z22z_0 c_z22z_l0, .blk 0 wb_z22z_0]
def c_z22z_k0 : Cd := (.seq (.reg [⟨some 34, none, .mv, [.t 4]⟩, ⟨some 35, none, (.call F_z16z 2), [.t 34, .c (.func 110 [])]⟩]) (.seq (.seq (.reg [⟨some 36, none, .mv, [.t 4]⟩, ⟨some 37, none, .len, [.t 36]⟩, ⟨some 38, none, (.bin .gtr), [.t 37, .c (.int .i64 16)]⟩]) (.cond (.t 38) (.seq (.reg [⟨some 2, none, .mv, [.c .nils]⟩, ⟨some 3, none, .mv, [.c (.int .i64 11)]⟩]) .ret) .skip)) (.seq (.reg [⟨some 39, none, .mv, [.t 4]⟩, ⟨some 2, none, .mv, [.t 39]⟩, ⟨some 3, none, .mv, [.c (.int .i64 0)]⟩]) .ret)))
def c_z22z : Cd := (.seq (.reg [⟨some 2, none, .mv, [.c .nils]⟩, ⟨some 3, none, .mv, [.c (.int .i64 0)]⟩]) (.seq (.seq (.reg [⟨some 8, none, .mv, [.t 0]⟩, ⟨some 9, none, (.call F_version_one 0), [.t 8]⟩, ⟨some 10, none, .not, [.t 9]⟩]) (.cond (.t 10) (.seq (.reg [⟨some 2, none, .mv, [.c .nils]⟩, ⟨some 3, none, .mv, [.c (.int .i64 1)]⟩]) .ret) .skip)) (.seq (.reg [⟨some 4, none, .mv, [.c .nils]⟩]) (.seq (.seq (.reg [⟨some 11, none, .mv, [.t 0]⟩, ⟨some 12, none, .len, [.t 11]⟩, ⟨some 13, none, .mv, [.c (.int .i64 0)]⟩]) (.blk 0 wb_z22z_0 (.loop wl_z22z_0 c_z22z_l0))) c_z22z_k0))))
theorem comp_z22z : compF Try.prog (mset [] [] []) (cset [] [F_z16z] []) (wset [(0, wl_z22z_0, wb_z22z_0)] []) Try.f43 = some c_z22z := by kernel_rfl
theorem ok_z22z : fnOk Try.prog F_z22z = true := by kernel_rfl
theorem calls_z22z {args : List AV} {r : AV} (h : RunsX Try.prog 0 (Gives [.t 2, .t 3] r) [.c c_z22z] (args ++ List.replicate (40 - args.length) (.tup [])) [] zeroC) : PCalls Try.prog F_z22z args r :=
  pcallsF Try.checked.mixed Try.func43 ok_z22z comp_z22z rfl (rs := [.t 2, .t 3]) (by kernel_rfl) h
theorem hcalls_z22z {args : List AV} {Hin Hout : Heap} {nx nx2 : Ctr} {r : AV} (φ : Nat) (ks : List (Nat × Nat)) (h : RunsX Try.prog φ (GivesH ks [.t 2, .t 3] r Hout nx2) [.c c_z22z] (args ++ List.replicate (40 - args.length) (.tup [])) Hin nx) : HCalls Try.prog F_z22z args Hin nx r Hout nx2 :=
  hcallsF Try.checked.mixed Try.func43 ok_z22z comp_z22z rfl (rs := [.t 2, .t 3]) (by kernel_rfl) φ ks h

/-- pedlar/version.Siblings$1: parameters [95], results [.t 3], calls version_behind -/
def c_z20z_1 : Cd := (.seq (.reg [⟨some 2, none, .box, [.t 0]⟩, ⟨some 3, none, .mv, [.c (.bool false)]⟩]) (.seq (.reg [⟨some 4, none, (.ldn 7), [.t 2]⟩, ⟨some 5, none, (.ldn 7), [.t 1]⟩, ⟨some 6, none, (.call F_version_behind 0), [.t 4, .t 5]⟩, ⟨some 3, none, .mv, [.t 6]⟩]) .ret))
theorem comp_z20z_1 : compF Try.prog (mset [] [] []) (cset [] [] []) (wset [] []) Try.f113 = some c_z20z_1 := by kernel_rfl
theorem ok_z20z_1 : fnOk Try.prog F_z20z_1 = true := by kernel_rfl
theorem calls_z20z_1 {args : List AV} {r : AV} (h : RunsX Try.prog 0 (Gives [.t 3] r) [.c c_z20z_1] (args ++ List.replicate (7 - args.length) (.tup [])) [] zeroC) : PCalls Try.prog F_z20z_1 args r :=
  pcallsF Try.checked.mixed Try.func113 ok_z20z_1 comp_z20z_1 rfl (rs := [.t 3]) (by kernel_rfl) h
theorem hcalls_z20z_1 {args : List AV} {Hin Hout : Heap} {nx nx2 : Ctr} {r : AV} (φ : Nat) (ks : List (Nat × Nat)) (h : RunsX Try.prog φ (GivesH ks [.t 3] r Hout nx2) [.c c_z20z_1] (args ++ List.replicate (7 - args.length) (.tup [])) Hin nx) : HCalls Try.prog F_z20z_1 args Hin nx r Hout nx2 :=
  hcallsF Try.checked.mixed Try.func113 ok_z20z_1 comp_z20z_1 rfl (rs := [.t 3]) (by kernel_rfl) φ ks h

/-- pedlar/version.Siblings: parameters [78], results [.t 2], calls version_one, version_order, slices_ContainsFunc_api_Version -/
def wl_z20z_0 : Mk := ⟨[false, true, true, true, true, true, true, true, true, true, true, true, true, false, false, false, true, true, true, true, true, true, true, true, true, true, true, true, true, true, true, true, true, true, true, true, true, true], [4]⟩
abbrev s_z20z_0 (t0 t13 t14 t15 : AV) : List AV := [t0, .any, .any, .any, .any, .any, .any, .any, .any, .any, .any, .any, .any, t13, t14, t15, .any, .any, .any, .any, .any, .any, .any, .any, .any, .any, .any, .any, .any, .any, .any, .any, .any, .any, .any, .any, .any, .any]
def c_z20z_l0 : Cd := (.seq (.reg [⟨some 16, none, (.bin .lss), [.t 15, .t 14]⟩]) (.seq (.cond (.t 16) .skip (.exit 0)) (.seq (.blk 1 [] (.seq (.reg [⟨some 17, none, .mv, [.t 15]⟩, ⟨some 18, none, (.ixS 7), [.t 13, .t 15]⟩, ⟨some 19, none, (.ldn 7), [.t 18]⟩, ⟨some 4, none, (.new [(.int .i64 0), (.int .i64 0), (.str ⟨#[]⟩), (.str ⟨#[]⟩), (.bool false), (.int .i64 0), .nils] 4), []⟩, ⟨some 3, none, .mv, [.t 17]⟩, ⟨none, none, (.st 7), [.t 4, .t 19]⟩]) (.seq (.reg [⟨some 20, none, .mv, [.t 3]⟩, ⟨some 21, none, (.bin .gtr), [.t 20, .c (.int .i64 0)]⟩, ⟨some 22, none, .mv, [.t 21]⟩, ⟨some 23, (some (22, true)), .mv, [.t 0]⟩, ⟨some 24, (some (22, true)), .mv, [.t 3]⟩, ⟨some 25, (some (22, true)), (.bin .sub), [.t 24, .c (.int .i64 1)]⟩, ⟨some 26, (some (22, true)), (.ixS 7), [.t 23, .t 25]⟩, ⟨some 27, (some (22, true)), (.ldn 7), [.t 26]⟩, ⟨some 28, (some (22, true)), (.ldn 7), [.t 4]⟩, ⟨some 29, (some (22, true)), (.call F_version_order 0), [.t 27, .t 28]⟩, ⟨some 30, (some (22, true)), (.bin .geq), [.t 29, .c (.int .i64 0)]⟩, ⟨some 31, none, .pick, [.t 22, .t 30, .c (.bool false)]⟩, ⟨some 32, none, .mv, [.t 31]⟩, ⟨some 33, (some (32, false)), .mv, [.t 0]⟩, ⟨some 34, (some (32, false)), (.mkf 113), [.t 4]⟩, ⟨some 35, (some (32, false)), (.call F_z13z 0), [.t 33, .t 34]⟩, ⟨some 36, none, .pick, [.t 32, .c (.bool true), .t 35]⟩]) (.cond (.t 36) (.seq (.reg [⟨some 2, none, .mv, [.c (.bool false)]⟩]) .ret) .skip)))) (.reg [⟨some 37, none, (.bin .add), [.t 15, .c (.int .i64 1)]⟩, ⟨some 15, none, .mv, [.t 37]⟩]))))
def wb_z20z_0 : List Bool := [true, true, true, true, true, true, true, true, true, true, true, true, true, true, true, true, true, true, true, true, true, true, true, true, true, true, true, true, true, true, true, true, true, true, true, true, true, true]
abbrev e_z20z_0 : List AV := [.any, .any, .any, .any, .any, .any, .any, .any, .any, .any, .any, .any, .any, .any, .any, .any, .any, .any, .any, .any, .any, .any, .any, .any, .any, .any, .any, .any, .any, .any, .any, .any, .any, .any, .any, .any, .any, .any]
abbrev i_z20z_0 : List It := [.lp wl_z20z_0 c_z20z_l0, .blk 0 wb_z20z_0]
def c_z20z_k0 : Cd := (.seq (.reg [⟨some 2, none, .mv, [.c (.bool true)]⟩]) .ret)
def c_z20z : Cd := (.seq (.reg [⟨some 2, none, .mv, [.c (.bool false)]⟩]) (.seq (.seq (.reg [⟨some 5, none, .mv, [.t 0]⟩, ⟨some 6, none, (.call F_version_one 0), [.t 5]⟩, ⟨some 7, none, .not, [.t 6]⟩, ⟨some 8, none, .mv, [.t 7]⟩, ⟨some 9, (some (8, false)), .mv, [.t 0]⟩, ⟨some 10, (some (8, false)), .len, [.t 9]⟩, ⟨some 11, (some (8, false)), (.bin .gtr), [.t 10, .c (.int .i64 16)]⟩, ⟨some 12, none, .pick, [.t 8, .c (.bool true), .t 11]⟩]) (.cond (.t 12) (.seq (.reg [⟨some 2, none, .mv, [.c (.bool false)]⟩]) .ret) .skip)) (.seq (.seq (.reg [⟨some 13, none, .mv, [.t 0]⟩, ⟨some 14, none, .len, [.t 13]⟩, ⟨some 15, none, .mv, [.c (.int .i64 0)]⟩]) (.blk 0 wb_z20z_0 (.loop wl_z20z_0 c_z20z_l0))) c_z20z_k0)))
theorem comp_z20z : compF Try.prog (mset [] [] []) (cset [] [] []) (wset [(0, wl_z20z_0, wb_z20z_0)] []) Try.f46 = some c_z20z := by kernel_rfl
theorem ok_z20z : fnOk Try.prog F_z20z = true := by kernel_rfl
theorem calls_z20z {args : List AV} {r : AV} (h : RunsX Try.prog 0 (Gives [.t 2] r) [.c c_z20z] (args ++ List.replicate (38 - args.length) (.tup [])) [] zeroC) : PCalls Try.prog F_z20z args r :=
  pcallsF Try.checked.mixed Try.func46 ok_z20z comp_z20z rfl (rs := [.t 2]) (by kernel_rfl) h
theorem hcalls_z20z {args : List AV} {Hin Hout : Heap} {nx nx2 : Ctr} {r : AV} (φ : Nat) (ks : List (Nat × Nat)) (h : RunsX Try.prog φ (GivesH ks [.t 2] r Hout nx2) [.c c_z20z] (args ++ List.replicate (38 - args.length) (.tup [])) Hin nx) : HCalls Try.prog F_z20z args Hin nx r Hout nx2 :=
  hcallsF Try.checked.mixed Try.func46 ok_z20z comp_z20z rfl (rs := [.t 2]) (by kernel_rfl) φ ks h

/-- slices.EqualFunc[[]pedlar/api.Version,[]pedlar/api.Version,pedlar/api.Version,pedlar/api.Version]: parameters [78, 78, 171], results [.t 6], calls  -/
def wl_z14z_0 : Mk := ⟨[true, false, false, true, true, true, true, true, true, true, true, true, true, true, true, false, false, false, true, true, true, true, true, true, true, true, true, true, true, true, true, true], [8, 9]⟩
abbrev s_z14z_0 (t1 t2 t15 t16 t17 : AV) : List AV := [.any, t1, t2, .any, .any, .any, .any, .any, .any, .any, .any, .any, .any, .any, .any, t15, t16, t17, .any, .any, .any, .any, .any, .any, .any, .any, .any, .any, .any, .any, .any, .any]
def c_z14z_l0 : Cd := (.seq (.reg [⟨some 18, none, (.bin .lss), [.t 17, .t 16]⟩]) (.seq (.cond (.t 18) .skip (.exit 0)) (.seq (.blk 1 [] (.seq (.reg [⟨some 19, none, .mv, [.t 17]⟩, ⟨some 20, none, (.ixS 7), [.t 15, .t 17]⟩, ⟨some 21, none, (.ldn 7), [.t 20]⟩, ⟨some 8, none, (.new [(.int .i64 0), (.int .i64 0), (.str ⟨#[]⟩), (.str ⟨#[]⟩), (.bool false), (.int .i64 0), .nils] 8), []⟩, ⟨some 7, none, .mv, [.t 19]⟩, ⟨none, none, (.st 7), [.t 8, .t 21]⟩]) (.seq (.reg [⟨some 22, none, .mv, [.t 1]⟩, ⟨some 23, none, .mv, [.t 7]⟩, ⟨some 24, none, (.ixS 7), [.t 22, .t 23]⟩, ⟨some 25, none, (.ldn 7), [.t 24]⟩, ⟨some 9, none, (.new [(.int .i64 0), (.int .i64 0), (.str ⟨#[]⟩), (.str ⟨#[]⟩), (.bool false), (.int .i64 0), .nils] 9), []⟩, ⟨none, none, (.st 7), [.t 9, .t 25]⟩]) (.seq (.reg [⟨some 26, none, .mv, [.t 2]⟩, ⟨some 27, none, (.ldn 7), [.t 8]⟩, ⟨some 28, none, (.ldn 7), [.t 9]⟩, ⟨some 29, none, (.callv 0), [.t 26, .t 27, .t 28]⟩, ⟨some 30, none, .not, [.t 29]⟩]) (.cond (.t 30) (.seq (.reg [⟨some 6, none, .mv, [.c (.bool false)]⟩]) .ret) .skip))))) (.reg [⟨some 31, none, (.bin .add), [.t 17, .c (.int .i64 1)]⟩, ⟨some 17, none, .mv, [.t 31]⟩]))))
def wb_z14z_0 : List Bool := [true, true, true, true, true, true, true, true, true, true, true, true, true, true, true, true, true, true, true, true, true, true, true, true, true, true, true, true, true, true, true, true]
abbrev e_z14z_0 : List AV := [.any, .any, .any, .any, .any, .any, .any, .any, .any, .any, .any, .any, .any, .any, .any, .any, .any, .any, .any, .any, .any, .any, .any, .any, .any, .any, .any, .any, .any, .any, .any, .any]
abbrev i_z14z_0 : List It := [.lp wl_z14z_0 c_z14z_l0, .blk 0 wb_z14z_0]
def c_z14z_k0 : Cd := (.seq (.reg [⟨some 6, none, .mv, [.c (.bool true)]⟩]) .ret)
def c_z14z : Cd := (.seq (.reg [⟨some 6, none, .mv, [.c (.bool false)]⟩]) (.seq (.seq (.reg [⟨some 10, none, .mv, [.t 0]⟩, ⟨some 11, none, .len, [.t 10]⟩, ⟨some 12, none, .mv, [.t 1]⟩, ⟨some 13, none, .len, [.t 12]⟩, ⟨some 14, none, (.bin .neq), [.t 11, .t 13]⟩]) (.cond (.t 14) (.seq (.reg [⟨some 6, none, .mv, [.c (.bool false)]⟩]) .ret) .skip)) (.seq (.seq (.reg [⟨some 15, none, .mv, [.t 0]⟩, ⟨some 16, none, .len, [.t 15]⟩, ⟨some 17, none, .mv, [.c (.int .i64 0)]⟩]) (.blk 0 wb_z14z_0 (.loop wl_z14z_0 c_z14z_l0))) c_z14z_k0)))
theorem comp_z14z : compF Try.prog (mset [] [] []) (cset [] [] []) (wset [(0, wl_z14z_0, wb_z14z_0)] []) Try.f111 = some c_z14z := by kernel_rfl
theorem ok_z14z : fnOk Try.prog F_z14z = true := by kernel_rfl
theorem calls_z14z {args : List AV} {r : AV} (h : RunsX Try.prog 0 (Gives [.t 6] r) [.c c_z14z] (args ++ List.replicate (32 - args.length) (.tup [])) [] zeroC) : PCalls Try.prog F_z14z args r :=
  pcallsF Try.checked.mixed Try.func111 ok_z14z comp_z14z rfl (rs := [.t 6]) (by kernel_rfl) h
theorem hcalls_z14z {args : List AV} {Hin Hout : Heap} {nx nx2 : Ctr} {r : AV} (φ : Nat) (ks : List (Nat × Nat)) (h : RunsX Try.prog φ (GivesH ks [.t 6] r Hout nx2) [.c c_z14z] (args ++ List.replicate (32 - args.length) (.tup [])) Hin nx) : HCalls Try.prog F_z14z args Hin nx r Hout nx2 :=
  hcallsF Try.checked.mixed Try.func111 ok_z14z comp_z14z rfl (rs := [.t 6]) (by kernel_rfl) φ ks h

/-- pedlar/version.SameAll: parameters [78, 78], results [.t 4], calls slices_EqualFunc_api_Version -/
def c_version_SameAll : Cd := (.seq (.reg [⟨some 4, none, .mv, [.c (.bool false)]⟩]) (.seq (.reg [⟨some 5, none, .mv, [.t 0]⟩, ⟨some 6, none, .mv, [.t 1]⟩, ⟨some 7, none, (.call F_z14z 0), [.t 5, .t 6, .c (.func 112 [])]⟩, ⟨some 4, none, .mv, [.t 7]⟩]) .ret))
theorem comp_version_SameAll : compF Try.prog (mset [] [] []) (cset [] [] []) (wset [] []) Try.f44 = some c_version_SameAll := by kernel_rfl
theorem ok_version_SameAll : fnOk Try.prog F_version_SameAll = true := by kernel_rfl
theorem calls_version_SameAll {args : List AV} {r : AV} (h : RunsX Try.prog 0 (Gives [.t 4] r) [.c c_version_SameAll] (args ++ List.replicate (8 - args.length) (.tup [])) [] zeroC) : PCalls Try.prog F_version_SameAll args r :=
  pcallsF Try.checked.mixed Try.func44 ok_version_SameAll comp_version_SameAll rfl (rs := [.t 4]) (by kernel_rfl) h
theorem hcalls_version_SameAll {args : List AV} {Hin Hout : Heap} {nx nx2 : Ctr} {r : AV} (φ : Nat) (ks : List (Nat × Nat)) (h : RunsX Try.prog φ (GivesH ks [.t 4] r Hout nx2) [.c c_version_SameAll] (args ++ List.replicate (8 - args.length) (.tup [])) Hin nx) : HCalls Try.prog F_version_SameAll args Hin nx r Hout nx2 :=
  hcallsF Try.checked.mixed Try.func44 ok_version_SameAll comp_version_SameAll rfl (rs := [.t 4]) (by kernel_rfl) φ ks h

/-- cmp.isNaN[int]: parameters [3], results [.t 2], calls  -/
def c_cmp_isNaN_int : Cd := (.seq (.reg [⟨some 2, none, .mv, [.c (.bool false)]⟩]) (.seq (.reg [⟨some 3, none, .mv, [.t 0]⟩, ⟨some 4, none, .mv, [.t 0]⟩, ⟨some 5, none, (.bin .neq), [.t 3, .t 4]⟩, ⟨some 2, none, .mv, [.t 5]⟩]) .ret))
theorem comp_cmp_isNaN_int : compF Try.prog (mset [] [] []) (cset [] [] []) (wset [] []) Try.f220 = some c_cmp_isNaN_int := by kernel_rfl
theorem ok_cmp_isNaN_int : fnOk Try.prog F_cmp_isNaN_int = true := by kernel_rfl
theorem calls_cmp_isNaN_int {args : List AV} {r : AV} (h : RunsX Try.prog 0 (Gives [.t 2] r) [.c c_cmp_isNaN_int] (args ++ List.replicate (6 - args.length) (.tup [])) [] zeroC) : PCalls Try.prog F_cmp_isNaN_int args r :=
  pcallsF Try.checked.mixed Try.func220 ok_cmp_isNaN_int comp_cmp_isNaN_int rfl (rs := [.t 2]) (by kernel_rfl) h
theorem hcalls_cmp_isNaN_int {args : List AV} {Hin Hout : Heap} {nx nx2 : Ctr} {r : AV} (φ : Nat) (ks : List (Nat × Nat)) (h : RunsX Try.prog φ (GivesH ks [.t 2] r Hout nx2) [.c c_cmp_isNaN_int] (args ++ List.replicate (6 - args.length) (.tup [])) Hin nx) : HCalls Try.prog F_cmp_isNaN_int args Hin nx r Hout nx2 :=
  hcallsF Try.checked.mixed Try.func220 ok_cmp_isNaN_int comp_cmp_isNaN_int rfl (rs := [.t 2]) (by kernel_rfl) φ ks h

/-- cmp.isNaN[int64]: parameters [2], results [.t 2], calls  -/
def c_cmp_isNaN_int64 : Cd := (.seq (.reg [⟨some 2, none, .mv, [.c (.bool false)]⟩]) (.seq (.reg [⟨some 3, none, .mv, [.t 0]⟩, ⟨some 4, none, .mv, [.t 0]⟩, ⟨some 5, none, (.bin .neq), [.t 3, .t 4]⟩, ⟨some 2, none, .mv, [.t 5]⟩]) .ret))
theorem comp_cmp_isNaN_int64 : compF Try.prog (mset [] [] []) (cset [] [] []) (wset [] []) Try.f221 = some c_cmp_isNaN_int64 := by kernel_rfl
theorem ok_cmp_isNaN_int64 : fnOk Try.prog F_cmp_isNaN_int64 = true := by kernel_rfl
theorem calls_cmp_isNaN_int64 {args : List AV} {r : AV} (h : RunsX Try.prog 0 (Gives [.t 2] r) [.c c_cmp_isNaN_int64] (args ++ List.replicate (6 - args.length) (.tup [])) [] zeroC) : PCalls Try.prog F_cmp_isNaN_int64 args r :=
  pcallsF Try.checked.mixed Try.func221 ok_cmp_isNaN_int64 comp_cmp_isNaN_int64 rfl (rs := [.t 2]) (by kernel_rfl) h
theorem hcalls_cmp_isNaN_int64 {args : List AV} {Hin Hout : Heap} {nx nx2 : Ctr} {r : AV} (φ : Nat) (ks : List (Nat × Nat)) (h : RunsX Try.prog φ (GivesH ks [.t 2] r Hout nx2) [.c c_cmp_isNaN_int64] (args ++ List.replicate (6 - args.length) (.tup [])) Hin nx) : HCalls Try.prog F_cmp_isNaN_int64 args Hin nx r Hout nx2 :=
  hcallsF Try.checked.mixed Try.func221 ok_cmp_isNaN_int64 comp_cmp_isNaN_int64 rfl (rs := [.t 2]) (by kernel_rfl) φ ks h

/-- cmp.Compare[int]: parameters [3, 3], results [.t 4], calls cmp_isNaN_int -/
def c_cmp_Compare_int : Cd := (.seq (.reg [⟨some 4, none, .mv, [.c (.int .i64 0)]⟩]) (.seq (.reg [⟨some 7, none, .mv, [.t 0]⟩, ⟨some 8, none, (.call F_cmp_isNaN_int 0), [.t 7]⟩, ⟨some 5, none, .mv, [.t 8]⟩]) (.seq (.reg [⟨some 9, none, .mv, [.t 1]⟩, ⟨some 10, none, (.call F_cmp_isNaN_int 0), [.t 9]⟩, ⟨some 6, none, .mv, [.t 10]⟩]) (.seq (.seq (.reg [⟨some 11, none, .mv, [.t 5]⟩]) (.cond (.t 11) (.seq (.seq (.reg [⟨some 12, none, .mv, [.t 6]⟩]) (.cond (.t 12) (.seq (.reg [⟨some 4, none, .mv, [.c (.int .i64 0)]⟩]) .ret) .skip)) (.seq (.reg [⟨some 4, none, .mv, [.c (.int .i64 (-1))]⟩]) .ret)) .skip)) (.seq (.seq (.reg [⟨some 13, none, .mv, [.t 6]⟩]) (.cond (.t 13) (.seq (.reg [⟨some 4, none, .mv, [.c (.int .i64 1)]⟩]) .ret) .skip)) (.seq (.seq (.reg [⟨some 14, none, .mv, [.t 0]⟩, ⟨some 15, none, .mv, [.t 1]⟩, ⟨some 16, none, (.bin .lss), [.t 14, .t 15]⟩]) (.cond (.t 16) (.seq (.reg [⟨some 4, none, .mv, [.c (.int .i64 (-1))]⟩]) .ret) .skip)) (.seq (.seq (.reg [⟨some 17, none, .mv, [.t 0]⟩, ⟨some 18, none, .mv, [.t 1]⟩, ⟨some 19, none, (.bin .gtr), [.t 17, .t 18]⟩]) (.cond (.t 19) (.seq (.reg [⟨some 4, none, .mv, [.c (.int .i64 1)]⟩]) .ret) .skip)) (.seq (.reg [⟨some 4, none, .mv, [.c (.int .i64 0)]⟩]) .ret))))))))
theorem comp_cmp_Compare_int : compF Try.prog (mset [] [] []) (cset [] [] []) (wset [] []) Try.f174 = some c_cmp_Compare_int := by kernel_rfl
theorem ok_cmp_Compare_int : fnOk Try.prog F_cmp_Compare_int = true := by kernel_rfl
theorem calls_cmp_Compare_int {args : List AV} {r : AV} (h : RunsX Try.prog 0 (Gives [.t 4] r) [.c c_cmp_Compare_int] (args ++ List.replicate (20 - args.length) (.tup [])) [] zeroC) : PCalls Try.prog F_cmp_Compare_int args r :=
  pcallsF Try.checked.mixed Try.func174 ok_cmp_Compare_int comp_cmp_Compare_int rfl (rs := [.t 4]) (by kernel_rfl) h
theorem hcalls_cmp_Compare_int {args : List AV} {Hin Hout : Heap} {nx nx2 : Ctr} {r : AV} (φ : Nat) (ks : List (Nat × Nat)) (h : RunsX Try.prog φ (GivesH ks [.t 4] r Hout nx2) [.c c_cmp_Compare_int] (args ++ List.replicate (20 - args.length) (.tup [])) Hin nx) : HCalls Try.prog F_cmp_Compare_int args Hin nx r Hout nx2 :=
  hcallsF Try.checked.mixed Try.func174 ok_cmp_Compare_int comp_cmp_Compare_int rfl (rs := [.t 4]) (by kernel_rfl) φ ks h

/-- cmp.Compare[int64]: parameters [2, 2], results [.t 4], calls cmp_isNaN_int64 -/
def c_z19z : Cd := (.seq (.reg [⟨some 4, none, .mv, [.c (.int .i64 0)]⟩]) (.seq (.reg [⟨some 7, none, .mv, [.t 0]⟩, ⟨some 8, none, (.call F_cmp_isNaN_int64 0), [.t 7]⟩, ⟨some 5, none, .mv, [.t 8]⟩]) (.seq (.reg [⟨some 9, none, .mv, [.t 1]⟩, ⟨some 10, none, (.call F_cmp_isNaN_int64 0), [.t 9]⟩, ⟨some 6, none, .mv, [.t 10]⟩]) (.seq (.seq (.reg [⟨some 11, none, .mv, [.t 5]⟩]) (.cond (.t 11) (.seq (.seq (.reg [⟨some 12, none, .mv, [.t 6]⟩]) (.cond (.t 12) (.seq (.reg [⟨some 4, none, .mv, [.c (.int .i64 0)]⟩]) .ret) .skip)) (.seq (.reg [⟨some 4, none, .mv, [.c (.int .i64 (-1))]⟩]) .ret)) .skip)) (.seq (.seq (.reg [⟨some 13, none, .mv, [.t 6]⟩]) (.cond (.t 13) (.seq (.reg [⟨some 4, none, .mv, [.c (.int .i64 1)]⟩]) .ret) .skip)) (.seq (.seq (.reg [⟨some 14, none, .mv, [.t 0]⟩, ⟨some 15, none, .mv, [.t 1]⟩, ⟨some 16, none, (.bin .lss), [.t 14, .t 15]⟩]) (.cond (.t 16) (.seq (.reg [⟨some 4, none, .mv, [.c (.int .i64 (-1))]⟩]) .ret) .skip)) (.seq (.seq (.reg [⟨some 17, none, .mv, [.t 0]⟩, ⟨some 18, none, .mv, [.t 1]⟩, ⟨some 19, none, (.bin .gtr), [.t 17, .t 18]⟩]) (.cond (.t 19) (.seq (.reg [⟨some 4, none, .mv, [.c (.int .i64 1)]⟩]) .ret) .skip)) (.seq (.reg [⟨some 4, none, .mv, [.c (.int .i64 0)]⟩]) .ret))))))))
theorem comp_z19z : compF Try.prog (mset [] [] []) (cset [] [] []) (wset [] []) Try.f175 = some c_z19z := by kernel_rfl
theorem ok_z19z : fnOk Try.prog F_z19z = true := by kernel_rfl
theorem calls_z19z {args : List AV} {r : AV} (h : RunsX Try.prog 0 (Gives [.t 4] r) [.c c_z19z] (args ++ List.replicate (20 - args.length) (.tup [])) [] zeroC) : PCalls Try.prog F_z19z args r :=
  pcallsF Try.checked.mixed Try.func175 ok_z19z comp_z19z rfl (rs := [.t 4]) (by kernel_rfl) h
theorem hcalls_z19z {args : List AV} {Hin Hout : Heap} {nx nx2 : Ctr} {r : AV} (φ : Nat) (ks : List (Nat × Nat)) (h : RunsX Try.prog φ (GivesH ks [.t 4] r Hout nx2) [.c c_z19z] (args ++ List.replicate (20 - args.length) (.tup [])) Hin nx) : HCalls Try.prog F_z19z args Hin nx r Hout nx2 :=
  hcallsF Try.checked.mixed Try.func175 ok_z19z comp_z19z rfl (rs := [.t 4]) (by kernel_rfl) φ ks h

/-- cmp.Or[int]: parameters [40], results [.t 2], calls  -/
def wl_z33z_0 : Mk := ⟨[true, true, true, false, true, true, false, false, false, true, true, true, true, true, true, true, true, true], []⟩
abbrev s_z33z_0 (t3 t6 t7 t8 : AV) : List AV := [.any, .any, .any, t3, .any, .any, t6, t7, t8, .any, .any, .any, .any, .any, .any, .any, .any, .any]
def c_z33z_l0 : Cd := (.seq (.reg [⟨some 9, none, (.bin .lss), [.t 8, .t 7]⟩]) (.seq (.cond (.t 9) .skip (.exit 0)) (.seq (.blk 1 [] (.seq (.reg [⟨some 10, none, (.ixS 1), [.t 6, .t 8]⟩, ⟨some 11, none, .ld1, [.t 10]⟩, ⟨some 5, none, .mv, [.t 11]⟩]) (.seq (.reg [⟨some 12, none, .mv, [.t 5]⟩, ⟨some 13, none, .mv, [.t 3]⟩, ⟨some 14, none, (.bin .neq), [.t 12, .t 13]⟩]) (.cond (.t 14) (.seq (.reg [⟨some 15, none, .mv, [.t 5]⟩, ⟨some 2, none, .mv, [.t 15]⟩]) .ret) .skip)))) (.reg [⟨some 16, none, (.bin .add), [.t 8, .c (.int .i64 1)]⟩, ⟨some 8, none, .mv, [.t 16]⟩]))))
def wb_z33z_0 : List Bool := [true, true, true, false, true, true, true, true, true, true, true, true, true, true, true, true, true, true]
abbrev e_z33z_0 (t3 : AV) : List AV := [.any, .any, .any, t3, .any, .any, .any, .any, .any, .any, .any, .any, .any, .any, .any, .any, .any, .any]
abbrev i_z33z_0 : List It := [.lp wl_z33z_0 c_z33z_l0, .blk 0 wb_z33z_0]
def c_z33z_k0 : Cd := (.seq (.reg [⟨some 17, none, .mv, [.t 3]⟩, ⟨some 2, none, .mv, [.t 17]⟩]) .ret)
def c_z33z : Cd := (.seq (.reg [⟨some 2, none, .mv, [.c (.int .i64 0)]⟩]) (.seq (.reg [⟨some 3, none, .mv, [.c (.int .i64 0)]⟩]) (.seq (.seq (.reg [⟨some 6, none, .mv, [.t 0]⟩, ⟨some 7, none, .len, [.t 6]⟩, ⟨some 8, none, .mv, [.c (.int .i64 0)]⟩]) (.blk 0 wb_z33z_0 (.loop wl_z33z_0 c_z33z_l0))) c_z33z_k0)))
theorem comp_z33z : compF Try.prog (mset [] [] []) (cset [] [] []) (wset [(0, wl_z33z_0, wb_z33z_0)] []) Try.f173 = some c_z33z := by kernel_rfl
theorem ok_z33z : fnOk Try.prog F_z33z = true := by kernel_rfl
theorem calls_z33z {args : List AV} {r : AV} (h : RunsX Try.prog 0 (Gives [.t 2] r) [.c c_z33z] (args ++ List.replicate (18 - args.length) (.tup [])) [] zeroC) : PCalls Try.prog F_z33z args r :=
  pcallsF Try.checked.mixed Try.func173 ok_z33z comp_z33z rfl (rs := [.t 2]) (by kernel_rfl) h
theorem hcalls_z33z {args : List AV} {Hin Hout : Heap} {nx nx2 : Ctr} {r : AV} (φ : Nat) (ks : List (Nat × Nat)) (h : RunsX Try.prog φ (GivesH ks [.t 2] r Hout nx2) [.c c_z33z] (args ++ List.replicate (18 - args.length) (.tup [])) Hin nx) : HCalls Try.prog F_z33z args Hin nx r Hout nx2 :=
  hcallsF Try.checked.mixed Try.func173 ok_z33z comp_z33z rfl (rs := [.t 2]) (by kernel_rfl) φ ks h

def tab_CdMerge : List (Nat × Cd × Nat × List RS) := [(F_version_order, c_version_order, 17, [.t 4]), (F_version_named, c_version_named, 9, [.t 4]), (F_version_one_1, c_version_one_1, 16, [.t 3]), (F_version_one, c_version_one, 7, [.t 2]), (F_z22z_1, c_z22z_1, 7, [.t 3]), (F_z22z_2, c_z22z_2, 7, [.t 3]), (F_z22z, c_z22z, 40, [.t 2, .t 3]), (F_z20z_1, c_z20z_1, 7, [.t 3]), (F_z20z, c_z20z, 38, [.t 2]), (F_z14z, c_z14z, 32, [.t 6]), (F_version_SameAll, c_version_SameAll, 8, [.t 4]), (F_cmp_isNaN_int, c_cmp_isNaN_int, 6, [.t 2]), (F_cmp_isNaN_int64, c_cmp_isNaN_int64, 6, [.t 2]), (F_cmp_Compare_int, c_cmp_Compare_int, 20, [.t 4]), (F_z19z, c_z19z, 20, [.t 4]), (F_z33z, c_z33z, 18, [.t 2])]
theorem tok_CdMerge : TabOk Try.prog (tabOf tab_CdMerge) := tab_cons calls_version_order hcalls_version_order (tab_cons calls_version_named hcalls_version_named (tab_cons calls_version_one_1 hcalls_version_one_1 (tab_cons calls_version_one hcalls_version_one (tab_cons calls_z22z_1 hcalls_z22z_1 (tab_cons calls_z22z_2 hcalls_z22z_2 (tab_cons calls_z22z hcalls_z22z (tab_cons calls_z20z_1 hcalls_z20z_1 (tab_cons calls_z20z hcalls_z20z (tab_cons calls_z14z hcalls_z14z (tab_cons calls_version_SameAll hcalls_version_SameAll (tab_cons calls_cmp_isNaN_int hcalls_cmp_isNaN_int (tab_cons calls_cmp_isNaN_int64 hcalls_cmp_isNaN_int64 (tab_cons calls_cmp_Compare_int hcalls_cmp_Compare_int (tab_cons calls_z19z hcalls_z19z (tab_cons calls_z33z hcalls_z33z (tab_nil))))))))))))))))
end Go.Proofs.Ytmokhopjnjecbac
/- The functions' bodies, compiled; printed by a program of mine (gen.py); that they are is checked here. -/
namespace Go.Proofs.Ytmokhopjnjecbac
open Go.Ev
set_option maxRecDepth 100000

/-- slices.IndexFunc[[]pedlar/api.Version,pedlar/api.Version]: parameters [78, 168], results [.t 4], calls  -/
def wl_z15z_0 : Mk := ⟨[false, false, true, true, true, true, true, false, false, true, true, true, true, true, true, true, true, true, true], []⟩
abbrev s_z15z_0 (t0 t1 t7 t8 : AV) : List AV := [t0, t1, .any, .any, .any, .any, .any, t7, t8, .any, .any, .any, .any, .any, .any, .any, .any, .any, .any]
def c_z15z_l0 : Cd := (.seq (.reg [⟨some 9, none, (.bin .lss), [.t 8, .t 7]⟩]) (.seq (.cond (.t 9) .skip (.exit 0)) (.seq (.blk 1 [] (.seq (.reg [⟨some 10, none, .mv, [.t 8]⟩, ⟨some 5, none, .mv, [.t 10]⟩]) (.seq (.reg [⟨some 11, none, .mv, [.t 1]⟩, ⟨some 12, none, .mv, [.t 0]⟩, ⟨some 13, none, .mv, [.t 5]⟩, ⟨some 14, none, (.ixS 7), [.t 12, .t 13]⟩, ⟨some 15, none, (.ldn 7), [.t 14]⟩, ⟨some 16, none, (.callv 0), [.t 11, .t 15]⟩]) (.cond (.t 16) (.seq (.reg [⟨some 17, none, .mv, [.t 5]⟩, ⟨some 4, none, .mv, [.t 17]⟩]) .ret) .skip)))) (.reg [⟨some 18, none, (.bin .add), [.t 8, .c (.int .i64 1)]⟩, ⟨some 8, none, .mv, [.t 18]⟩]))))
def wb_z15z_0 : List Bool := [true, true, true, true, true, true, true, true, true, true, true, true, true, true, true, true, true, true, true]
abbrev e_z15z_0 : List AV := [.any, .any, .any, .any, .any, .any, .any, .any, .any, .any, .any, .any, .any, .any, .any, .any, .any, .any, .any]
abbrev i_z15z_0 : List It := [.lp wl_z15z_0 c_z15z_l0, .blk 0 wb_z15z_0]
def c_z15z_k0 : Cd := (.seq (.reg [⟨some 4, none, .mv, [.c (.int .i64 (-1))]⟩]) .ret)
def c_z15z : Cd := (.seq (.reg [⟨some 4, none, .mv, [.c (.int .i64 0)]⟩]) (.seq (.seq (.reg [⟨some 6, none, .mv, [.t 0]⟩, ⟨some 7, none, .len, [.t 6]⟩, ⟨some 8, none, .mv, [.c (.int .i64 0)]⟩]) (.blk 0 wb_z15z_0 (.loop wl_z15z_0 c_z15z_l0))) c_z15z_k0))
theorem comp_z15z : compF Try.prog (mset [] [] []) (cset [] [] []) (wset [(0, wl_z15z_0, wb_z15z_0)] []) Try.f170 = some c_z15z := by kernel_rfl
theorem ok_z15z : fnOk Try.prog F_z15z = true := by kernel_rfl
theorem calls_z15z {args : List AV} {r : AV} (h : RunsX Try.prog 0 (Gives [.t 4] r) [.c c_z15z] (args ++ List.replicate (19 - args.length) (.tup [])) [] zeroC) : PCalls Try.prog F_z15z args r :=
  pcallsF Try.checked.mixed Try.func170 ok_z15z comp_z15z rfl (rs := [.t 4]) (by kernel_rfl) h
theorem hcalls_z15z {args : List AV} {Hin Hout : Heap} {nx nx2 : Ctr} {r : AV} (φ : Nat) (ks : List (Nat × Nat)) (h : RunsX Try.prog φ (GivesH ks [.t 4] r Hout nx2) [.c c_z15z] (args ++ List.replicate (19 - args.length) (.tup [])) Hin nx) : HCalls Try.prog F_z15z args Hin nx r Hout nx2 :=
  hcallsF Try.checked.mixed Try.func170 ok_z15z comp_z15z rfl (rs := [.t 4]) (by kernel_rfl) φ ks h

/-- slices.ContainsFunc[[]pedlar/api.Version,pedlar/api.Version]: parameters [78, 168], results [.t 4], calls slices_IndexFunc_api_Version -/
def c_z13z : Cd := (.seq (.reg [⟨some 4, none, .mv, [.c (.bool false)]⟩]) (.seq (.reg [⟨some 5, none, .mv, [.t 0]⟩, ⟨some 6, none, .mv, [.t 1]⟩, ⟨some 7, none, (.call F_z15z 0), [.t 5, .t 6]⟩, ⟨some 8, none, (.bin .geq), [.t 7, .c (.int .i64 0)]⟩, ⟨some 4, none, .mv, [.t 8]⟩]) .ret))
theorem comp_z13z : compF Try.prog (mset [] [] []) (cset [] [] []) (wset [] []) Try.f103 = some c_z13z := by kernel_rfl
theorem ok_z13z : fnOk Try.prog F_z13z = true := by kernel_rfl
theorem calls_z13z {args : List AV} {r : AV} (h : RunsX Try.prog 0 (Gives [.t 4] r) [.c c_z13z] (args ++ List.replicate (9 - args.length) (.tup [])) [] zeroC) : PCalls Try.prog F_z13z args r :=
  pcallsF Try.checked.mixed Try.func103 ok_z13z comp_z13z rfl (rs := [.t 4]) (by kernel_rfl) h
theorem hcalls_z13z {args : List AV} {Hin Hout : Heap} {nx nx2 : Ctr} {r : AV} (φ : Nat) (ks : List (Nat × Nat)) (h : RunsX Try.prog φ (GivesH ks [.t 4] r Hout nx2) [.c c_z13z] (args ++ List.replicate (9 - args.length) (.tup [])) Hin nx) : HCalls Try.prog F_z13z args Hin nx r Hout nx2 :=
  hcallsF Try.checked.mixed Try.func103 ok_z13z comp_z13z rfl (rs := [.t 4]) (by kernel_rfl) φ ks h

def tab_CdIdx : List (Nat × Cd × Nat × List RS) := [(F_z15z, c_z15z, 19, [.t 4]), (F_z13z, c_z13z, 9, [.t 4])]
theorem tok_CdIdx : TabOk Try.prog (tabOf tab_CdIdx) := tab_cons calls_z15z hcalls_z15z (tab_cons calls_z13z hcalls_z13z (tab_nil))
end Go.Proofs.Ytmokhopjnjecbac
/- The functions' bodies, compiled; printed by a program of mine (gen.py); that they are is checked here. -/
namespace Go.Proofs.Ytmokhopjnjecbac
open Go.Ev
set_option maxRecDepth 100000

/-- pedlar/version.Right: parameters [95], results [.t 2], calls event_Right, event_Same -/
def c_z23z : Cd := (.seq (.reg [⟨some 1, none, .box, [.t 0]⟩, ⟨some 2, none, .mv, [.c (.bool false)]⟩]) (.seq (.seq (.reg [⟨some 3, none, (.fa 0), [.t 1]⟩, ⟨some 4, none, .ld1, [.t 3]⟩, ⟨some 5, none, (.bin .lss), [.t 4, .c (.int .i64 0)]⟩, ⟨some 6, none, .mv, [.t 5]⟩, ⟨some 7, (some (6, false)), (.fa 0), [.t 1]⟩, ⟨some 8, (some (6, false)), .ld1, [.t 7]⟩, ⟨some 9, (some (6, false)), (.bin .geq), [.t 8, .c (.int .i64 1048576)]⟩, ⟨some 10, none, .pick, [.t 6, .c (.bool true), .t 9]⟩, ⟨some 11, none, .mv, [.t 10]⟩, ⟨some 12, (some (11, false)), (.fa 1), [.t 1]⟩, ⟨some 13, (some (11, false)), .ld1, [.t 12]⟩, ⟨some 14, (some (11, false)), (.bin .lss), [.t 13, .c (.int .i64 1)]⟩, ⟨some 15, none, .pick, [.t 11, .c (.bool true), .t 14]⟩, ⟨some 16, none, .mv, [.t 15]⟩, ⟨some 17, (some (16, false)), (.fa 1), [.t 1]⟩, ⟨some 18, (some (16, false)), .ld1, [.t 17]⟩, ⟨some 19, (some (16, false)), (.bin .gtr), [.t 18, .c (.int .i64 1099511627776)]⟩, ⟨some 20, none, .pick, [.t 16, .c (.bool true), .t 19]⟩]) (.cond (.t 20) (.seq (.reg [⟨some 2, none, .mv, [.c (.bool false)]⟩]) .ret) .skip)) (.seq (.seq (.reg [⟨some 21, none, (.fa 2), [.t 1]⟩, ⟨some 22, none, .ld1, [.t 21]⟩, ⟨some 23, none, .lenT, [.t 22]⟩, ⟨some 24, none, (.bin .lss), [.t 23, .c (.int .i64 1)]⟩, ⟨some 25, none, .mv, [.t 24]⟩, ⟨some 26, (some (25, false)), (.fa 2), [.t 1]⟩, ⟨some 27, (some (25, false)), .ld1, [.t 26]⟩, ⟨some 28, (some (25, false)), .lenT, [.t 27]⟩, ⟨some 29, (some (25, false)), (.bin .gtr), [.t 28, .c (.int .i64 20)]⟩, ⟨some 30, none, .pick, [.t 25, .c (.bool true), .t 29]⟩, ⟨some 31, none, .mv, [.t 30]⟩, ⟨some 32, (some (31, false)), (.fa 3), [.t 1]⟩, ⟨some 33, (some (31, false)), .ld1, [.t 32]⟩, ⟨some 34, (some (31, false)), .lenT, [.t 33]⟩, ⟨some 35, (some (31, false)), (.bin .gtr), [.t 34, .c (.int .i64 100)]⟩, ⟨some 36, none, .pick, [.t 31, .c (.bool true), .t 35]⟩, ⟨some 37, none, .mv, [.t 36]⟩, ⟨some 38, (some (37, false)), (.fa 4), [.t 1]⟩, ⟨some 39, (some (37, false)), .ld1, [.t 38]⟩, ⟨some 40, (some (37, false)), .mv, [.t 39]⟩, ⟨some 41, (some (40, true)), (.fa 3), [.t 1]⟩, ⟨some 42, (some (40, true)), .ld1, [.t 41]⟩, ⟨some 43, (some (40, true)), (.bin .neq), [.t 42, .c (.str ⟨#[]⟩)]⟩, ⟨some 44, (some (37, false)), .pick, [.t 40, .t 43, .c (.bool false)]⟩, ⟨some 45, none, .pick, [.t 37, .c (.bool true), .t 44]⟩]) (.cond (.t 45) (.seq (.reg [⟨some 2, none, .mv, [.c (.bool false)]⟩]) .ret) .skip)) (.seq (.reg [⟨some 46, none, (.fa 5), [.t 1]⟩, ⟨some 47, none, (.ldn 2), [.t 46]⟩, ⟨some 48, none, (.call F_event_Right 0), [.t 47]⟩, ⟨some 49, none, .mv, [.t 48]⟩, ⟨some 50, (some (49, true)), (.fa 5), [.t 1]⟩, ⟨some 51, (some (49, true)), (.ldn 2), [.t 50]⟩, ⟨some 52, (some (49, true)), (.bld [(.int .i64 0), .nils] []), []⟩, ⟨some 53, (some (49, true)), (.call F_event_Same 0), [.t 51, .t 52]⟩, ⟨some 54, (some (49, true)), .not, [.t 53]⟩, ⟨some 55, none, .pick, [.t 49, .t 54, .c (.bool false)]⟩, ⟨some 2, none, .mv, [.t 55]⟩]) .ret))))
theorem comp_z23z : compF Try.prog (mset [] [] []) (cset [] [] []) (wset [] []) Try.f100 = some c_z23z := by kernel_rfl
theorem ok_z23z : fnOk Try.prog F_z23z = true := by kernel_rfl
theorem calls_z23z {args : List AV} {r : AV} (h : RunsX Try.prog 0 (Gives [.t 2] r) [.c c_z23z] (args ++ List.replicate (56 - args.length) (.tup [])) [] zeroC) : PCalls Try.prog F_z23z args r :=
  pcallsF Try.checked.mixed Try.func100 ok_z23z comp_z23z rfl (rs := [.t 2]) (by kernel_rfl) h
theorem hcalls_z23z {args : List AV} {Hin Hout : Heap} {nx nx2 : Ctr} {r : AV} (φ : Nat) (ks : List (Nat × Nat)) (h : RunsX Try.prog φ (GivesH ks [.t 2] r Hout nx2) [.c c_z23z] (args ++ List.replicate (56 - args.length) (.tup [])) Hin nx) : HCalls Try.prog F_z23z args Hin nx r Hout nx2 :=
  hcallsF Try.checked.mixed Try.func100 ok_z23z comp_z23z rfl (rs := [.t 2]) (by kernel_rfl) φ ks h

/-- pedlar/version.behind: parameters [95, 95], results [.t 4], calls event_Leq, event_Same -/
def c_version_behind : Cd := (.seq (.reg [⟨some 2, none, .box, [.t 0]⟩, ⟨some 3, none, .box, [.t 1]⟩, ⟨some 4, none, .mv, [.c (.bool false)]⟩]) (.seq (.reg [⟨some 5, none, (.fa 5), [.t 3]⟩, ⟨some 6, none, (.ldn 2), [.t 5]⟩, ⟨some 7, none, (.fa 5), [.t 2]⟩, ⟨some 8, none, (.ldn 2), [.t 7]⟩, ⟨some 9, none, (.call F_event_Leq 0), [.t 6, .t 8]⟩, ⟨some 10, none, .mv, [.t 9]⟩, ⟨some 11, (some (10, true)), (.fa 5), [.t 2]⟩, ⟨some 12, (some (10, true)), (.ldn 2), [.t 11]⟩, ⟨some 13, (some (10, true)), (.fa 5), [.t 3]⟩, ⟨some 14, (some (10, true)), (.ldn 2), [.t 13]⟩, ⟨some 15, (some (10, true)), (.call F_event_Same 0), [.t 12, .t 14]⟩, ⟨some 16, (some (10, true)), .not, [.t 15]⟩, ⟨some 17, none, .pick, [.t 10, .t 16, .c (.bool false)]⟩, ⟨some 4, none, .mv, [.t 17]⟩]) .ret))
theorem comp_version_behind : compF Try.prog (mset [] [] []) (cset [] [] []) (wset [] []) Try.f107 = some c_version_behind := by kernel_rfl
theorem ok_version_behind : fnOk Try.prog F_version_behind = true := by kernel_rfl
theorem calls_version_behind {args : List AV} {r : AV} (h : RunsX Try.prog 0 (Gives [.t 4] r) [.c c_version_behind] (args ++ List.replicate (18 - args.length) (.tup [])) [] zeroC) : PCalls Try.prog F_version_behind args r :=
  pcallsF Try.checked.mixed Try.func107 ok_version_behind comp_version_behind rfl (rs := [.t 4]) (by kernel_rfl) h
theorem hcalls_version_behind {args : List AV} {Hin Hout : Heap} {nx nx2 : Ctr} {r : AV} (φ : Nat) (ks : List (Nat × Nat)) (h : RunsX Try.prog φ (GivesH ks [.t 4] r Hout nx2) [.c c_version_behind] (args ++ List.replicate (18 - args.length) (.tup [])) Hin nx) : HCalls Try.prog F_version_behind args Hin nx r Hout nx2 :=
  hcallsF Try.checked.mixed Try.func107 ok_version_behind comp_version_behind rfl (rs := [.t 4]) (by kernel_rfl) φ ks h

/-- pedlar/version.Same: parameters [95, 95], results [.t 4], calls event_Same -/
def c_version_Same : Cd := (.seq (.reg [⟨some 2, none, .box, [.t 0]⟩, ⟨some 3, none, .box, [.t 1]⟩, ⟨some 4, none, .mv, [.c (.bool false)]⟩]) (.seq (.reg [⟨some 5, none, (.fa 0), [.t 2]⟩, ⟨some 6, none, .ld1, [.t 5]⟩, ⟨some 7, none, (.fa 0), [.t 3]⟩, ⟨some 8, none, .ld1, [.t 7]⟩, ⟨some 9, none, (.bin .eql), [.t 6, .t 8]⟩, ⟨some 10, none, .mv, [.t 9]⟩, ⟨some 11, (some (10, true)), (.fa 1), [.t 2]⟩, ⟨some 12, (some (10, true)), .ld1, [.t 11]⟩, ⟨some 13, (some (10, true)), (.fa 1), [.t 3]⟩, ⟨some 14, (some (10, true)), .ld1, [.t 13]⟩, ⟨some 15, (some (10, true)), (.bin .eql), [.t 12, .t 14]⟩, ⟨some 16, none, .pick, [.t 10, .t 15, .c (.bool false)]⟩, ⟨some 17, none, .mv, [.t 16]⟩, ⟨some 18, (some (17, true)), (.fa 2), [.t 2]⟩, ⟨some 19, (some (17, true)), .ld1, [.t 18]⟩, ⟨some 20, (some (17, true)), (.fa 2), [.t 3]⟩, ⟨some 21, (some (17, true)), .ld1, [.t 20]⟩, ⟨some 22, (some (17, true)), (.bin .eql), [.t 19, .t 21]⟩, ⟨some 23, none, .pick, [.t 17, .t 22, .c (.bool false)]⟩, ⟨some 24, none, .mv, [.t 23]⟩, ⟨some 25, (some (24, true)), (.fa 3), [.t 2]⟩, ⟨some 26, (some (24, true)), .ld1, [.t 25]⟩, ⟨some 27, (some (24, true)), (.fa 3), [.t 3]⟩, ⟨some 28, (some (24, true)), .ld1, [.t 27]⟩, ⟨some 29, (some (24, true)), (.bin .eql), [.t 26, .t 28]⟩, ⟨some 30, none, .pick, [.t 24, .t 29, .c (.bool false)]⟩, ⟨some 31, none, .mv, [.t 30]⟩, ⟨some 32, (some (31, true)), (.fa 4), [.t 2]⟩, ⟨some 33, (some (31, true)), .ld1, [.t 32]⟩, ⟨some 34, (some (31, true)), (.fa 4), [.t 3]⟩, ⟨some 35, (some (31, true)), .ld1, [.t 34]⟩, ⟨some 36, (some (31, true)), (.eqb false), [.t 33, .t 35]⟩, ⟨some 37, none, .pick, [.t 31, .t 36, .c (.bool false)]⟩, ⟨some 38, none, .mv, [.t 37]⟩, ⟨some 39, (some (38, true)), (.fa 5), [.t 2]⟩, ⟨some 40, (some (38, true)), (.ldn 2), [.t 39]⟩, ⟨some 41, (some (38, true)), (.fa 5), [.t 3]⟩, ⟨some 42, (some (38, true)), (.ldn 2), [.t 41]⟩, ⟨some 43, (some (38, true)), (.call F_event_Same 0), [.t 40, .t 42]⟩, ⟨some 44, none, .pick, [.t 38, .t 43, .c (.bool false)]⟩, ⟨some 4, none, .mv, [.t 44]⟩]) .ret))
theorem comp_version_Same : compF Try.prog (mset [] [] []) (cset [] [] []) (wset [] []) Try.f112 = some c_version_Same := by kernel_rfl
theorem ok_version_Same : fnOk Try.prog F_version_Same = true := by kernel_rfl
theorem calls_version_Same {args : List AV} {r : AV} (h : RunsX Try.prog 0 (Gives [.t 4] r) [.c c_version_Same] (args ++ List.replicate (45 - args.length) (.tup [])) [] zeroC) : PCalls Try.prog F_version_Same args r :=
  pcallsF Try.checked.mixed Try.func112 ok_version_Same comp_version_Same rfl (rs := [.t 4]) (by kernel_rfl) h
theorem hcalls_version_Same {args : List AV} {Hin Hout : Heap} {nx nx2 : Ctr} {r : AV} (φ : Nat) (ks : List (Nat × Nat)) (h : RunsX Try.prog φ (GivesH ks [.t 4] r Hout nx2) [.c c_version_Same] (args ++ List.replicate (45 - args.length) (.tup [])) Hin nx) : HCalls Try.prog F_version_Same args Hin nx r Hout nx2 :=
  hcallsF Try.checked.mixed Try.func112 ok_version_Same comp_version_Same rfl (rs := [.t 4]) (by kernel_rfl) φ ks h

/-- pedlar/version.Clone: parameters [95], results [.cn 2 7], calls event_Clone -/
def c_version_Clone : Cd := (.seq (.reg [⟨some 1, none, (.boxm 1), [.t 0]⟩, ⟨some 2, none, (.new [(.int .i64 0), (.int .i64 0), (.str ⟨#[]⟩), (.str ⟨#[]⟩), (.bool false), (.int .i64 0), .nils] 2), []⟩]) (.seq (.reg [⟨some 3, none, (.fa 5), [.t 1]⟩, ⟨some 4, none, (.ldn 2), [.t 3]⟩, ⟨some 5, none, (.call F_event_Clone 0), [.t 4]⟩, ⟨some 6, none, (.fa 5), [.t 1]⟩, ⟨none, none, (.st 2), [.t 6, .t 5]⟩]) (.seq (.reg [⟨some 7, none, (.ldn 7), [.t 1]⟩, ⟨none, none, (.st 7), [.t 2, .t 7]⟩]) .ret)))
theorem comp_version_Clone : compF Try.prog (mset [1] [] []) (cset [] [] []) (wset [] []) Try.f108 = some c_version_Clone := by kernel_rfl
theorem ok_version_Clone : fnOk Try.prog F_version_Clone = true := by kernel_rfl
theorem calls_version_Clone {args : List AV} {r : AV} (h : RunsX Try.prog 0 (Gives [.cn 2 7] r) [.c c_version_Clone] (args ++ List.replicate (8 - args.length) (.tup [])) [] zeroC) : PCalls Try.prog F_version_Clone args r :=
  pcallsF Try.checked.mixed Try.func108 ok_version_Clone comp_version_Clone rfl (rs := [.cn 2 7]) (by kernel_rfl) h
theorem hcalls_version_Clone {args : List AV} {Hin Hout : Heap} {nx nx2 : Ctr} {r : AV} (φ : Nat) (ks : List (Nat × Nat)) (h : RunsX Try.prog φ (GivesH ks [.cn 2 7] r Hout nx2) [.c c_version_Clone] (args ++ List.replicate (8 - args.length) (.tup [])) Hin nx) : HCalls Try.prog F_version_Clone args Hin nx r Hout nx2 :=
  hcallsF Try.checked.mixed Try.func108 ok_version_Clone comp_version_Clone rfl (rs := [.cn 2 7]) (by kernel_rfl) φ ks h

/-- pedlar/pedlarref04.VRight: parameters [95], results [.t 2], calls ref04_ERight -/
def c_z25z : Cd := (.seq (.reg [⟨some 1, none, .box, [.t 0]⟩, ⟨some 2, none, .mv, [.c (.bool false)]⟩]) (.seq (.seq (.reg [⟨some 3, none, (.fa 0), [.t 1]⟩, ⟨some 4, none, .ld1, [.t 3]⟩, ⟨some 5, none, (.bin .lss), [.t 4, .c (.int .i64 0)]⟩, ⟨some 6, none, .mv, [.t 5]⟩, ⟨some 7, (some (6, false)), (.fa 0), [.t 1]⟩, ⟨some 8, (some (6, false)), .ld1, [.t 7]⟩, ⟨some 9, (some (6, false)), (.bin .geq), [.t 8, .c (.int .i64 1048576)]⟩, ⟨some 10, none, .pick, [.t 6, .c (.bool true), .t 9]⟩, ⟨some 11, none, .mv, [.t 10]⟩, ⟨some 12, (some (11, false)), (.fa 1), [.t 1]⟩, ⟨some 13, (some (11, false)), .ld1, [.t 12]⟩, ⟨some 14, (some (11, false)), (.bin .lss), [.t 13, .c (.int .i64 1)]⟩, ⟨some 15, none, .pick, [.t 11, .c (.bool true), .t 14]⟩, ⟨some 16, none, .mv, [.t 15]⟩, ⟨some 17, (some (16, false)), (.fa 1), [.t 1]⟩, ⟨some 18, (some (16, false)), .ld1, [.t 17]⟩, ⟨some 19, (some (16, false)), (.bin .gtr), [.t 18, .c (.int .i64 1099511627776)]⟩, ⟨some 20, none, .pick, [.t 16, .c (.bool true), .t 19]⟩, ⟨some 21, none, .mv, [.t 20]⟩, ⟨some 22, (some (21, false)), (.fa 2), [.t 1]⟩, ⟨some 23, (some (21, false)), .ld1, [.t 22]⟩, ⟨some 24, (some (21, false)), .lenT, [.t 23]⟩, ⟨some 25, (some (21, false)), (.bin .lss), [.t 24, .c (.int .i64 1)]⟩, ⟨some 26, none, .pick, [.t 21, .c (.bool true), .t 25]⟩, ⟨some 27, none, .mv, [.t 26]⟩, ⟨some 28, (some (27, false)), (.fa 2), [.t 1]⟩, ⟨some 29, (some (27, false)), .ld1, [.t 28]⟩, ⟨some 30, (some (27, false)), .lenT, [.t 29]⟩, ⟨some 31, (some (27, false)), (.bin .gtr), [.t 30, .c (.int .i64 20)]⟩, ⟨some 32, none, .pick, [.t 27, .c (.bool true), .t 31]⟩, ⟨some 33, none, .mv, [.t 32]⟩, ⟨some 34, (some (33, false)), (.fa 3), [.t 1]⟩, ⟨some 35, (some (33, false)), .ld1, [.t 34]⟩, ⟨some 36, (some (33, false)), .lenT, [.t 35]⟩, ⟨some 37, (some (33, false)), (.bin .gtr), [.t 36, .c (.int .i64 100)]⟩, ⟨some 38, none, .pick, [.t 33, .c (.bool true), .t 37]⟩, ⟨some 39, none, .mv, [.t 38]⟩, ⟨some 40, (some (39, false)), (.fa 4), [.t 1]⟩, ⟨some 41, (some (39, false)), .ld1, [.t 40]⟩, ⟨some 42, (some (39, false)), .mv, [.t 41]⟩, ⟨some 43, (some (42, true)), (.fa 3), [.t 1]⟩, ⟨some 44, (some (42, true)), .ld1, [.t 43]⟩, ⟨some 45, (some (42, true)), .lenT, [.t 44]⟩, ⟨some 46, (some (42, true)), (.bin .gtr), [.t 45, .c (.int .i64 0)]⟩, ⟨some 47, (some (39, false)), .pick, [.t 42, .t 46, .c (.bool false)]⟩, ⟨some 48, none, .pick, [.t 39, .c (.bool true), .t 47]⟩]) (.cond (.t 48) (.seq (.reg [⟨some 2, none, .mv, [.c (.bool false)]⟩]) .ret) .skip)) (.seq (.reg [⟨some 49, none, (.fa 5), [.t 1]⟩, ⟨some 50, none, (.ldn 2), [.t 49]⟩, ⟨some 51, none, (.call F_ref04_ERight 0), [.t 50]⟩, ⟨some 52, none, .mv, [.t 51]⟩, ⟨some 53, (some (52, true)), (.fa 5), [.t 1]⟩, ⟨some 54, (some (52, true)), (.fa 0), [.t 53]⟩, ⟨some 55, (some (52, true)), .ld1, [.t 54]⟩, ⟨some 56, (some (52, true)), (.bin .gtr), [.t 55, .c (.int .i64 0)]⟩, ⟨some 57, (some (52, true)), .mv, [.t 56]⟩, ⟨some 58, (some (57, false)), (.fa 5), [.t 1]⟩, ⟨some 59, (some (57, false)), (.fa 1), [.t 58]⟩, ⟨some 60, (some (57, false)), .ld1, [.t 59]⟩, ⟨some 61, (some (57, false)), .len, [.t 60]⟩, ⟨some 62, (some (57, false)), (.bin .gtr), [.t 61, .c (.int .i64 0)]⟩, ⟨some 63, (some (52, true)), .pick, [.t 57, .c (.bool true), .t 62]⟩, ⟨some 64, none, .pick, [.t 52, .t 63, .c (.bool false)]⟩, ⟨some 2, none, .mv, [.t 64]⟩]) .ret)))
theorem comp_z25z : compF Try.prog (mset [] [] []) (cset [] [] []) (wset [] []) Try.f99 = some c_z25z := by kernel_rfl
theorem ok_z25z : fnOk Try.prog F_z25z = true := by kernel_rfl
theorem calls_z25z {args : List AV} {r : AV} (h : RunsX Try.prog 0 (Gives [.t 2] r) [.c c_z25z] (args ++ List.replicate (65 - args.length) (.tup [])) [] zeroC) : PCalls Try.prog F_z25z args r :=
  pcallsF Try.checked.mixed Try.func99 ok_z25z comp_z25z rfl (rs := [.t 2]) (by kernel_rfl) h
theorem hcalls_z25z {args : List AV} {Hin Hout : Heap} {nx nx2 : Ctr} {r : AV} (φ : Nat) (ks : List (Nat × Nat)) (h : RunsX Try.prog φ (GivesH ks [.t 2] r Hout nx2) [.c c_z25z] (args ++ List.replicate (65 - args.length) (.tup [])) Hin nx) : HCalls Try.prog F_z25z args Hin nx r Hout nx2 :=
  hcallsF Try.checked.mixed Try.func99 ok_z25z comp_z25z rfl (rs := [.t 2]) (by kernel_rfl) φ ks h

/-- pedlar/pedlarref04.VBehind: parameters [95, 95], results [.t 4], calls ref04_ERow, ref04_Leq, ref04_equal -/
def c_ref04_VBehind : Cd := (.seq (.reg [⟨some 2, none, .box, [.t 0]⟩, ⟨some 3, none, .box, [.t 1]⟩, ⟨some 4, none, .mv, [.c (.bool false)]⟩]) (.seq (.reg [⟨some 7, none, (.fa 5), [.t 2]⟩, ⟨some 8, none, (.ldn 2), [.t 7]⟩, ⟨some 9, none, (.call F_z34z 0), [.t 8]⟩, ⟨some 10, none, (.fa 5), [.t 3]⟩, ⟨some 11, none, (.ldn 2), [.t 10]⟩, ⟨some 12, none, (.call F_z34z 0), [.t 11]⟩, ⟨some 5, none, .mv, [.t 9]⟩, ⟨some 6, none, .mv, [.t 12]⟩]) (.seq (.reg [⟨some 13, none, .mv, [.t 6]⟩, ⟨some 14, none, .mv, [.t 5]⟩, ⟨some 15, none, (.call F_ref04_Leq 0), [.t 13, .t 14]⟩, ⟨some 16, none, .mv, [.t 15]⟩, ⟨some 17, (some (16, true)), .mv, [.t 5]⟩, ⟨some 18, (some (16, true)), .mv, [.t 6]⟩, ⟨some 19, (some (16, true)), (.call F_z30z 0), [.t 17, .t 18]⟩, ⟨some 20, (some (16, true)), .not, [.t 19]⟩, ⟨some 21, none, .pick, [.t 16, .t 20, .c (.bool false)]⟩, ⟨some 4, none, .mv, [.t 21]⟩]) .ret)))
theorem comp_ref04_VBehind : compF Try.prog (mset [] [] []) (cset [] [] []) (wset [] []) Try.f114 = some c_ref04_VBehind := by kernel_rfl
theorem ok_ref04_VBehind : fnOk Try.prog F_ref04_VBehind = true := by kernel_rfl
theorem calls_ref04_VBehind {args : List AV} {r : AV} (h : RunsX Try.prog 0 (Gives [.t 4] r) [.c c_ref04_VBehind] (args ++ List.replicate (22 - args.length) (.tup [])) [] zeroC) : PCalls Try.prog F_ref04_VBehind args r :=
  pcallsF Try.checked.mixed Try.func114 ok_ref04_VBehind comp_ref04_VBehind rfl (rs := [.t 4]) (by kernel_rfl) h
theorem hcalls_ref04_VBehind {args : List AV} {Hin Hout : Heap} {nx nx2 : Ctr} {r : AV} (φ : Nat) (ks : List (Nat × Nat)) (h : RunsX Try.prog φ (GivesH ks [.t 4] r Hout nx2) [.c c_ref04_VBehind] (args ++ List.replicate (22 - args.length) (.tup [])) Hin nx) : HCalls Try.prog F_ref04_VBehind args Hin nx r Hout nx2 :=
  hcallsF Try.checked.mixed Try.func114 ok_ref04_VBehind comp_ref04_VBehind rfl (rs := [.t 4]) (by kernel_rfl) φ ks h

/-- pedlar/pedlarref04.VSame: parameters [95, 95], results [.t 4], calls ref04_ESame -/
def c_ref04_VSame : Cd := (.seq (.reg [⟨some 2, none, .box, [.t 0]⟩, ⟨some 3, none, .box, [.t 1]⟩, ⟨some 4, none, .mv, [.c (.bool false)]⟩]) (.seq (.reg [⟨some 5, none, (.fa 0), [.t 2]⟩, ⟨some 6, none, .ld1, [.t 5]⟩, ⟨some 7, none, (.fa 0), [.t 3]⟩, ⟨some 8, none, .ld1, [.t 7]⟩, ⟨some 9, none, (.bin .eql), [.t 6, .t 8]⟩, ⟨some 10, none, .mv, [.t 9]⟩, ⟨some 11, (some (10, true)), (.fa 1), [.t 2]⟩, ⟨some 12, (some (10, true)), .ld1, [.t 11]⟩, ⟨some 13, (some (10, true)), (.fa 1), [.t 3]⟩, ⟨some 14, (some (10, true)), .ld1, [.t 13]⟩, ⟨some 15, (some (10, true)), (.bin .eql), [.t 12, .t 14]⟩, ⟨some 16, none, .pick, [.t 10, .t 15, .c (.bool false)]⟩, ⟨some 17, none, .mv, [.t 16]⟩, ⟨some 18, (some (17, true)), (.fa 2), [.t 2]⟩, ⟨some 19, (some (17, true)), .ld1, [.t 18]⟩, ⟨some 20, (some (17, true)), (.fa 2), [.t 3]⟩, ⟨some 21, (some (17, true)), .ld1, [.t 20]⟩, ⟨some 22, (some (17, true)), (.bin .eql), [.t 19, .t 21]⟩, ⟨some 23, none, .pick, [.t 17, .t 22, .c (.bool false)]⟩, ⟨some 24, none, .mv, [.t 23]⟩, ⟨some 25, (some (24, true)), (.fa 3), [.t 2]⟩, ⟨some 26, (some (24, true)), .ld1, [.t 25]⟩, ⟨some 27, (some (24, true)), (.fa 3), [.t 3]⟩, ⟨some 28, (some (24, true)), .ld1, [.t 27]⟩, ⟨some 29, (some (24, true)), (.bin .eql), [.t 26, .t 28]⟩, ⟨some 30, none, .pick, [.t 24, .t 29, .c (.bool false)]⟩, ⟨some 31, none, .mv, [.t 30]⟩, ⟨some 32, (some (31, true)), (.fa 4), [.t 2]⟩, ⟨some 33, (some (31, true)), .ld1, [.t 32]⟩, ⟨some 34, (some (31, true)), (.fa 4), [.t 3]⟩, ⟨some 35, (some (31, true)), .ld1, [.t 34]⟩, ⟨some 36, (some (31, true)), (.eqb false), [.t 33, .t 35]⟩, ⟨some 37, none, .pick, [.t 31, .t 36, .c (.bool false)]⟩, ⟨some 38, none, .mv, [.t 37]⟩, ⟨some 39, (some (38, true)), (.fa 5), [.t 2]⟩, ⟨some 40, (some (38, true)), (.ldn 2), [.t 39]⟩, ⟨some 41, (some (38, true)), (.fa 5), [.t 3]⟩, ⟨some 42, (some (38, true)), (.ldn 2), [.t 41]⟩, ⟨some 43, (some (38, true)), (.call F_z31z 0), [.t 40, .t 42]⟩, ⟨some 44, none, .pick, [.t 38, .t 43, .c (.bool false)]⟩, ⟨some 4, none, .mv, [.t 44]⟩]) .ret))
theorem comp_ref04_VSame : compF Try.prog (mset [] [] []) (cset [] [] []) (wset [] []) Try.f116 = some c_ref04_VSame := by kernel_rfl
theorem ok_ref04_VSame : fnOk Try.prog F_ref04_VSame = true := by kernel_rfl
theorem calls_ref04_VSame {args : List AV} {r : AV} (h : RunsX Try.prog 0 (Gives [.t 4] r) [.c c_ref04_VSame] (args ++ List.replicate (45 - args.length) (.tup [])) [] zeroC) : PCalls Try.prog F_ref04_VSame args r :=
  pcallsF Try.checked.mixed Try.func116 ok_ref04_VSame comp_ref04_VSame rfl (rs := [.t 4]) (by kernel_rfl) h
theorem hcalls_ref04_VSame {args : List AV} {Hin Hout : Heap} {nx nx2 : Ctr} {r : AV} (φ : Nat) (ks : List (Nat × Nat)) (h : RunsX Try.prog φ (GivesH ks [.t 4] r Hout nx2) [.c c_ref04_VSame] (args ++ List.replicate (45 - args.length) (.tup [])) Hin nx) : HCalls Try.prog F_ref04_VSame args Hin nx r Hout nx2 :=
  hcallsF Try.checked.mixed Try.func116 ok_ref04_VSame comp_ref04_VSame rfl (rs := [.t 4]) (by kernel_rfl) φ ks h

/-- pedlar/pedlarlaw07.Few: parameters [78], results [.t 2], calls law05_Few -/
def wl_law07_Few_0 : Mk := ⟨[false, true, true, true, true, false, false, true, true, true, true, true, true, true, true, true, true, true, true, true, true, true, true, true, true, true, true, true, true, true, true, true, true, true, true, true, true, true, true], []⟩
abbrev s_law07_Few_0 (t0 t5 t6 : AV) : List AV := [t0, .any, .any, .any, .any, t5, t6, .any, .any, .any, .any, .any, .any, .any, .any, .any, .any, .any, .any, .any, .any, .any, .any, .any, .any, .any, .any, .any, .any, .any, .any, .any, .any, .any, .any, .any, .any, .any, .any]
def c_law07_Few_l0 : Cd := (.seq (.reg [⟨some 7, none, (.bin .lss), [.t 6, .t 5]⟩]) (.seq (.cond (.t 7) .skip (.exit 0)) (.seq (.blk 1 [] (.seq (.reg [⟨some 8, none, .mv, [.t 6]⟩, ⟨some 3, none, .mv, [.t 8]⟩]) (.seq (.reg [⟨some 9, none, .mv, [.t 3]⟩, ⟨some 10, none, (.bin .geq), [.t 9, .c (.int .i64 40)]⟩, ⟨some 11, none, .mv, [.t 10]⟩, ⟨some 12, (some (11, false)), .mv, [.t 0]⟩, ⟨some 13, (some (11, false)), .mv, [.t 3]⟩, ⟨some 14, (some (11, false)), (.ixS 7), [.t 12, .t 13]⟩, ⟨some 15, (some (11, false)), (.fa 2), [.t 14]⟩, ⟨some 16, (some (11, false)), .ld1, [.t 15]⟩, ⟨some 17, (some (11, false)), .lenT, [.t 16]⟩, ⟨some 18, (some (11, false)), (.bin .gtr), [.t 17, .c (.int .i64 100)]⟩, ⟨some 19, none, .pick, [.t 11, .c (.bool true), .t 18]⟩, ⟨some 20, none, .mv, [.t 19]⟩, ⟨some 21, (some (20, false)), .mv, [.t 0]⟩, ⟨some 22, (some (20, false)), .mv, [.t 3]⟩, ⟨some 23, (some (20, false)), (.ixS 7), [.t 21, .t 22]⟩, ⟨some 24, (some (20, false)), (.fa 3), [.t 23]⟩, ⟨some 25, (some (20, false)), .ld1, [.t 24]⟩, ⟨some 26, (some (20, false)), .lenT, [.t 25]⟩, ⟨some 27, (some (20, false)), (.bin .gtr), [.t 26, .c (.int .i64 300)]⟩, ⟨some 28, none, .pick, [.t 20, .c (.bool true), .t 27]⟩, ⟨some 29, none, .mv, [.t 28]⟩, ⟨some 30, (some (29, false)), .mv, [.t 0]⟩, ⟨some 31, (some (29, false)), .mv, [.t 3]⟩, ⟨some 32, (some (29, false)), (.ixS 7), [.t 30, .t 31]⟩, ⟨some 33, (some (29, false)), (.fa 5), [.t 32]⟩, ⟨some 34, (some (29, false)), (.ldn 2), [.t 33]⟩, ⟨some 35, (some (29, false)), (.call F_law05_Few 0), [.t 34, .c (.int .i64 30)]⟩, ⟨some 36, (some (29, false)), .not, [.t 35]⟩, ⟨some 37, none, .pick, [.t 29, .c (.bool true), .t 36]⟩]) (.cond (.t 37) (.seq (.reg [⟨some 2, none, .mv, [.c (.bool false)]⟩]) .ret) .skip)))) (.reg [⟨some 38, none, (.bin .add), [.t 6, .c (.int .i64 1)]⟩, ⟨some 6, none, .mv, [.t 38]⟩]))))
def wb_law07_Few_0 : List Bool := [true, true, true, true, true, true, true, true, true, true, true, true, true, true, true, true, true, true, true, true, true, true, true, true, true, true, true, true, true, true, true, true, true, true, true, true, true, true, true]
abbrev e_law07_Few_0 : List AV := [.any, .any, .any, .any, .any, .any, .any, .any, .any, .any, .any, .any, .any, .any, .any, .any, .any, .any, .any, .any, .any, .any, .any, .any, .any, .any, .any, .any, .any, .any, .any, .any, .any, .any, .any, .any, .any, .any, .any]
abbrev i_law07_Few_0 : List It := [.lp wl_law07_Few_0 c_law07_Few_l0, .blk 0 wb_law07_Few_0]
def c_law07_Few_k0 : Cd := (.seq (.reg [⟨some 2, none, .mv, [.c (.bool true)]⟩]) .ret)
def c_law07_Few : Cd := (.seq (.reg [⟨some 2, none, .mv, [.c (.bool false)]⟩]) (.seq (.seq (.reg [⟨some 4, none, .mv, [.t 0]⟩, ⟨some 5, none, .len, [.t 4]⟩, ⟨some 6, none, .mv, [.c (.int .i64 0)]⟩]) (.blk 0 wb_law07_Few_0 (.loop wl_law07_Few_0 c_law07_Few_l0))) c_law07_Few_k0))
theorem comp_law07_Few : compF Try.prog (mset [] [] []) (cset [] [] []) (wset [(0, wl_law07_Few_0, wb_law07_Few_0)] []) Try.f42 = some c_law07_Few := by kernel_rfl
theorem ok_law07_Few : fnOk Try.prog F_law07_Few = true := by kernel_rfl
theorem calls_law07_Few {args : List AV} {r : AV} (h : RunsX Try.prog 0 (Gives [.t 2] r) [.c c_law07_Few] (args ++ List.replicate (39 - args.length) (.tup [])) [] zeroC) : PCalls Try.prog F_law07_Few args r :=
  pcallsF Try.checked.mixed Try.func42 ok_law07_Few comp_law07_Few rfl (rs := [.t 2]) (by kernel_rfl) h
theorem hcalls_law07_Few {args : List AV} {Hin Hout : Heap} {nx nx2 : Ctr} {r : AV} (φ : Nat) (ks : List (Nat × Nat)) (h : RunsX Try.prog φ (GivesH ks [.t 2] r Hout nx2) [.c c_law07_Few] (args ++ List.replicate (39 - args.length) (.tup [])) Hin nx) : HCalls Try.prog F_law07_Few args Hin nx r Hout nx2 :=
  hcallsF Try.checked.mixed Try.func42 ok_law07_Few comp_law07_Few rfl (rs := [.t 2]) (by kernel_rfl) φ ks h

/-- pedlar/pedlarlaw07.awake: parameters [], results [.t 0], calls version_Right -/
def c_law07_awake : Cd := (.seq (.reg [⟨some 0, none, .mv, [.c (.bool false)]⟩]) (.seq (.reg [⟨some 1, none, (.bld [(.int .i64 0), .nils] [(0, 1)]), [.c (.int .i64 1)]⟩, ⟨some 2, none, (.bld [(.int .i64 0), (.int .i64 0), (.str ⟨#[]⟩), (.str ⟨#[]⟩), (.bool false), (.int .i64 0), .nils] [(1, 1), (2, 1), (5, 2)]), [.c (.int .i64 1), .c (.str ⟨#[97]⟩), .t 1]⟩, ⟨some 3, none, (.call F_z23z 0), [.t 2]⟩, ⟨some 0, none, .mv, [.t 3]⟩]) .ret))
theorem comp_law07_awake : compF Try.prog (mset [] [] []) (cset [] [] []) (wset [] []) Try.f41 = some c_law07_awake := by kernel_rfl
theorem ok_law07_awake : fnOk Try.prog F_law07_awake = true := by kernel_rfl
theorem calls_law07_awake {args : List AV} {r : AV} (h : RunsX Try.prog 0 (Gives [.t 0] r) [.c c_law07_awake] (args ++ List.replicate (4 - args.length) (.tup [])) [] zeroC) : PCalls Try.prog F_law07_awake args r :=
  pcallsF Try.checked.mixed Try.func41 ok_law07_awake comp_law07_awake rfl (rs := [.t 0]) (by kernel_rfl) h
theorem hcalls_law07_awake {args : List AV} {Hin Hout : Heap} {nx nx2 : Ctr} {r : AV} (φ : Nat) (ks : List (Nat × Nat)) (h : RunsX Try.prog φ (GivesH ks [.t 0] r Hout nx2) [.c c_law07_awake] (args ++ List.replicate (4 - args.length) (.tup [])) Hin nx) : HCalls Try.prog F_law07_awake args Hin nx r Hout nx2 :=
  hcallsF Try.checked.mixed Try.func41 ok_law07_awake comp_law07_awake rfl (rs := [.t 0]) (by kernel_rfl) φ ks h

def tab_CdVersion : List (Nat × Cd × Nat × List RS) := [(F_z23z, c_z23z, 56, [.t 2]), (F_version_behind, c_version_behind, 18, [.t 4]), (F_version_Same, c_version_Same, 45, [.t 4]), (F_version_Clone, c_version_Clone, 8, [.cn 2 7]), (F_z25z, c_z25z, 65, [.t 2]), (F_ref04_VBehind, c_ref04_VBehind, 22, [.t 4]), (F_ref04_VSame, c_ref04_VSame, 45, [.t 4]), (F_law07_Few, c_law07_Few, 39, [.t 2]), (F_law07_awake, c_law07_awake, 4, [.t 0])]
theorem tok_CdVersion : TabOk Try.prog (tabOf tab_CdVersion) := tab_cons calls_z23z hcalls_z23z (tab_cons calls_version_behind hcalls_version_behind (tab_cons calls_version_Same hcalls_version_Same (tab_cons calls_version_Clone hcalls_version_Clone (tab_cons calls_z25z hcalls_z25z (tab_cons calls_ref04_VBehind hcalls_ref04_VBehind (tab_cons calls_ref04_VSame hcalls_ref04_VSame (tab_cons calls_law07_Few hcalls_law07_Few (tab_cons calls_law07_awake hcalls_law07_awake (tab_nil)))))))))
end Go.Proofs.Ytmokhopjnjecbac
/- The lemmas of a walk, under one name of the kit (a simp set), so that the texts are short. -/
namespace Go.Ev
/-- An element by an index: its first unfolding is a step with a proof that is no rfl. -/
def gi (es : List AV) (n : Int) : Option AV := es[n.toNat]?
theorem gi_eq (es : List AV) (n : Int) : gi es n = es[n.toNat]? := of_eq_true (eq_true rfl)
theorem optI_gi {α : Type} (es : List AV) (n : Int) (ok : AV → α) (bad : α) : optI es n ok bad = optK (gi es n) ok bad := rfl
attribute [go_sem ↓ low] optI_gi
attribute [go_sem] gi_eq
attribute [go_sem ↓] as_nil as_ops0 as_op as_opg as_blk as_frz as_lp as_skip as_reg as_regf as_seq as_cond as_cblk as_loop as_exit as_ret condK_true condK_false condK_bool
  guardK_tup guardK_tt guardK_tf guardK_ft guardK_ff guardK_bool q_add q_sub q_mul q_eql q_neq q_lss q_leq q_gtr q_geq q_quo q_rem q_and q_or q_xor q_andNot
  q_shl q_shr q_seql q_sneq q_slss q_sleq q_sgtr q_sgeq q_sadd q_mv q_pick q_eqb q_neb q_eqp q_neqp q_eqs q_neqs q_eqf q_neqf q_eqi q_neqi q_not q_neg q_cpl
  q_conv q_s2b q_b2s0 q_b2s1 q_b2s2 q_s2s q_box q_boxm q_new q_ld1 q_ld1r q_ld1p q_ldn q_ldnr q_ldnp q_ldk q_ldnk q_st q_stf q_slcx q_clr q_stk q_fa q_fap q_fld1 q_fldn q_ixS
  q_ixSl q_ixP q_ixPp q_ixT q_ixA1 q_slc0 q_slc1 q_slc2 q_slcT q_lenT q_len0 q_len1 q_len2 q_app q_apn pureK_nn pureK_nf pureK_fn pureK_ff q_apps q_lit q_litr q_litm q_bld q_mk q_ext q_nckp q_nckr
  q_nckf q_mn q_mx q_mkf q_ifc headK_cons optK_some optI_0 optI_1 optI_2 optI_3 nilK_nil execA mapK frzK_sl frzK_agg frzK_tup frzK_ifc frzK_func frzK_int
  frzK_bool frzK_str frzK_nilp frzK_nils frzK_nilm frzK_nilf frzK_nili frzK_fz frzK_any frzK_ptr frzK_ro getB getsK getR retK nilpK nilsK nilfK niliK bndK
  cutK fillK exitK if_pos if_neg
attribute [go_sem] evs_n evs_c ev_t ev_v getT_z getT_s gets_n gets_c drop_z drop_s setT put List.replicate List.cons_append List.nil_append List.length_cons List.length_nil
  setB kill killM dropK keysOf capOf_nn zeroC bump frzT thaw putAll retv find cells List.append_nil List.take Nat.zero_add Nat.add_zero Nat.mul_one Nat.succ_ne_self
  Nat.le_refl Nat.one_ne_zero Nat.lt_irrefl List.length_append Int.toNat_zero Int.toNat_one List.take_zero List.drop_zero Nat.zero_mul sel rest keyIn Bool.not_true
  Bool.not_false Bool.false_eq_true Bool.true_eq_false and_self and_true true_and false_and and_false decide_true decide_false decide_eq_true decide_eq_false
  decide_eq_true_eq decide_eq_false_iff_not Bool.not_eq_true Bool.not_eq_false Bool.not_eq_eq_eq_not Decidable.not_not
attribute [go_sem_proc] Nat.reduceAdd Nat.reduceSub Nat.reduceMul Nat.reduceLT Nat.reduceLeDiff Int.reduceToNat Nat.reduceEqDiff Nat.reduceBEq reduceCtorEq
attribute [go_sem_proc ↓] reduceIte
theorem zz1.{u} {α : Type u} {a : α} {s : List α} : (a :: s).length = s.length + 1 := List.length_cons
theorem zz2.{u} {α : Type u} {s t : List α} : (s ++ t).length = s.length + t.length := List.length_append
theorem zz3.{u} {α : Type u} : ([] : List α).length = 0 := List.length_nil
theorem zz4.{u} {α : Type u} {i : Nat} {l : List α} : (List.take i l).length = min i l.length := List.length_take
theorem zz5.{u} {α : Type u} {i : Nat} {l : List α} : (List.drop i l).length = l.length - i := List.length_drop
theorem zz6.{u, v} {α : Type u} {β : Type v} {l : List α} (f : α → β) : (l.map f).length = l.length := List.length_map f
theorem zz7.{u} {α : Type u} {a : α} {l : List α} {f : α → Bool} : (a :: l).all f = (f a && l.all f) := List.all_cons
theorem zz8.{u} {α : Type u} {f : α → Bool} : ([] : List α).all f = true := List.all_nil
theorem zz9.{u} {α : Type u} [BEq α] [ReflBEq α] (a : α) : (a == a) = true := beq_self_eq_true a
theorem zz10 (b : Bool) : (b && b) = b := Bool.and_self b
theorem zz11 (p : Prop) : (p ∧ p) = p := and_self p
theorem zz12 (p : Prop) : (p ∨ True) = True := or_true p
theorem zz13 (p : Prop) : (True ∨ p) = True := true_or p
theorem zz14.{u} {α : Type u} {xs : Array α} {i : Nat} {a : α} : (xs.setIfInBounds i a).size = xs.size := Array.size_setIfInBounds
theorem zz15 (n m : Nat) : n + m - m = n := Nat.add_sub_cancel n m
theorem zz16 (n : Nat) : (n : Int).toNat = n := Int.toNat_natCast n
end Go.Ev
/- The functions' bodies, compiled; printed by a program of mine (gen.py); that they are is checked here. -/
namespace Go.Proofs.Ytmokhopjnjecbac
open Go.Ev
set_option maxRecDepth 100000

/-- pedlar/event.leaf: parameters [29], results [.t 2], calls  -/
def c_event_leaf : Cd := (.seq (.reg [⟨some 1, none, .box, [.t 0]⟩, ⟨some 2, none, .mv, [.c (.bool false)]⟩]) (.seq (.reg [⟨some 3, none, (.fa 1), [.t 1]⟩, ⟨some 4, none, .ld1, [.t 3]⟩, ⟨some 5, none, .len, [.t 4]⟩, ⟨some 6, none, (.bin .eql), [.t 5, .c (.int .i64 0)]⟩, ⟨some 2, none, .mv, [.t 6]⟩]) .ret))
theorem comp_event_leaf : compF Try.prog (mset [] [] []) (cset [] [] []) (wset [] []) Try.f192 = some c_event_leaf := by kernel_rfl
theorem ok_event_leaf : fnOk Try.prog F_event_leaf = true := by kernel_rfl
theorem calls_event_leaf {args : List AV} {r : AV} (h : RunsX Try.prog 0 (Gives [.t 2] r) [.c c_event_leaf] (args ++ List.replicate (7 - args.length) (.tup [])) [] zeroC) : PCalls Try.prog F_event_leaf args r :=
  pcallsF Try.checked.mixed Try.func192 ok_event_leaf comp_event_leaf rfl (rs := [.t 2]) (by kernel_rfl) h
theorem hcalls_event_leaf {args : List AV} {Hin Hout : Heap} {nx nx2 : Ctr} {r : AV} (φ : Nat) (ks : List (Nat × Nat)) (h : RunsX Try.prog φ (GivesH ks [.t 2] r Hout nx2) [.c c_event_leaf] (args ++ List.replicate (7 - args.length) (.tup [])) Hin nx) : HCalls Try.prog F_event_leaf args Hin nx r Hout nx2 :=
  hcallsF Try.checked.mixed Try.func192 ok_event_leaf comp_event_leaf rfl (rs := [.t 2]) (by kernel_rfl) φ ks h

/-- pedlar/event.count: parameters [29, 3], results [.t 4], calls event_leaf, event_count -/
def wl_z28z_0 : Mk := ⟨[true, false, true, true, true, false, true, true, true, true, true, true, true, true, true, true, true, true, true, true, true, true, true, true, true, true, true, true, true, true, true, true, false, false, false, true, true, true, true, true, true, true, true, true, true, true, true, true], [7]⟩
abbrev s_z28z_0 (t1 t5 t32 t33 t34 : AV) : List AV := [.any, t1, .any, .any, .any, t5, .any, .any, .any, .any, .any, .any, .any, .any, .any, .any, .any, .any, .any, .any, .any, .any, .any, .any, .any, .any, .any, .any, .any, .any, .any, .any, t32, t33, t34, .any, .any, .any, .any, .any, .any, .any, .any, .any, .any, .any, .any, .any]
def c_z28z_l0 : Cd := (.seq (.reg [⟨some 35, none, (.bin .lss), [.t 34, .t 33]⟩]) (.seq (.cond (.t 35) .skip (.exit 0)) (.seq (.blk 1 [] (.seq (.reg [⟨some 36, none, (.ixS 2), [.t 32, .t 34]⟩, ⟨some 37, none, (.ldn 2), [.t 36]⟩, ⟨some 7, none, (.new [(.int .i64 0), .nils] 7), []⟩, ⟨none, none, (.st 2), [.t 7, .t 37]⟩]) (.seq (.reg [⟨some 38, none, .mv, [.t 5]⟩, ⟨some 39, none, (.ldn 2), [.t 7]⟩, ⟨some 40, none, .mv, [.t 1]⟩, ⟨some 41, none, (.bin .sub), [.t 40, .c (.int .i64 1)]⟩, ⟨some 42, none, (.call F_z28z 0), [.t 39, .t 41]⟩, ⟨some 43, none, (.bin .add), [.t 38, .t 42]⟩, ⟨some 5, none, .mv, [.t 43]⟩]) (.seq (.reg [⟨some 44, none, .mv, [.t 5]⟩, ⟨some 45, none, (.bin .gtr), [.t 44, .c (.int .i64 60)]⟩]) (.cond (.t 45) (.seq (.reg [⟨some 4, none, .mv, [.c (.int .i64 61)]⟩]) .ret) .skip))))) (.reg [⟨some 46, none, (.bin .add), [.t 34, .c (.int .i64 1)]⟩, ⟨some 34, none, .mv, [.t 46]⟩]))))
def wb_z28z_0 : List Bool := [true, true, true, true, true, false, true, true, true, true, true, true, true, true, true, true, true, true, true, true, true, true, true, true, true, true, true, true, true, true, true, true, true, true, true, true, true, true, true, true, true, true, true, true, true, true, true, true]
abbrev e_z28z_0 (t5 : AV) : List AV := [.any, .any, .any, .any, .any, t5, .any, .any, .any, .any, .any, .any, .any, .any, .any, .any, .any, .any, .any, .any, .any, .any, .any, .any, .any, .any, .any, .any, .any, .any, .any, .any, .any, .any, .any, .any, .any, .any, .any, .any, .any, .any, .any, .any, .any, .any, .any, .any]
abbrev i_z28z_0 : List It := [.lp wl_z28z_0 c_z28z_l0, .blk 0 wb_z28z_0]
def c_z28z_k0 : Cd := (.seq (.reg [⟨some 47, none, .mv, [.t 5]⟩, ⟨some 4, none, .mv, [.t 47]⟩]) .ret)
def c_z28z : Cd := (.seq (.reg [⟨some 2, none, .box, [.t 0]⟩, ⟨some 4, none, .mv, [.c (.int .i64 0)]⟩]) (.seq (.seq (.reg [⟨some 8, none, .mv, [.t 1]⟩, ⟨some 9, none, (.bin .lss), [.t 8, .c (.int .i64 1)]⟩, ⟨some 10, none, .mv, [.t 9]⟩, ⟨some 11, (some (10, false)), (.fa 0), [.t 2]⟩, ⟨some 12, (some (10, false)), .ld1, [.t 11]⟩, ⟨some 13, (some (10, false)), (.bin .lss), [.t 12, .c (.int .i64 0)]⟩, ⟨some 14, none, .pick, [.t 10, .c (.bool true), .t 13]⟩, ⟨some 15, none, .mv, [.t 14]⟩, ⟨some 16, (some (15, false)), (.fa 0), [.t 2]⟩, ⟨some 17, (some (15, false)), .ld1, [.t 16]⟩, ⟨some 18, (some (15, false)), (.bin .gtr), [.t 17, .c (.int .i64 1099511627776)]⟩, ⟨some 19, none, .pick, [.t 15, .c (.bool true), .t 18]⟩, ⟨some 20, none, .mv, [.t 19]⟩, ⟨some 21, (some (20, false)), (.ldn 2), [.t 2]⟩, ⟨some 22, (some (20, false)), (.call F_event_leaf 0), [.t 21]⟩, ⟨some 23, (some (20, false)), .not, [.t 22]⟩, ⟨some 24, (some (20, false)), .mv, [.t 23]⟩, ⟨some 25, (some (24, true)), (.fa 1), [.t 2]⟩, ⟨some 26, (some (24, true)), .ld1, [.t 25]⟩, ⟨some 27, (some (24, true)), .len, [.t 26]⟩, ⟨some 28, (some (24, true)), (.bin .neq), [.t 27, .c (.int .i64 2)]⟩, ⟨some 29, (some (20, false)), .pick, [.t 24, .t 28, .c (.bool false)]⟩, ⟨some 30, none, .pick, [.t 20, .c (.bool true), .t 29]⟩]) (.cond (.t 30) (.seq (.reg [⟨some 4, none, .mv, [.c (.int .i64 61)]⟩]) .ret) .skip)) (.seq (.reg [⟨some 5, none, .mv, [.c (.int .i64 1)]⟩]) (.seq (.seq (.reg [⟨some 31, none, (.fa 1), [.t 2]⟩, ⟨some 32, none, .ld1, [.t 31]⟩, ⟨some 33, none, .len, [.t 32]⟩, ⟨some 34, none, .mv, [.c (.int .i64 0)]⟩]) (.blk 0 wb_z28z_0 (.loop wl_z28z_0 c_z28z_l0))) c_z28z_k0))))
theorem comp_z28z : compF Try.prog (mset [] [] []) (cset [] [] []) (wset [(0, wl_z28z_0, wb_z28z_0)] []) Try.f148 = some c_z28z := by kernel_rfl
theorem ok_z28z : fnOk Try.prog F_z28z = true := by kernel_rfl
theorem calls_z28z {args : List AV} {r : AV} (h : RunsX Try.prog 0 (Gives [.t 4] r) [.c c_z28z] (args ++ List.replicate (48 - args.length) (.tup [])) [] zeroC) : PCalls Try.prog F_z28z args r :=
  pcallsF Try.checked.mixed Try.func148 ok_z28z comp_z28z rfl (rs := [.t 4]) (by kernel_rfl) h
theorem hcalls_z28z {args : List AV} {Hin Hout : Heap} {nx nx2 : Ctr} {r : AV} (φ : Nat) (ks : List (Nat × Nat)) (h : RunsX Try.prog φ (GivesH ks [.t 4] r Hout nx2) [.c c_z28z] (args ++ List.replicate (48 - args.length) (.tup [])) Hin nx) : HCalls Try.prog F_z28z args Hin nx r Hout nx2 :=
  hcallsF Try.checked.mixed Try.func148 ok_z28z comp_z28z rfl (rs := [.t 4]) (by kernel_rfl) φ ks h

/-- pedlar/event.short: parameters [29], results [.t 2], calls event_leaf, event_short -/
def c_event_short : Cd := (.seq (.reg [⟨some 1, none, .box, [.t 0]⟩, ⟨some 2, none, .mv, [.c (.bool false)]⟩]) (.seq (.seq (.reg [⟨some 5, none, (.ldn 2), [.t 1]⟩, ⟨some 6, none, (.call F_event_leaf 0), [.t 5]⟩]) (.cond (.t 6) (.seq (.reg [⟨some 2, none, .mv, [.c (.bool true)]⟩]) .ret) .skip)) (.seq (.reg [⟨some 7, none, (.fa 1), [.t 1]⟩, ⟨some 8, none, .ld1r, [.t 7]⟩, ⟨some 9, none, (.ixS 2), [.t 8, .c (.int .i64 0)]⟩, ⟨some 10, none, (.ldnr 2), [.t 9]⟩, ⟨some 11, none, (.fa 1), [.t 1]⟩, ⟨some 12, none, .ld1r, [.t 11]⟩, ⟨some 13, none, (.ixS 2), [.t 12, .c (.int .i64 1)]⟩, ⟨some 14, none, (.ldnr 2), [.t 13]⟩, ⟨some 3, none, (.new [(.int .i64 0), .nils] 3), []⟩, ⟨some 4, none, (.new [(.int .i64 0), .nils] 4), []⟩, ⟨none, none, (.stk 2 3), [.t 3, .t 10]⟩, ⟨none, none, (.stk 2 4), [.t 4, .t 14]⟩]) (.seq (.reg [⟨some 15, none, (.ldn 2), [.t 3]⟩, ⟨some 16, none, (.call F_event_short 0), [.t 15]⟩, ⟨some 17, none, .mv, [.t 16]⟩, ⟨some 18, (some (17, true)), (.ldn 2), [.t 4]⟩, ⟨some 19, (some (17, true)), (.call F_event_short 0), [.t 18]⟩, ⟨some 20, none, .pick, [.t 17, .t 19, .c (.bool false)]⟩, ⟨some 21, none, .mv, [.t 20]⟩, ⟨some 22, (some (21, true)), (.fa 0), [.t 3]⟩, ⟨some 23, (some (21, true)), .ld1, [.t 22]⟩, ⟨some 24, (some (21, true)), (.bin .eql), [.t 23, .c (.int .i64 0)]⟩, ⟨some 25, (some (21, true)), .mv, [.t 24]⟩, ⟨some 26, (some (25, false)), (.fa 0), [.t 4]⟩, ⟨some 27, (some (25, false)), .ld1, [.t 26]⟩, ⟨some 28, (some (25, false)), (.bin .eql), [.t 27, .c (.int .i64 0)]⟩, ⟨some 29, (some (21, true)), .pick, [.t 25, .c (.bool true), .t 28]⟩, ⟨some 30, none, .pick, [.t 21, .t 29, .c (.bool false)]⟩, ⟨some 31, none, .mv, [.t 30]⟩, ⟨some 32, (some (31, true)), (.ldn 2), [.t 3]⟩, ⟨some 33, (some (31, true)), (.call F_event_leaf 0), [.t 32]⟩, ⟨some 34, (some (31, true)), .mv, [.t 33]⟩, ⟨some 35, (some (34, true)), (.ldn 2), [.t 4]⟩, ⟨some 36, (some (34, true)), (.call F_event_leaf 0), [.t 35]⟩, ⟨some 37, (some (31, true)), .pick, [.t 34, .t 36, .c (.bool false)]⟩, ⟨some 38, (some (31, true)), .mv, [.t 37]⟩, ⟨some 39, (some (38, true)), (.fa 0), [.t 3]⟩, ⟨some 40, (some (38, true)), .ld1, [.t 39]⟩, ⟨some 41, (some (38, true)), (.fa 0), [.t 4]⟩, ⟨some 42, (some (38, true)), .ld1, [.t 41]⟩, ⟨some 43, (some (38, true)), (.bin .eql), [.t 40, .t 42]⟩, ⟨some 44, (some (31, true)), .pick, [.t 38, .t 43, .c (.bool false)]⟩, ⟨some 45, (some (31, true)), .not, [.t 44]⟩, ⟨some 46, none, .pick, [.t 31, .t 45, .c (.bool false)]⟩, ⟨some 2, none, .mv, [.t 46]⟩]) .ret))))
theorem comp_event_short : compF Try.prog (mset [] [8, 10, 12, 14] [3, 4]) (cset [] [] []) (wset [] []) Try.f149 = some c_event_short := by kernel_rfl
theorem ok_event_short : fnOk Try.prog F_event_short = true := by kernel_rfl
theorem calls_event_short {args : List AV} {r : AV} (h : RunsX Try.prog 0 (Gives [.t 2] r) [.c c_event_short] (args ++ List.replicate (47 - args.length) (.tup [])) [] zeroC) : PCalls Try.prog F_event_short args r :=
  pcallsF Try.checked.mixed Try.func149 ok_event_short comp_event_short rfl (rs := [.t 2]) (by kernel_rfl) h
theorem hcalls_event_short {args : List AV} {Hin Hout : Heap} {nx nx2 : Ctr} {r : AV} (φ : Nat) (ks : List (Nat × Nat)) (h : RunsX Try.prog φ (GivesH ks [.t 2] r Hout nx2) [.c c_event_short] (args ++ List.replicate (47 - args.length) (.tup [])) Hin nx) : HCalls Try.prog F_event_short args Hin nx r Hout nx2 :=
  hcallsF Try.checked.mixed Try.func149 ok_event_short comp_event_short rfl (rs := [.t 2]) (by kernel_rfl) φ ks h

/-- pedlar/event.Right: parameters [29], results [.t 2], calls event_count, event_short -/
def c_event_Right : Cd := (.seq (.reg [⟨some 1, none, .box, [.t 0]⟩, ⟨some 2, none, .mv, [.c (.bool false)]⟩]) (.seq (.reg [⟨some 3, none, (.ldn 2), [.t 1]⟩, ⟨some 4, none, (.call F_z28z 0), [.t 3, .c (.int .i64 8)]⟩, ⟨some 5, none, (.bin .leq), [.t 4, .c (.int .i64 60)]⟩, ⟨some 6, none, .mv, [.t 5]⟩, ⟨some 7, (some (6, true)), (.ldn 2), [.t 1]⟩, ⟨some 8, (some (6, true)), (.call F_event_short 0), [.t 7]⟩, ⟨some 9, none, .pick, [.t 6, .t 8, .c (.bool false)]⟩, ⟨some 2, none, .mv, [.t 9]⟩]) .ret))
theorem comp_event_Right : compF Try.prog (mset [] [] []) (cset [] [] []) (wset [] []) Try.f66 = some c_event_Right := by kernel_rfl
theorem ok_event_Right : fnOk Try.prog F_event_Right = true := by kernel_rfl
theorem calls_event_Right {args : List AV} {r : AV} (h : RunsX Try.prog 0 (Gives [.t 2] r) [.c c_event_Right] (args ++ List.replicate (10 - args.length) (.tup [])) [] zeroC) : PCalls Try.prog F_event_Right args r :=
  pcallsF Try.checked.mixed Try.func66 ok_event_Right comp_event_Right rfl (rs := [.t 2]) (by kernel_rfl) h
theorem hcalls_event_Right {args : List AV} {Hin Hout : Heap} {nx nx2 : Ctr} {r : AV} (φ : Nat) (ks : List (Nat × Nat)) (h : RunsX Try.prog φ (GivesH ks [.t 2] r Hout nx2) [.c c_event_Right] (args ++ List.replicate (10 - args.length) (.tup [])) Hin nx) : HCalls Try.prog F_event_Right args Hin nx r Hout nx2 :=
  hcallsF Try.checked.mixed Try.func66 ok_event_Right comp_event_Right rfl (rs := [.t 2]) (by kernel_rfl) φ ks h

/-- pedlar/event.same: parameters [29, 29, 3], results [.t 6], calls event_same -/
def wl_z35z_0 : Mk := ⟨[true, true, false, false, false, true, true, true, true, true, true, true, true, true, true, true, true, true, true, true, true, true, true, true, true, true, true, true, false, false, true, true, true, true, true, true, true, true, true, true, true, true, true, true, true, true, true], []⟩
abbrev s_z35z_0 (t2 t3 t4 t28 t29 : AV) : List AV := [.any, .any, t2, t3, t4, .any, .any, .any, .any, .any, .any, .any, .any, .any, .any, .any, .any, .any, .any, .any, .any, .any, .any, .any, .any, .any, .any, .any, t28, t29, .any, .any, .any, .any, .any, .any, .any, .any, .any, .any, .any, .any, .any, .any, .any, .any, .any]
def c_z35z_l0 : Cd := (.seq (.reg [⟨some 30, none, (.bin .lss), [.t 29, .t 28]⟩]) (.seq (.cond (.t 30) .skip (.exit 0)) (.seq (.blk 1 [] (.seq (.reg [⟨some 31, none, .mv, [.t 29]⟩, ⟨some 7, none, .mv, [.t 31]⟩]) (.seq (.reg [⟨some 32, none, (.fa 1), [.t 3]⟩, ⟨some 33, none, .ld1, [.t 32]⟩, ⟨some 34, none, .mv, [.t 7]⟩, ⟨some 35, none, (.ixS 2), [.t 33, .t 34]⟩, ⟨some 36, none, (.ldn 2), [.t 35]⟩, ⟨some 37, none, (.fa 1), [.t 4]⟩, ⟨some 38, none, .ld1, [.t 37]⟩, ⟨some 39, none, .mv, [.t 7]⟩, ⟨some 40, none, (.ixS 2), [.t 38, .t 39]⟩, ⟨some 41, none, (.ldn 2), [.t 40]⟩, ⟨some 42, none, .mv, [.t 2]⟩, ⟨some 43, none, (.bin .sub), [.t 42, .c (.int .i64 1)]⟩, ⟨some 44, none, (.call F_z35z 0), [.t 36, .t 41, .t 43]⟩, ⟨some 45, none, .not, [.t 44]⟩]) (.cond (.t 45) (.seq (.reg [⟨some 6, none, .mv, [.c (.bool false)]⟩]) .ret) .skip)))) (.reg [⟨some 46, none, (.bin .add), [.t 29, .c (.int .i64 1)]⟩, ⟨some 29, none, .mv, [.t 46]⟩]))))
def wb_z35z_0 : List Bool := [true, true, true, true, true, true, true, true, true, true, true, true, true, true, true, true, true, true, true, true, true, true, true, true, true, true, true, true, true, true, true, true, true, true, true, true, true, true, true, true, true, true, true, true, true, true, true]
abbrev e_z35z_0 : List AV := [.any, .any, .any, .any, .any, .any, .any, .any, .any, .any, .any, .any, .any, .any, .any, .any, .any, .any, .any, .any, .any, .any, .any, .any, .any, .any, .any, .any, .any, .any, .any, .any, .any, .any, .any, .any, .any, .any, .any, .any, .any, .any, .any, .any, .any, .any, .any]
abbrev i_z35z_0 : List It := [.lp wl_z35z_0 c_z35z_l0, .blk 0 wb_z35z_0]
def c_z35z_k0 : Cd := (.seq (.reg [⟨some 6, none, .mv, [.c (.bool true)]⟩]) .ret)
def c_z35z : Cd := (.seq (.reg [⟨some 3, none, .box, [.t 0]⟩, ⟨some 4, none, .box, [.t 1]⟩, ⟨some 6, none, .mv, [.c (.bool false)]⟩]) (.seq (.seq (.reg [⟨some 8, none, .mv, [.t 2]⟩, ⟨some 9, none, (.bin .lss), [.t 8, .c (.int .i64 1)]⟩, ⟨some 10, none, .mv, [.t 9]⟩, ⟨some 11, (some (10, false)), (.fa 0), [.t 3]⟩, ⟨some 12, (some (10, false)), .ld1, [.t 11]⟩, ⟨some 13, (some (10, false)), (.fa 0), [.t 4]⟩, ⟨some 14, (some (10, false)), .ld1, [.t 13]⟩, ⟨some 15, (some (10, false)), (.bin .neq), [.t 12, .t 14]⟩, ⟨some 16, none, .pick, [.t 10, .c (.bool true), .t 15]⟩, ⟨some 17, none, .mv, [.t 16]⟩, ⟨some 18, (some (17, false)), (.fa 1), [.t 3]⟩, ⟨some 19, (some (17, false)), .ld1, [.t 18]⟩, ⟨some 20, (some (17, false)), .len, [.t 19]⟩, ⟨some 21, (some (17, false)), (.fa 1), [.t 4]⟩, ⟨some 22, (some (17, false)), .ld1, [.t 21]⟩, ⟨some 23, (some (17, false)), .len, [.t 22]⟩, ⟨some 24, (some (17, false)), (.bin .neq), [.t 20, .t 23]⟩, ⟨some 25, none, .pick, [.t 17, .c (.bool true), .t 24]⟩]) (.cond (.t 25) (.seq (.reg [⟨some 6, none, .mv, [.c (.bool false)]⟩]) .ret) .skip)) (.seq (.seq (.reg [⟨some 26, none, (.fa 1), [.t 3]⟩, ⟨some 27, none, .ld1, [.t 26]⟩, ⟨some 28, none, .len, [.t 27]⟩, ⟨some 29, none, .mv, [.c (.int .i64 0)]⟩]) (.blk 0 wb_z35z_0 (.loop wl_z35z_0 c_z35z_l0))) c_z35z_k0)))
theorem comp_z35z : compF Try.prog (mset [] [] []) (cset [] [] []) (wset [(0, wl_z35z_0, wb_z35z_0)] []) Try.f194 = some c_z35z := by kernel_rfl
theorem ok_z35z : fnOk Try.prog F_z35z = true := by kernel_rfl
theorem calls_z35z {args : List AV} {r : AV} (h : RunsX Try.prog 0 (Gives [.t 6] r) [.c c_z35z] (args ++ List.replicate (47 - args.length) (.tup [])) [] zeroC) : PCalls Try.prog F_z35z args r :=
  pcallsF Try.checked.mixed Try.func194 ok_z35z comp_z35z rfl (rs := [.t 6]) (by kernel_rfl) h
theorem hcalls_z35z {args : List AV} {Hin Hout : Heap} {nx nx2 : Ctr} {r : AV} (φ : Nat) (ks : List (Nat × Nat)) (h : RunsX Try.prog φ (GivesH ks [.t 6] r Hout nx2) [.c c_z35z] (args ++ List.replicate (47 - args.length) (.tup [])) Hin nx) : HCalls Try.prog F_z35z args Hin nx r Hout nx2 :=
  hcallsF Try.checked.mixed Try.func194 ok_z35z comp_z35z rfl (rs := [.t 6]) (by kernel_rfl) φ ks h

/-- pedlar/event.Same: parameters [29, 29], results [.t 4], calls event_same -/
def c_event_Same : Cd := (.seq (.reg [⟨some 2, none, .box, [.t 0]⟩, ⟨some 3, none, .box, [.t 1]⟩, ⟨some 4, none, .mv, [.c (.bool false)]⟩]) (.seq (.reg [⟨some 5, none, (.ldn 2), [.t 2]⟩, ⟨some 6, none, (.ldn 2), [.t 3]⟩, ⟨some 7, none, (.call F_z35z 0), [.t 5, .t 6, .c (.int .i64 8)]⟩, ⟨some 4, none, .mv, [.t 7]⟩]) .ret))
theorem comp_event_Same : compF Try.prog (mset [] [] []) (cset [] [] []) (wset [] []) Try.f137 = some c_event_Same := by kernel_rfl
theorem ok_event_Same : fnOk Try.prog F_event_Same = true := by kernel_rfl
theorem calls_event_Same {args : List AV} {r : AV} (h : RunsX Try.prog 0 (Gives [.t 4] r) [.c c_event_Same] (args ++ List.replicate (8 - args.length) (.tup [])) [] zeroC) : PCalls Try.prog F_event_Same args r :=
  pcallsF Try.checked.mixed Try.func137 ok_event_Same comp_event_Same rfl (rs := [.t 4]) (by kernel_rfl) h
theorem hcalls_event_Same {args : List AV} {Hin Hout : Heap} {nx nx2 : Ctr} {r : AV} (φ : Nat) (ks : List (Nat × Nat)) (h : RunsX Try.prog φ (GivesH ks [.t 4] r Hout nx2) [.c c_event_Same] (args ++ List.replicate (8 - args.length) (.tup [])) Hin nx) : HCalls Try.prog F_event_Same args Hin nx r Hout nx2 :=
  hcallsF Try.checked.mixed Try.func137 ok_event_Same comp_event_Same rfl (rs := [.t 4]) (by kernel_rfl) φ ks h

/-- pedlar/event.shallow: parameters [29, 3], results [.t 4], calls event_shallow -/
def wl_z24z_0 : Mk := ⟨[true, false, true, true, true, true, true, true, false, false, false, true, true, true, true, true, true, true, true, true, true, true, true, true, true, true], [6]⟩
abbrev s_z24z_0 (t1 t8 t9 t10 : AV) : List AV := [.any, t1, .any, .any, .any, .any, .any, .any, t8, t9, t10, .any, .any, .any, .any, .any, .any, .any, .any, .any, .any, .any, .any, .any, .any, .any]
def c_z24z_l0 : Cd := (.seq (.reg [⟨some 11, none, (.bin .lss), [.t 10, .t 9]⟩]) (.seq (.cond (.t 11) .skip (.exit 0)) (.seq (.blk 1 [] (.seq (.reg [⟨some 12, none, (.ixS 2), [.t 8, .t 10]⟩, ⟨some 13, none, (.ldn 2), [.t 12]⟩, ⟨some 6, none, (.new [(.int .i64 0), .nils] 6), []⟩, ⟨none, none, (.st 2), [.t 6, .t 13]⟩]) (.seq (.reg [⟨some 14, none, .mv, [.t 1]⟩, ⟨some 15, none, (.bin .leq), [.t 14, .c (.int .i64 1)]⟩, ⟨some 16, none, .mv, [.t 15]⟩, ⟨some 17, (some (16, false)), (.ldn 2), [.t 6]⟩, ⟨some 18, (some (16, false)), .mv, [.t 1]⟩, ⟨some 19, (some (16, false)), (.bin .sub), [.t 18, .c (.int .i64 1)]⟩, ⟨some 20, (some (16, false)), (.call F_z24z 0), [.t 17, .t 19]⟩, ⟨some 21, (some (16, false)), .not, [.t 20]⟩, ⟨some 22, none, .pick, [.t 16, .c (.bool true), .t 21]⟩]) (.cond (.t 22) (.seq (.reg [⟨some 4, none, .mv, [.c (.bool false)]⟩]) .ret) .skip)))) (.reg [⟨some 23, none, (.bin .add), [.t 10, .c (.int .i64 1)]⟩, ⟨some 10, none, .mv, [.t 23]⟩]))))
def wb_z24z_0 : List Bool := [true, false, true, true, true, true, true, true, true, true, true, true, true, true, true, true, true, true, true, true, true, true, true, true, true, true]
abbrev e_z24z_0 (t1 : AV) : List AV := [.any, t1, .any, .any, .any, .any, .any, .any, .any, .any, .any, .any, .any, .any, .any, .any, .any, .any, .any, .any, .any, .any, .any, .any, .any, .any]
abbrev i_z24z_0 : List It := [.lp wl_z24z_0 c_z24z_l0, .blk 0 wb_z24z_0]
def c_z24z_k0 : Cd := (.seq (.reg [⟨some 24, none, .mv, [.t 1]⟩, ⟨some 25, none, (.bin .geq), [.t 24, .c (.int .i64 1)]⟩, ⟨some 4, none, .mv, [.t 25]⟩]) .ret)
def c_z24z : Cd := (.seq (.reg [⟨some 2, none, .box, [.t 0]⟩, ⟨some 4, none, .mv, [.c (.bool false)]⟩]) (.seq (.seq (.reg [⟨some 7, none, (.fa 1), [.t 2]⟩, ⟨some 8, none, .ld1, [.t 7]⟩, ⟨some 9, none, .len, [.t 8]⟩, ⟨some 10, none, .mv, [.c (.int .i64 0)]⟩]) (.blk 0 wb_z24z_0 (.loop wl_z24z_0 c_z24z_l0))) c_z24z_k0))
theorem comp_z24z : compF Try.prog (mset [] [] []) (cset [] [] []) (wset [(0, wl_z24z_0, wb_z24z_0)] []) Try.f143 = some c_z24z := by kernel_rfl
theorem ok_z24z : fnOk Try.prog F_z24z = true := by kernel_rfl
theorem calls_z24z {args : List AV} {r : AV} (h : RunsX Try.prog 0 (Gives [.t 4] r) [.c c_z24z] (args ++ List.replicate (26 - args.length) (.tup [])) [] zeroC) : PCalls Try.prog F_z24z args r :=
  pcallsF Try.checked.mixed Try.func143 ok_z24z comp_z24z rfl (rs := [.t 4]) (by kernel_rfl) h
theorem hcalls_z24z {args : List AV} {Hin Hout : Heap} {nx nx2 : Ctr} {r : AV} (φ : Nat) (ks : List (Nat × Nat)) (h : RunsX Try.prog φ (GivesH ks [.t 4] r Hout nx2) [.c c_z24z] (args ++ List.replicate (26 - args.length) (.tup [])) Hin nx) : HCalls Try.prog F_z24z args Hin nx r Hout nx2 :=
  hcallsF Try.checked.mixed Try.func143 ok_z24z comp_z24z rfl (rs := [.t 4]) (by kernel_rfl) φ ks h

/-- pedlar/event.clone: parameters [29], results [.cn 2 2], calls event_clone -/
def wl_z27z_0 : Mk := ⟨[true, true, false, false, true, true, true, true, true, true, false, false, false, true, true, true, true, true, true, true, true, true, true, true, true], [5]⟩
abbrev s_z27z_0 (t2 t3 t10 t11 t12 : AV) : List AV := [.any, .any, t2, t3, .any, .any, .any, .any, .any, .any, t10, t11, t12, .any, .any, .any, .any, .any, .any, .any, .any, .any, .any, .any, .any]
def c_z27z_l0 : Cd := (.seq (.reg [⟨some 13, none, (.bin .lss), [.t 12, .t 11]⟩]) (.seq (.cond (.t 13) .skip (.exit 0)) (.seq (.blk 1 [] (.seq (.reg [⟨some 14, none, (.ixS 2), [.t 10, .t 12]⟩, ⟨some 15, none, (.ldn 2), [.t 14]⟩, ⟨some 5, none, (.new [(.int .i64 0), .nils] 5), []⟩, ⟨none, none, (.st 2), [.t 5, .t 15]⟩]) (.reg [⟨some 16, none, (.fa 1), [.t 3]⟩, ⟨some 17, none, .ld1, [.t 16]⟩, ⟨some 18, none, (.ldn 2), [.t 5]⟩, ⟨some 19, none, (.call F_z27z 0), [.t 18]⟩, ⟨some 20, none, (.lit 2 1), [.t 19]⟩, ⟨some 21, none, (.app 2 32 21), [.t 17, .t 20]⟩, ⟨some 22, none, (.fa 1), [.t 3]⟩, ⟨none, none, (.st 1), [.t 22, .t 21]⟩]))) (.reg [⟨some 23, none, (.bin .add), [.t 12, .c (.int .i64 1)]⟩, ⟨some 12, none, .mv, [.t 23]⟩]))))
def wb_z27z_0 : List Bool := [true, true, false, false, true, true, true, true, true, true, true, true, true, true, true, true, true, true, true, true, true, true, true, true, true]
abbrev e_z27z_0 (t2 t3 : AV) : List AV := [.any, .any, t2, t3, .any, .any, .any, .any, .any, .any, .any, .any, .any, .any, .any, .any, .any, .any, .any, .any, .any, .any, .any, .any, .any]
abbrev i_z27z_0 : List It := [.lp wl_z27z_0 c_z27z_l0, .blk 0 wb_z27z_0]
def c_z27z_k0 : Cd := (.seq (.reg [⟨some 24, none, (.ldn 2), [.t 3]⟩, ⟨none, none, (.st 2), [.t 2, .t 24]⟩]) .ret)
def c_z27z : Cd := (.seq (.reg [⟨some 1, none, .box, [.t 0]⟩, ⟨some 2, none, (.new [(.int .i64 0), .nils] 2), []⟩]) (.seq (.reg [⟨some 6, none, (.fa 0), [.t 1]⟩, ⟨some 7, none, .ld1, [.t 6]⟩, ⟨some 8, none, (.bld [(.int .i64 0), .nils] [(0, 1)]), [.t 7]⟩, ⟨some 3, none, (.new [(.int .i64 0), .nils] 3), []⟩, ⟨none, none, (.st 2), [.t 3, .t 8]⟩]) (.seq (.seq (.reg [⟨some 9, none, (.fa 1), [.t 1]⟩, ⟨some 10, none, .ld1, [.t 9]⟩, ⟨some 11, none, .len, [.t 10]⟩, ⟨some 12, none, .mv, [.c (.int .i64 0)]⟩]) (.blk 0 wb_z27z_0 (.loop wl_z27z_0 c_z27z_l0))) c_z27z_k0)))
theorem comp_z27z : compF Try.prog (mset [] [] []) (cset [] [] []) (wset [(0, wl_z27z_0, wb_z27z_0)] []) Try.f144 = some c_z27z := by kernel_rfl
theorem ok_z27z : fnOk Try.prog F_z27z = true := by kernel_rfl
theorem calls_z27z {args : List AV} {r : AV} (h : RunsX Try.prog 0 (Gives [.cn 2 2] r) [.c c_z27z] (args ++ List.replicate (25 - args.length) (.tup [])) [] zeroC) : PCalls Try.prog F_z27z args r :=
  pcallsF Try.checked.mixed Try.func144 ok_z27z comp_z27z rfl (rs := [.cn 2 2]) (by kernel_rfl) h
theorem hcalls_z27z {args : List AV} {Hin Hout : Heap} {nx nx2 : Ctr} {r : AV} (φ : Nat) (ks : List (Nat × Nat)) (h : RunsX Try.prog φ (GivesH ks [.cn 2 2] r Hout nx2) [.c c_z27z] (args ++ List.replicate (25 - args.length) (.tup [])) Hin nx) : HCalls Try.prog F_z27z args Hin nx r Hout nx2 :=
  hcallsF Try.checked.mixed Try.func144 ok_z27z comp_z27z rfl (rs := [.cn 2 2]) (by kernel_rfl) φ ks h

/-- pedlar/event.Clone: parameters [29], results [.cn 2 2], calls event_shallow, event_clone -/
def c_event_Clone : Cd := (.seq (.reg [⟨some 1, none, .box, [.t 0]⟩, ⟨some 2, none, (.new [(.int .i64 0), .nils] 2), []⟩]) (.seq (.seq (.reg [⟨some 3, none, (.ldn 2), [.t 1]⟩, ⟨some 4, none, (.call F_z24z 0), [.t 3, .c (.int .i64 8)]⟩, ⟨some 5, none, .not, [.t 4]⟩]) (.cond (.t 5) (.seq (.reg [⟨some 6, none, (.bld [(.int .i64 0), .nils] []), []⟩, ⟨none, none, (.st 2), [.t 2, .t 6]⟩]) .ret) .skip)) (.seq (.reg [⟨some 7, none, (.ldn 2), [.t 1]⟩, ⟨some 8, none, (.call F_z27z 0), [.t 7]⟩, ⟨none, none, (.st 2), [.t 2, .t 8]⟩]) .ret)))
theorem comp_event_Clone : compF Try.prog (mset [] [] []) (cset [] [] []) (wset [] []) Try.f62 = some c_event_Clone := by kernel_rfl
theorem ok_event_Clone : fnOk Try.prog F_event_Clone = true := by kernel_rfl
theorem calls_event_Clone {args : List AV} {r : AV} (h : RunsX Try.prog 0 (Gives [.cn 2 2] r) [.c c_event_Clone] (args ++ List.replicate (9 - args.length) (.tup [])) [] zeroC) : PCalls Try.prog F_event_Clone args r :=
  pcallsF Try.checked.mixed Try.func62 ok_event_Clone comp_event_Clone rfl (rs := [.cn 2 2]) (by kernel_rfl) h
theorem hcalls_event_Clone {args : List AV} {Hin Hout : Heap} {nx nx2 : Ctr} {r : AV} (φ : Nat) (ks : List (Nat × Nat)) (h : RunsX Try.prog φ (GivesH ks [.cn 2 2] r Hout nx2) [.c c_event_Clone] (args ++ List.replicate (9 - args.length) (.tup [])) Hin nx) : HCalls Try.prog F_event_Clone args Hin nx r Hout nx2 :=
  hcallsF Try.checked.mixed Try.func62 ok_event_Clone comp_event_Clone rfl (rs := [.cn 2 2]) (by kernel_rfl) φ ks h

/-- pedlar/event.lift: parameters [29, 2], results [.cn 4 2], calls  -/
def c_event_lift : Cd := (.seq (.reg [⟨some 2, none, .box, [.t 0]⟩, ⟨some 4, none, (.new [(.int .i64 0), .nils] 4), []⟩]) (.seq (.reg [⟨some 5, none, (.fa 0), [.t 2]⟩, ⟨some 6, none, .ld1, [.t 5]⟩, ⟨some 7, none, .mv, [.t 1]⟩, ⟨some 8, none, (.bin .add), [.t 6, .t 7]⟩, ⟨some 9, none, (.fa 1), [.t 2]⟩, ⟨some 10, none, .ld1, [.t 9]⟩, ⟨some 11, none, (.bld [(.int .i64 0), .nils] [(0, 1), (1, 1)]), [.t 8, .t 10]⟩, ⟨none, none, (.st 2), [.t 4, .t 11]⟩]) .ret))
theorem comp_event_lift : compF Try.prog (mset [] [] []) (cset [] [] []) (wset [] []) Try.f195 = some c_event_lift := by kernel_rfl
theorem ok_event_lift : fnOk Try.prog F_event_lift = true := by kernel_rfl
theorem calls_event_lift {args : List AV} {r : AV} (h : RunsX Try.prog 0 (Gives [.cn 4 2] r) [.c c_event_lift] (args ++ List.replicate (12 - args.length) (.tup [])) [] zeroC) : PCalls Try.prog F_event_lift args r :=
  pcallsF Try.checked.mixed Try.func195 ok_event_lift comp_event_lift rfl (rs := [.cn 4 2]) (by kernel_rfl) h
theorem hcalls_event_lift {args : List AV} {Hin Hout : Heap} {nx nx2 : Ctr} {r : AV} (φ : Nat) (ks : List (Nat × Nat)) (h : RunsX Try.prog φ (GivesH ks [.cn 4 2] r Hout nx2) [.c c_event_lift] (args ++ List.replicate (12 - args.length) (.tup [])) Hin nx) : HCalls Try.prog F_event_lift args Hin nx r Hout nx2 :=
  hcallsF Try.checked.mixed Try.func195 ok_event_lift comp_event_lift rfl (rs := [.cn 4 2]) (by kernel_rfl) φ ks h

/-- pedlar/event.half: parameters [29, 3], results [.cn 4 2], calls event_leaf, event_lift -/
def c_event_half : Cd := (.seq (.reg [⟨some 2, none, .box, [.t 0]⟩, ⟨some 4, none, (.new [(.int .i64 0), .nils] 4), []⟩]) (.seq (.seq (.reg [⟨some 5, none, (.ldn 2), [.t 2]⟩, ⟨some 6, none, (.call F_event_leaf 0), [.t 5]⟩]) (.cond (.t 6) (.seq (.reg [⟨some 7, none, (.ldn 2), [.t 2]⟩, ⟨none, none, (.st 2), [.t 4, .t 7]⟩]) .ret) .skip)) (.seq (.reg [⟨some 8, none, (.fa 1), [.t 2]⟩, ⟨some 9, none, .ld1, [.t 8]⟩, ⟨some 10, none, .mv, [.t 1]⟩, ⟨some 11, none, (.ixS 2), [.t 9, .t 10]⟩, ⟨some 12, none, (.ldn 2), [.t 11]⟩, ⟨some 13, none, (.fa 0), [.t 2]⟩, ⟨some 14, none, .ld1, [.t 13]⟩, ⟨some 15, none, (.call F_event_lift 0), [.t 12, .t 14]⟩, ⟨none, none, (.st 2), [.t 4, .t 15]⟩]) .ret)))
theorem comp_event_half : compF Try.prog (mset [] [] []) (cset [] [] []) (wset [] []) Try.f198 = some c_event_half := by kernel_rfl
theorem ok_event_half : fnOk Try.prog F_event_half = true := by kernel_rfl
theorem calls_event_half {args : List AV} {r : AV} (h : RunsX Try.prog 0 (Gives [.cn 4 2] r) [.c c_event_half] (args ++ List.replicate (16 - args.length) (.tup [])) [] zeroC) : PCalls Try.prog F_event_half args r :=
  pcallsF Try.checked.mixed Try.func198 ok_event_half comp_event_half rfl (rs := [.cn 4 2]) (by kernel_rfl) h
theorem hcalls_event_half {args : List AV} {Hin Hout : Heap} {nx nx2 : Ctr} {r : AV} (φ : Nat) (ks : List (Nat × Nat)) (h : RunsX Try.prog φ (GivesH ks [.cn 4 2] r Hout nx2) [.c c_event_half] (args ++ List.replicate (16 - args.length) (.tup [])) Hin nx) : HCalls Try.prog F_event_half args Hin nx r Hout nx2 :=
  hcallsF Try.checked.mixed Try.func198 ok_event_half comp_event_half rfl (rs := [.cn 4 2]) (by kernel_rfl) φ ks h

/-- pedlar/event.leq: parameters [29, 29], results [.t 4], calls event_leaf, event_half, event_leq -/
def c_event_leq : Cd := (.seq (.reg [⟨some 2, none, .box, [.t 0]⟩, ⟨some 3, none, .box, [.t 1]⟩, ⟨some 4, none, .mv, [.c (.bool false)]⟩]) (.seq (.seq (.reg [⟨some 5, none, (.ldn 2), [.t 2]⟩, ⟨some 6, none, (.call F_event_leaf 0), [.t 5]⟩, ⟨some 7, none, .mv, [.t 6]⟩, ⟨some 8, (some (7, true)), (.ldn 2), [.t 3]⟩, ⟨some 9, (some (7, true)), (.call F_event_leaf 0), [.t 8]⟩, ⟨some 10, none, .pick, [.t 7, .t 9, .c (.bool false)]⟩]) (.cond (.t 10) (.seq (.reg [⟨some 11, none, (.fa 0), [.t 2]⟩, ⟨some 12, none, .ld1, [.t 11]⟩, ⟨some 13, none, (.fa 0), [.t 3]⟩, ⟨some 14, none, .ld1, [.t 13]⟩, ⟨some 15, none, (.bin .leq), [.t 12, .t 14]⟩, ⟨some 4, none, .mv, [.t 15]⟩]) .ret) .skip)) (.seq (.reg [⟨some 16, none, (.ldn 2), [.t 2]⟩, ⟨some 17, none, (.call F_event_half 0), [.t 16, .c (.int .i64 0)]⟩, ⟨some 18, none, (.ldn 2), [.t 3]⟩, ⟨some 19, none, (.call F_event_half 0), [.t 18, .c (.int .i64 0)]⟩, ⟨some 20, none, (.call F_event_leq 0), [.t 17, .t 19]⟩, ⟨some 21, none, .mv, [.t 20]⟩, ⟨some 22, (some (21, true)), (.ldn 2), [.t 2]⟩, ⟨some 23, (some (21, true)), (.call F_event_half 0), [.t 22, .c (.int .i64 1)]⟩, ⟨some 24, (some (21, true)), (.ldn 2), [.t 3]⟩, ⟨some 25, (some (21, true)), (.call F_event_half 0), [.t 24, .c (.int .i64 1)]⟩, ⟨some 26, (some (21, true)), (.call F_event_leq 0), [.t 23, .t 25]⟩, ⟨some 27, none, .pick, [.t 21, .t 26, .c (.bool false)]⟩, ⟨some 4, none, .mv, [.t 27]⟩]) .ret)))
theorem comp_event_leq : compF Try.prog (mset [] [] []) (cset [] [] []) (wset [] []) Try.f150 = some c_event_leq := by kernel_rfl
theorem ok_event_leq : fnOk Try.prog F_event_leq = true := by kernel_rfl
theorem calls_event_leq {args : List AV} {r : AV} (h : RunsX Try.prog 0 (Gives [.t 4] r) [.c c_event_leq] (args ++ List.replicate (28 - args.length) (.tup [])) [] zeroC) : PCalls Try.prog F_event_leq args r :=
  pcallsF Try.checked.mixed Try.func150 ok_event_leq comp_event_leq rfl (rs := [.t 4]) (by kernel_rfl) h
theorem hcalls_event_leq {args : List AV} {Hin Hout : Heap} {nx nx2 : Ctr} {r : AV} (φ : Nat) (ks : List (Nat × Nat)) (h : RunsX Try.prog φ (GivesH ks [.t 4] r Hout nx2) [.c c_event_leq] (args ++ List.replicate (28 - args.length) (.tup [])) Hin nx) : HCalls Try.prog F_event_leq args Hin nx r Hout nx2 :=
  hcallsF Try.checked.mixed Try.func150 ok_event_leq comp_event_leq rfl (rs := [.t 4]) (by kernel_rfl) φ ks h

/-- pedlar/event.Leq: parameters [29, 29], results [.t 4], calls event_Right, event_leq -/
def c_event_Leq : Cd := (.seq (.reg [⟨some 2, none, .box, [.t 0]⟩, ⟨some 3, none, .box, [.t 1]⟩, ⟨some 4, none, .mv, [.c (.bool false)]⟩]) (.seq (.reg [⟨some 5, none, (.ldn 2), [.t 2]⟩, ⟨some 6, none, (.call F_event_Right 0), [.t 5]⟩, ⟨some 7, none, .mv, [.t 6]⟩, ⟨some 8, (some (7, true)), (.ldn 2), [.t 3]⟩, ⟨some 9, (some (7, true)), (.call F_event_Right 0), [.t 8]⟩, ⟨some 10, none, .pick, [.t 7, .t 9, .c (.bool false)]⟩, ⟨some 11, none, .mv, [.t 10]⟩, ⟨some 12, (some (11, true)), (.ldn 2), [.t 2]⟩, ⟨some 13, (some (11, true)), (.ldn 2), [.t 3]⟩, ⟨some 14, (some (11, true)), (.call F_event_leq 0), [.t 12, .t 13]⟩, ⟨some 15, none, .pick, [.t 11, .t 14, .c (.bool false)]⟩, ⟨some 4, none, .mv, [.t 15]⟩]) .ret))
theorem comp_event_Leq : compF Try.prog (mset [] [] []) (cset [] [] []) (wset [] []) Try.f68 = some c_event_Leq := by kernel_rfl
theorem ok_event_Leq : fnOk Try.prog F_event_Leq = true := by kernel_rfl
theorem calls_event_Leq {args : List AV} {r : AV} (h : RunsX Try.prog 0 (Gives [.t 4] r) [.c c_event_Leq] (args ++ List.replicate (16 - args.length) (.tup [])) [] zeroC) : PCalls Try.prog F_event_Leq args r :=
  pcallsF Try.checked.mixed Try.func68 ok_event_Leq comp_event_Leq rfl (rs := [.t 4]) (by kernel_rfl) h
theorem hcalls_event_Leq {args : List AV} {Hin Hout : Heap} {nx nx2 : Ctr} {r : AV} (φ : Nat) (ks : List (Nat × Nat)) (h : RunsX Try.prog φ (GivesH ks [.t 4] r Hout nx2) [.c c_event_Leq] (args ++ List.replicate (16 - args.length) (.tup [])) Hin nx) : HCalls Try.prog F_event_Leq args Hin nx r Hout nx2 :=
  hcallsF Try.checked.mixed Try.func68 ok_event_Leq comp_event_Leq rfl (rs := [.t 4]) (by kernel_rfl) φ ks h

/-- pedlar/pedlarref04.EDeep: parameters [29, 3], results [.t 4], calls ref04_EDeep -/
def wl_z32z_0 : Mk := ⟨[true, false, false, true, true, false, true, true, true, true, true, false, false, true, true, true, true, true, true, true, true, true, true, true, true, true, true, true], []⟩
abbrev s_z32z_0 (t1 t2 t5 t11 t12 : AV) : List AV := [.any, t1, t2, .any, .any, t5, .any, .any, .any, .any, .any, t11, t12, .any, .any, .any, .any, .any, .any, .any, .any, .any, .any, .any, .any, .any, .any, .any]
def c_z32z_l0 : Cd := (.seq (.reg [⟨some 13, none, (.bin .lss), [.t 12, .t 11]⟩]) (.seq (.cond (.t 13) .skip (.exit 0)) (.seq (.blk 1 [] (.seq (.reg [⟨some 14, none, .mv, [.t 12]⟩, ⟨some 6, none, .mv, [.t 14]⟩]) (.reg [⟨some 15, none, .mv, [.t 5]⟩, ⟨some 16, none, (.fa 1), [.t 2]⟩, ⟨some 17, none, .ld1, [.t 16]⟩, ⟨some 18, none, .mv, [.t 6]⟩, ⟨some 19, none, (.ixS 2), [.t 17, .t 18]⟩, ⟨some 20, none, (.ldn 2), [.t 19]⟩, ⟨some 21, none, .mv, [.t 1]⟩, ⟨some 22, none, (.bin .sub), [.t 21, .c (.int .i64 1)]⟩, ⟨some 23, none, (.call F_z32z 0), [.t 20, .t 22]⟩, ⟨some 24, none, .mx, [.t 15, .t 23]⟩, ⟨some 5, none, .mv, [.t 24]⟩]))) (.reg [⟨some 25, none, (.bin .add), [.t 12, .c (.int .i64 1)]⟩, ⟨some 12, none, .mv, [.t 25]⟩]))))
def wb_z32z_0 : List Bool := [true, true, true, true, true, false, true, true, true, true, true, true, true, true, true, true, true, true, true, true, true, true, true, true, true, true, true, true]
abbrev e_z32z_0 (t5 : AV) : List AV := [.any, .any, .any, .any, .any, t5, .any, .any, .any, .any, .any, .any, .any, .any, .any, .any, .any, .any, .any, .any, .any, .any, .any, .any, .any, .any, .any, .any]
abbrev i_z32z_0 : List It := [.lp wl_z32z_0 c_z32z_l0, .blk 0 wb_z32z_0]
def c_z32z_k0 : Cd := (.seq (.reg [⟨some 26, none, .mv, [.t 5]⟩, ⟨some 27, none, (.bin .add), [.t 26, .c (.int .i64 1)]⟩, ⟨some 4, none, .mv, [.t 27]⟩]) .ret)
def c_z32z : Cd := (.seq (.reg [⟨some 2, none, .box, [.t 0]⟩, ⟨some 4, none, .mv, [.c (.int .i64 0)]⟩]) (.seq (.seq (.reg [⟨some 7, none, .mv, [.t 1]⟩, ⟨some 8, none, (.bin .lss), [.t 7, .c (.int .i64 1)]⟩]) (.cond (.t 8) (.seq (.reg [⟨some 4, none, .mv, [.c (.int .i64 1)]⟩]) .ret) .skip)) (.seq (.reg [⟨some 5, none, .mv, [.c (.int .i64 0)]⟩]) (.seq (.seq (.reg [⟨some 9, none, (.fa 1), [.t 2]⟩, ⟨some 10, none, .ld1, [.t 9]⟩, ⟨some 11, none, .len, [.t 10]⟩, ⟨some 12, none, .mv, [.c (.int .i64 0)]⟩]) (.blk 0 wb_z32z_0 (.loop wl_z32z_0 c_z32z_l0))) c_z32z_k0))))
theorem comp_z32z : compF Try.prog (mset [] [] []) (cset [] [] []) (wset [(0, wl_z32z_0, wb_z32z_0)] []) Try.f208 = some c_z32z := by kernel_rfl
theorem ok_z32z : fnOk Try.prog F_z32z = true := by kernel_rfl
theorem calls_z32z {args : List AV} {r : AV} (h : RunsX Try.prog 0 (Gives [.t 4] r) [.c c_z32z] (args ++ List.replicate (28 - args.length) (.tup [])) [] zeroC) : PCalls Try.prog F_z32z args r :=
  pcallsF Try.checked.mixed Try.func208 ok_z32z comp_z32z rfl (rs := [.t 4]) (by kernel_rfl) h
theorem hcalls_z32z {args : List AV} {Hin Hout : Heap} {nx nx2 : Ctr} {r : AV} (φ : Nat) (ks : List (Nat × Nat)) (h : RunsX Try.prog φ (GivesH ks [.t 4] r Hout nx2) [.c c_z32z] (args ++ List.replicate (28 - args.length) (.tup [])) Hin nx) : HCalls Try.prog F_z32z args Hin nx r Hout nx2 :=
  hcallsF Try.checked.mixed Try.func208 ok_z32z comp_z32z rfl (rs := [.t 4]) (by kernel_rfl) φ ks h

/-- pedlar/pedlarref04.ecount: parameters [29], results [.t 2, .t 3], calls ref04_ecount -/
def c_ref04_ecount : Cd := (.seq (.reg [⟨some 1, none, .box, [.t 0]⟩, ⟨some 2, none, .mv, [.c (.int .i64 0)]⟩, ⟨some 3, none, .mv, [.c (.bool false)]⟩]) (.seq (.seq (.reg [⟨some 11, none, (.fa 0), [.t 1]⟩, ⟨some 12, none, .ld1, [.t 11]⟩, ⟨some 13, none, (.bin .lss), [.t 12, .c (.int .i64 0)]⟩, ⟨some 14, none, .mv, [.t 13]⟩, ⟨some 15, (some (14, false)), (.fa 0), [.t 1]⟩, ⟨some 16, (some (14, false)), .ld1, [.t 15]⟩, ⟨some 17, (some (14, false)), (.bin .gtr), [.t 16, .c (.int .i64 1099511627776)]⟩, ⟨some 18, none, .pick, [.t 14, .c (.bool true), .t 17]⟩]) (.cond (.t 18) (.seq (.reg [⟨some 2, none, .mv, [.c (.int .i64 0)]⟩, ⟨some 3, none, .mv, [.c (.bool false)]⟩]) .ret) .skip)) (.seq (.seq (.reg [⟨some 19, none, (.fa 1), [.t 1]⟩, ⟨some 20, none, .ld1, [.t 19]⟩, ⟨some 21, none, .len, [.t 20]⟩, ⟨some 22, none, (.bin .eql), [.t 21, .c (.int .i64 0)]⟩]) (.cond (.t 22) (.seq (.reg [⟨some 2, none, .mv, [.c (.int .i64 1)]⟩, ⟨some 3, none, .mv, [.c (.bool true)]⟩]) .ret) .skip)) (.seq (.seq (.reg [⟨some 23, none, (.fa 1), [.t 1]⟩, ⟨some 24, none, .ld1, [.t 23]⟩, ⟨some 25, none, .len, [.t 24]⟩, ⟨some 26, none, (.bin .neq), [.t 25, .c (.int .i64 2)]⟩]) (.cond (.t 26) (.seq (.reg [⟨some 2, none, .mv, [.c (.int .i64 0)]⟩, ⟨some 3, none, .mv, [.c (.bool false)]⟩]) .ret) .skip)) (.seq (.reg [⟨some 28, none, (.fa 1), [.t 1]⟩, ⟨some 29, none, .ld1, [.t 28]⟩, ⟨some 30, none, (.ixS 2), [.t 29, .c (.int .i64 0)]⟩, ⟨some 31, none, (.ldn 2), [.t 30]⟩, ⟨some 32, none, (.call F_ref04_ecount 0), [.t 31]⟩, ⟨some 27, none, .mv, [.t 32]⟩, ⟨some 33, none, (.ext 0), [.t 27]⟩, ⟨some 34, none, (.ext 1), [.t 27]⟩, ⟨some 4, none, .mv, [.t 33]⟩, ⟨some 5, none, .mv, [.t 34]⟩]) (.seq (.reg [⟨some 36, none, (.fa 1), [.t 1]⟩, ⟨some 37, none, .ld1, [.t 36]⟩, ⟨some 38, none, (.ixS 2), [.t 37, .c (.int .i64 1)]⟩, ⟨some 39, none, (.ldn 2), [.t 38]⟩, ⟨some 40, none, (.call F_ref04_ecount 0), [.t 39]⟩, ⟨some 35, none, .mv, [.t 40]⟩, ⟨some 41, none, (.ext 0), [.t 35]⟩, ⟨some 42, none, (.ext 1), [.t 35]⟩, ⟨some 6, none, .mv, [.t 41]⟩, ⟨some 7, none, .mv, [.t 42]⟩]) (.seq (.reg [⟨some 43, none, (.fa 1), [.t 1]⟩, ⟨some 44, none, .ld1r, [.t 43]⟩, ⟨some 45, none, (.ixS 2), [.t 44, .c (.int .i64 0)]⟩, ⟨some 46, none, (.ldnr 2), [.t 45]⟩, ⟨some 47, none, (.fa 1), [.t 1]⟩, ⟨some 48, none, .ld1r, [.t 47]⟩, ⟨some 49, none, (.ixS 2), [.t 48, .c (.int .i64 1)]⟩, ⟨some 50, none, (.ldnr 2), [.t 49]⟩, ⟨some 8, none, (.new [(.int .i64 0), .nils] 8), []⟩, ⟨some 9, none, (.new [(.int .i64 0), .nils] 9), []⟩, ⟨none, none, (.stk 2 8), [.t 8, .t 46]⟩, ⟨none, none, (.stk 2 9), [.t 9, .t 50]⟩]) (.seq (.reg [⟨some 51, none, (.fa 1), [.t 8]⟩, ⟨some 52, none, .ld1, [.t 51]⟩, ⟨some 53, none, .len, [.t 52]⟩, ⟨some 54, none, (.bin .eql), [.t 53, .c (.int .i64 0)]⟩, ⟨some 55, none, .mv, [.t 54]⟩, ⟨some 56, (some (55, true)), (.fa 1), [.t 9]⟩, ⟨some 57, (some (55, true)), .ld1, [.t 56]⟩, ⟨some 58, (some (55, true)), .len, [.t 57]⟩, ⟨some 59, (some (55, true)), (.bin .eql), [.t 58, .c (.int .i64 0)]⟩, ⟨some 60, none, .pick, [.t 55, .t 59, .c (.bool false)]⟩, ⟨some 61, none, .mv, [.t 60]⟩, ⟨some 62, (some (61, true)), (.fa 0), [.t 8]⟩, ⟨some 63, (some (61, true)), .ld1, [.t 62]⟩, ⟨some 64, (some (61, true)), (.fa 0), [.t 9]⟩, ⟨some 65, (some (61, true)), .ld1, [.t 64]⟩, ⟨some 66, (some (61, true)), (.bin .eql), [.t 63, .t 65]⟩, ⟨some 67, none, .pick, [.t 61, .t 66, .c (.bool false)]⟩, ⟨some 10, none, .mv, [.t 67]⟩]) (.seq (.reg [⟨some 68, none, .mv, [.t 4]⟩, ⟨some 69, none, .mv, [.t 6]⟩, ⟨some 70, none, (.bin .add), [.t 68, .t 69]⟩, ⟨some 71, none, (.bin .add), [.t 70, .c (.int .i64 1)]⟩, ⟨some 72, none, .mn, [.t 71, .c (.int .i64 1000)]⟩, ⟨some 73, none, .mv, [.t 5]⟩, ⟨some 74, none, .mv, [.t 73]⟩, ⟨some 75, (some (74, true)), .mv, [.t 7]⟩, ⟨some 76, none, .pick, [.t 74, .t 75, .c (.bool false)]⟩, ⟨some 77, none, .mv, [.t 76]⟩, ⟨some 78, (some (77, true)), .mv, [.t 10]⟩, ⟨some 79, (some (77, true)), .not, [.t 78]⟩, ⟨some 80, none, .pick, [.t 77, .t 79, .c (.bool false)]⟩, ⟨some 81, none, .mv, [.t 80]⟩, ⟨some 82, (some (81, true)), (.fa 0), [.t 8]⟩, ⟨some 83, (some (81, true)), .ld1, [.t 82]⟩, ⟨some 84, (some (81, true)), (.bin .eql), [.t 83, .c (.int .i64 0)]⟩, ⟨some 85, (some (81, true)), .mv, [.t 84]⟩, ⟨some 86, (some (85, false)), (.fa 0), [.t 9]⟩, ⟨some 87, (some (85, false)), .ld1, [.t 86]⟩, ⟨some 88, (some (85, false)), (.bin .eql), [.t 87, .c (.int .i64 0)]⟩, ⟨some 89, (some (81, true)), .pick, [.t 85, .c (.bool true), .t 88]⟩, ⟨some 90, none, .pick, [.t 81, .t 89, .c (.bool false)]⟩, ⟨some 2, none, .mv, [.t 72]⟩, ⟨some 3, none, .mv, [.t 90]⟩]) .ret)))))))))
theorem comp_ref04_ecount : compF Try.prog (mset [] [44, 46, 48, 50] [8, 9]) (cset [] [] []) (wset [] []) Try.f209 = some c_ref04_ecount := by kernel_rfl
theorem ok_ref04_ecount : fnOk Try.prog F_ref04_ecount = true := by kernel_rfl
theorem calls_ref04_ecount {args : List AV} {r : AV} (h : RunsX Try.prog 0 (Gives [.t 2, .t 3] r) [.c c_ref04_ecount] (args ++ List.replicate (91 - args.length) (.tup [])) [] zeroC) : PCalls Try.prog F_ref04_ecount args r :=
  pcallsF Try.checked.mixed Try.func209 ok_ref04_ecount comp_ref04_ecount rfl (rs := [.t 2, .t 3]) (by kernel_rfl) h
theorem hcalls_ref04_ecount {args : List AV} {Hin Hout : Heap} {nx nx2 : Ctr} {r : AV} (φ : Nat) (ks : List (Nat × Nat)) (h : RunsX Try.prog φ (GivesH ks [.t 2, .t 3] r Hout nx2) [.c c_ref04_ecount] (args ++ List.replicate (91 - args.length) (.tup [])) Hin nx) : HCalls Try.prog F_ref04_ecount args Hin nx r Hout nx2 :=
  hcallsF Try.checked.mixed Try.func209 ok_ref04_ecount comp_ref04_ecount rfl (rs := [.t 2, .t 3]) (by kernel_rfl) φ ks h

/-- pedlar/pedlarref04.ERight: parameters [29], results [.t 2], calls ref04_EDeep, ref04_ecount -/
def c_ref04_ERight : Cd := (.seq (.reg [⟨some 1, none, .box, [.t 0]⟩, ⟨some 2, none, .mv, [.c (.bool false)]⟩]) (.seq (.seq (.reg [⟨some 5, none, (.ldn 2), [.t 1]⟩, ⟨some 6, none, (.call F_z32z 0), [.t 5, .c (.int .i64 8)]⟩, ⟨some 7, none, (.bin .gtr), [.t 6, .c (.int .i64 8)]⟩]) (.cond (.t 7) (.seq (.reg [⟨some 2, none, .mv, [.c (.bool false)]⟩]) .ret) .skip)) (.seq (.reg [⟨some 9, none, (.ldn 2), [.t 1]⟩, ⟨some 10, none, (.call F_ref04_ecount 0), [.t 9]⟩, ⟨some 8, none, .mv, [.t 10]⟩, ⟨some 11, none, (.ext 0), [.t 8]⟩, ⟨some 12, none, (.ext 1), [.t 8]⟩, ⟨some 3, none, .mv, [.t 11]⟩, ⟨some 4, none, .mv, [.t 12]⟩]) (.seq (.reg [⟨some 13, none, .mv, [.t 4]⟩, ⟨some 14, none, .mv, [.t 13]⟩, ⟨some 15, (some (14, true)), .mv, [.t 3]⟩, ⟨some 16, (some (14, true)), (.bin .leq), [.t 15, .c (.int .i64 60)]⟩, ⟨some 17, none, .pick, [.t 14, .t 16, .c (.bool false)]⟩, ⟨some 2, none, .mv, [.t 17]⟩]) .ret))))
theorem comp_ref04_ERight : compF Try.prog (mset [] [] []) (cset [] [] []) (wset [] []) Try.f167 = some c_ref04_ERight := by kernel_rfl
theorem ok_ref04_ERight : fnOk Try.prog F_ref04_ERight = true := by kernel_rfl
theorem calls_ref04_ERight {args : List AV} {r : AV} (h : RunsX Try.prog 0 (Gives [.t 2] r) [.c c_ref04_ERight] (args ++ List.replicate (18 - args.length) (.tup [])) [] zeroC) : PCalls Try.prog F_ref04_ERight args r :=
  pcallsF Try.checked.mixed Try.func167 ok_ref04_ERight comp_ref04_ERight rfl (rs := [.t 2]) (by kernel_rfl) h
theorem hcalls_ref04_ERight {args : List AV} {Hin Hout : Heap} {nx nx2 : Ctr} {r : AV} (φ : Nat) (ks : List (Nat × Nat)) (h : RunsX Try.prog φ (GivesH ks [.t 2] r Hout nx2) [.c c_ref04_ERight] (args ++ List.replicate (18 - args.length) (.tup [])) Hin nx) : HCalls Try.prog F_ref04_ERight args Hin nx r Hout nx2 :=
  hcallsF Try.checked.mixed Try.func167 ok_ref04_ERight comp_ref04_ERight rfl (rs := [.t 2]) (by kernel_rfl) φ ks h

/-- pedlar/pedlarref04.ERow: parameters [29], results [.t 2], calls  -/
def wl_z34z_2 : Mk := ⟨[true, false, true, false, false, false, false, false, true, true, false, false, true, true, true, true, true, true, true, true, true, true, true, true, true, true, true, true, true, true, true, true, true, true, true, true, true, true, true, true, true], []⟩
abbrev s_z34z_2 (t1 t3 t4 t5 t6 t7 t10 t11 : AV) : List AV := [.any, t1, .any, t3, t4, t5, t6, t7, .any, .any, t10, t11, .any, .any, .any, .any, .any, .any, .any, .any, .any, .any, .any, .any, .any, .any, .any, .any, .any, .any, .any, .any, .any, .any, .any, .any, .any, .any, .any, .any, .any]
def c_z34z_l2 : Cd := (.seq (.seq (.reg [⟨some 17, none, (.fa 1), [.t 5]⟩, ⟨some 18, none, .ld1, [.t 17]⟩, ⟨some 19, none, .len, [.t 18]⟩, ⟨some 20, none, (.bin .eql), [.t 19, .c (.int .i64 2)]⟩]) (.cond (.t 20) .skip (.exit 2))) (.seq (.blk 3 [] (.seq (.reg [⟨some 23, none, (.fa 1), [.t 5]⟩, ⟨some 24, none, .ld1, [.t 23]⟩, ⟨some 25, none, .mv, [.t 4]⟩, ⟨some 26, none, .mv, [.t 7]⟩, ⟨some 27, none, (.bin .quo), [.t 25, .t 26]⟩, ⟨some 28, none, (.bin .rem), [.t 27, .c (.int .i64 2)]⟩, ⟨some 29, none, (.ixS 2), [.t 24, .t 28]⟩, ⟨some 30, none, (.ldn 2), [.t 29]⟩, ⟨none, none, (.st 2), [.t 5, .t 30]⟩]) (.reg [⟨some 31, none, .mv, [.t 6]⟩, ⟨some 32, none, (.fa 0), [.t 5]⟩, ⟨some 33, none, .ld1, [.t 32]⟩, ⟨some 34, none, (.bin .add), [.t 31, .t 33]⟩, ⟨some 6, none, .mv, [.t 34]⟩]))) (.reg [⟨some 21, none, .mv, [.t 7]⟩, ⟨some 22, none, (.bin .quo), [.t 21, .c (.int .i64 2)]⟩, ⟨some 7, none, .mv, [.t 22]⟩])))
def wb_z34z_2 : List Bool := [true, false, true, false, false, true, false, true, true, true, false, false, true, true, true, true, true, true, true, true, true, true, true, true, true, true, true, true, true, true, true, true, true, true, true, true, true, true, true, true, true]
abbrev e_z34z_2 (t1 t3 t4 t6 t10 t11 : AV) : List AV := [.any, t1, .any, t3, t4, .any, t6, .any, .any, .any, t10, t11, .any, .any, .any, .any, .any, .any, .any, .any, .any, .any, .any, .any, .any, .any, .any, .any, .any, .any, .any, .any, .any, .any, .any, .any, .any, .any, .any, .any, .any]
abbrev i_z34z_2 : List It := [.lp wl_z34z_2 c_z34z_l2, .blk 2 wb_z34z_2]
def c_z34z_k0 : Cd := (.reg [⟨some 35, none, .mv, [.t 3]⟩, ⟨some 36, none, .mv, [.t 4]⟩, ⟨some 37, none, .mv, [.t 6]⟩, ⟨some 38, none, (.ixS 1), [.t 35, .t 36]⟩, ⟨none, none, (.st 1), [.t 38, .t 37]⟩])
def wb_z34z_1 : List Bool := [true, false, true, false, true, true, true, true, true, true, false, false, true, true, true, true, true, true, true, true, true, true, true, true, true, true, true, true, true, true, true, true, true, true, true, true, true, true, true, true, true]
abbrev e_z34z_1 (t1 t3 t10 t11 : AV) : List AV := [.any, t1, .any, t3, .any, .any, .any, .any, .any, .any, t10, t11, .any, .any, .any, .any, .any, .any, .any, .any, .any, .any, .any, .any, .any, .any, .any, .any, .any, .any, .any, .any, .any, .any, .any, .any, .any, .any, .any, .any, .any]
def c_z34z_k1 : Cd := (.reg [⟨some 39, none, (.bin .add), [.t 11, .c (.int .i64 1)]⟩, ⟨some 11, none, .mv, [.t 39]⟩])
def wl_z34z_0 : Mk := ⟨[true, false, true, false, true, true, true, true, true, true, false, false, true, true, true, true, true, true, true, true, true, true, true, true, true, true, true, true, true, true, true, true, true, true, true, true, true, true, true, true, true], [5]⟩
abbrev s_z34z_0 (t1 t3 t10 t11 : AV) : List AV := [.any, t1, .any, t3, .any, .any, .any, .any, .any, .any, t10, t11, .any, .any, .any, .any, .any, .any, .any, .any, .any, .any, .any, .any, .any, .any, .any, .any, .any, .any, .any, .any, .any, .any, .any, .any, .any, .any, .any, .any, .any]
def c_z34z_l0 : Cd := (.seq (.reg [⟨some 12, none, (.bin .lss), [.t 11, .t 10]⟩]) (.seq (.cond (.t 12) .skip (.exit 0)) (.seq (.blk 1 wb_z34z_1 (.seq (.reg [⟨some 13, none, .mv, [.t 11]⟩, ⟨some 4, none, .mv, [.t 13]⟩]) (.seq (.reg [⟨some 14, none, (.ldn 2), [.t 1]⟩, ⟨some 5, none, (.new [(.int .i64 0), .nils] 5), []⟩, ⟨none, none, (.st 2), [.t 5, .t 14]⟩]) (.seq (.reg [⟨some 15, none, (.fa 0), [.t 5]⟩, ⟨some 16, none, .ld1, [.t 15]⟩, ⟨some 6, none, .mv, [.t 16]⟩]) (.seq (.seq (.reg [⟨some 7, none, .mv, [.c (.int .i64 64)]⟩]) (.blk 2 wb_z34z_2 (.loop wl_z34z_2 c_z34z_l2))) c_z34z_k0))))) c_z34z_k1)))
def wb_z34z_0 : List Bool := [true, true, true, false, true, true, true, true, true, true, true, true, true, true, true, true, true, true, true, true, true, true, true, true, true, true, true, true, true, true, true, true, true, true, true, true, true, true, true, true, true]
abbrev e_z34z_0 (t3 : AV) : List AV := [.any, .any, .any, t3, .any, .any, .any, .any, .any, .any, .any, .any, .any, .any, .any, .any, .any, .any, .any, .any, .any, .any, .any, .any, .any, .any, .any, .any, .any, .any, .any, .any, .any, .any, .any, .any, .any, .any, .any, .any, .any]
abbrev i_z34z_0 : List It := [.lp wl_z34z_0 c_z34z_l0, .blk 0 wb_z34z_0]
def c_z34z_k2 : Cd := (.seq (.reg [⟨some 40, none, .mv, [.t 3]⟩, ⟨some 2, none, .mv, [.t 40]⟩]) .ret)
def c_z34z : Cd := (.seq (.reg [⟨some 1, none, .box, [.t 0]⟩, ⟨some 2, none, .mv, [.c .nils]⟩]) (.seq (.reg [⟨some 8, none, (.mk (.int .i64 0) 8 8), [.c (.int .i64 128)]⟩, ⟨some 3, none, .mv, [.t 8]⟩]) (.seq (.seq (.reg [⟨some 9, none, .mv, [.t 3]⟩, ⟨some 10, none, .len, [.t 9]⟩, ⟨some 11, none, .mv, [.c (.int .i64 0)]⟩]) (.blk 0 wb_z34z_0 (.loop wl_z34z_0 c_z34z_l0))) c_z34z_k2)))
theorem comp_z34z : compF Try.prog (mset [] [] []) (cset [] [] []) (wset [(2, wl_z34z_2, wb_z34z_2), (1, ⟨[], []⟩, wb_z34z_1), (0, wl_z34z_0, wb_z34z_0)] []) Try.f176 = some c_z34z := by kernel_rfl
theorem ok_z34z : fnOk Try.prog F_z34z = true := by kernel_rfl
theorem calls_z34z {args : List AV} {r : AV} (h : RunsX Try.prog 0 (Gives [.t 2] r) [.c c_z34z] (args ++ List.replicate (41 - args.length) (.tup [])) [] zeroC) : PCalls Try.prog F_z34z args r :=
  pcallsF Try.checked.mixed Try.func176 ok_z34z comp_z34z rfl (rs := [.t 2]) (by kernel_rfl) h
theorem hcalls_z34z {args : List AV} {Hin Hout : Heap} {nx nx2 : Ctr} {r : AV} (φ : Nat) (ks : List (Nat × Nat)) (h : RunsX Try.prog φ (GivesH ks [.t 2] r Hout nx2) [.c c_z34z] (args ++ List.replicate (41 - args.length) (.tup [])) Hin nx) : HCalls Try.prog F_z34z args Hin nx r Hout nx2 :=
  hcallsF Try.checked.mixed Try.func176 ok_z34z comp_z34z rfl (rs := [.t 2]) (by kernel_rfl) φ ks h

/-- pedlar/pedlarref04.Leq: parameters [225, 225], results [.t 4], calls  -/
def wl_ref04_Leq_0 : Mk := ⟨[false, false, true, true, true, true, true, false, false, true, true, true, true, true, true, true, true, true, true, true, true], []⟩
abbrev s_ref04_Leq_0 (t0 t1 t7 t8 : AV) : List AV := [t0, t1, .any, .any, .any, .any, .any, t7, t8, .any, .any, .any, .any, .any, .any, .any, .any, .any, .any, .any, .any]
def c_ref04_Leq_l0 : Cd := (.seq (.reg [⟨some 9, none, (.bin .lss), [.t 8, .t 7]⟩]) (.seq (.cond (.t 9) .skip (.exit 0)) (.seq (.blk 1 [] (.seq (.reg [⟨some 10, none, .mv, [.t 8]⟩, ⟨some 5, none, .mv, [.t 10]⟩]) (.seq (.reg [⟨some 11, none, .mv, [.t 0]⟩, ⟨some 12, none, .mv, [.t 5]⟩, ⟨some 13, none, (.ixS 1), [.t 11, .t 12]⟩, ⟨some 14, none, .ld1, [.t 13]⟩, ⟨some 15, none, .mv, [.t 1]⟩, ⟨some 16, none, .mv, [.t 5]⟩, ⟨some 17, none, (.ixS 1), [.t 15, .t 16]⟩, ⟨some 18, none, .ld1, [.t 17]⟩, ⟨some 19, none, (.bin .gtr), [.t 14, .t 18]⟩]) (.cond (.t 19) (.seq (.reg [⟨some 4, none, .mv, [.c (.bool false)]⟩]) .ret) .skip)))) (.reg [⟨some 20, none, (.bin .add), [.t 8, .c (.int .i64 1)]⟩, ⟨some 8, none, .mv, [.t 20]⟩]))))
def wb_ref04_Leq_0 : List Bool := [true, true, true, true, true, true, true, true, true, true, true, true, true, true, true, true, true, true, true, true, true]
abbrev e_ref04_Leq_0 : List AV := [.any, .any, .any, .any, .any, .any, .any, .any, .any, .any, .any, .any, .any, .any, .any, .any, .any, .any, .any, .any, .any]
abbrev i_ref04_Leq_0 : List It := [.lp wl_ref04_Leq_0 c_ref04_Leq_l0, .blk 0 wb_ref04_Leq_0]
def c_ref04_Leq_k0 : Cd := (.seq (.reg [⟨some 4, none, .mv, [.c (.bool true)]⟩]) .ret)
def c_ref04_Leq : Cd := (.seq (.reg [⟨some 4, none, .mv, [.c (.bool false)]⟩]) (.seq (.seq (.reg [⟨some 6, none, .mv, [.t 0]⟩, ⟨some 7, none, .len, [.t 6]⟩, ⟨some 8, none, .mv, [.c (.int .i64 0)]⟩]) (.blk 0 wb_ref04_Leq_0 (.loop wl_ref04_Leq_0 c_ref04_Leq_l0))) c_ref04_Leq_k0))
theorem comp_ref04_Leq : compF Try.prog (mset [] [] []) (cset [] [] []) (wset [(0, wl_ref04_Leq_0, wb_ref04_Leq_0)] []) Try.f177 = some c_ref04_Leq := by kernel_rfl
theorem ok_ref04_Leq : fnOk Try.prog F_ref04_Leq = true := by kernel_rfl
theorem calls_ref04_Leq {args : List AV} {r : AV} (h : RunsX Try.prog 0 (Gives [.t 4] r) [.c c_ref04_Leq] (args ++ List.replicate (21 - args.length) (.tup [])) [] zeroC) : PCalls Try.prog F_ref04_Leq args r :=
  pcallsF Try.checked.mixed Try.func177 ok_ref04_Leq comp_ref04_Leq rfl (rs := [.t 4]) (by kernel_rfl) h
theorem hcalls_ref04_Leq {args : List AV} {Hin Hout : Heap} {nx nx2 : Ctr} {r : AV} (φ : Nat) (ks : List (Nat × Nat)) (h : RunsX Try.prog φ (GivesH ks [.t 4] r Hout nx2) [.c c_ref04_Leq] (args ++ List.replicate (21 - args.length) (.tup [])) Hin nx) : HCalls Try.prog F_ref04_Leq args Hin nx r Hout nx2 :=
  hcallsF Try.checked.mixed Try.func177 ok_ref04_Leq comp_ref04_Leq rfl (rs := [.t 4]) (by kernel_rfl) φ ks h

/-- pedlar/pedlarref04.equal: parameters [225, 225], results [.t 4], calls  -/
def wl_z30z_0 : Mk := ⟨[false, false, true, true, true, true, true, false, false, true, true, true, true, true, true, true, true, true, true, true, true], []⟩
abbrev s_z30z_0 (t0 t1 t7 t8 : AV) : List AV := [t0, t1, .any, .any, .any, .any, .any, t7, t8, .any, .any, .any, .any, .any, .any, .any, .any, .any, .any, .any, .any]
def c_z30z_l0 : Cd := (.seq (.reg [⟨some 9, none, (.bin .lss), [.t 8, .t 7]⟩]) (.seq (.cond (.t 9) .skip (.exit 0)) (.seq (.blk 1 [] (.seq (.reg [⟨some 10, none, .mv, [.t 8]⟩, ⟨some 5, none, .mv, [.t 10]⟩]) (.seq (.reg [⟨some 11, none, .mv, [.t 0]⟩, ⟨some 12, none, .mv, [.t 5]⟩, ⟨some 13, none, (.ixS 1), [.t 11, .t 12]⟩, ⟨some 14, none, .ld1, [.t 13]⟩, ⟨some 15, none, .mv, [.t 1]⟩, ⟨some 16, none, .mv, [.t 5]⟩, ⟨some 17, none, (.ixS 1), [.t 15, .t 16]⟩, ⟨some 18, none, .ld1, [.t 17]⟩, ⟨some 19, none, (.bin .neq), [.t 14, .t 18]⟩]) (.cond (.t 19) (.seq (.reg [⟨some 4, none, .mv, [.c (.bool false)]⟩]) .ret) .skip)))) (.reg [⟨some 20, none, (.bin .add), [.t 8, .c (.int .i64 1)]⟩, ⟨some 8, none, .mv, [.t 20]⟩]))))
def wb_z30z_0 : List Bool := [true, true, true, true, true, true, true, true, true, true, true, true, true, true, true, true, true, true, true, true, true]
abbrev e_z30z_0 : List AV := [.any, .any, .any, .any, .any, .any, .any, .any, .any, .any, .any, .any, .any, .any, .any, .any, .any, .any, .any, .any, .any]
abbrev i_z30z_0 : List It := [.lp wl_z30z_0 c_z30z_l0, .blk 0 wb_z30z_0]
def c_z30z_k0 : Cd := (.seq (.reg [⟨some 4, none, .mv, [.c (.bool true)]⟩]) .ret)
def c_z30z : Cd := (.seq (.reg [⟨some 4, none, .mv, [.c (.bool false)]⟩]) (.seq (.seq (.reg [⟨some 6, none, .mv, [.t 0]⟩, ⟨some 7, none, .len, [.t 6]⟩, ⟨some 8, none, .mv, [.c (.int .i64 0)]⟩]) (.blk 0 wb_z30z_0 (.loop wl_z30z_0 c_z30z_l0))) c_z30z_k0))
theorem comp_z30z : compF Try.prog (mset [] [] []) (cset [] [] []) (wset [(0, wl_z30z_0, wb_z30z_0)] []) Try.f178 = some c_z30z := by kernel_rfl
theorem ok_z30z : fnOk Try.prog F_z30z = true := by kernel_rfl
theorem calls_z30z {args : List AV} {r : AV} (h : RunsX Try.prog 0 (Gives [.t 4] r) [.c c_z30z] (args ++ List.replicate (21 - args.length) (.tup [])) [] zeroC) : PCalls Try.prog F_z30z args r :=
  pcallsF Try.checked.mixed Try.func178 ok_z30z comp_z30z rfl (rs := [.t 4]) (by kernel_rfl) h
theorem hcalls_z30z {args : List AV} {Hin Hout : Heap} {nx nx2 : Ctr} {r : AV} (φ : Nat) (ks : List (Nat × Nat)) (h : RunsX Try.prog φ (GivesH ks [.t 4] r Hout nx2) [.c c_z30z] (args ++ List.replicate (21 - args.length) (.tup [])) Hin nx) : HCalls Try.prog F_z30z args Hin nx r Hout nx2 :=
  hcallsF Try.checked.mixed Try.func178 ok_z30z comp_z30z rfl (rs := [.t 4]) (by kernel_rfl) φ ks h

/-- pedlar/pedlarref04.ESame: parameters [29, 29], results [.t 4], calls ref04_ESame -/
def wl_z31z_0 : Mk := ⟨[true, true, false, false, true, true, true, true, true, true, true, true, true, true, true, true, true, true, true, true, true, true, false, false, true, true, true, true, true, true, true, true, true, true, true, true, true, true, true], []⟩
abbrev s_z31z_0 (t2 t3 t22 t23 : AV) : List AV := [.any, .any, t2, t3, .any, .any, .any, .any, .any, .any, .any, .any, .any, .any, .any, .any, .any, .any, .any, .any, .any, .any, t22, t23, .any, .any, .any, .any, .any, .any, .any, .any, .any, .any, .any, .any, .any, .any, .any]
def c_z31z_l0 : Cd := (.seq (.reg [⟨some 24, none, (.bin .lss), [.t 23, .t 22]⟩]) (.seq (.cond (.t 24) .skip (.exit 0)) (.seq (.blk 1 [] (.seq (.reg [⟨some 25, none, .mv, [.t 23]⟩, ⟨some 5, none, .mv, [.t 25]⟩]) (.seq (.reg [⟨some 26, none, (.fa 1), [.t 2]⟩, ⟨some 27, none, .ld1, [.t 26]⟩, ⟨some 28, none, .mv, [.t 5]⟩, ⟨some 29, none, (.ixS 2), [.t 27, .t 28]⟩, ⟨some 30, none, (.ldn 2), [.t 29]⟩, ⟨some 31, none, (.fa 1), [.t 3]⟩, ⟨some 32, none, .ld1, [.t 31]⟩, ⟨some 33, none, .mv, [.t 5]⟩, ⟨some 34, none, (.ixS 2), [.t 32, .t 33]⟩, ⟨some 35, none, (.ldn 2), [.t 34]⟩, ⟨some 36, none, (.call F_z31z 0), [.t 30, .t 35]⟩, ⟨some 37, none, .not, [.t 36]⟩]) (.cond (.t 37) (.seq (.reg [⟨some 4, none, .mv, [.c (.bool false)]⟩]) .ret) .skip)))) (.reg [⟨some 38, none, (.bin .add), [.t 23, .c (.int .i64 1)]⟩, ⟨some 23, none, .mv, [.t 38]⟩]))))
def wb_z31z_0 : List Bool := [true, true, true, true, true, true, true, true, true, true, true, true, true, true, true, true, true, true, true, true, true, true, true, true, true, true, true, true, true, true, true, true, true, true, true, true, true, true, true]
abbrev e_z31z_0 : List AV := [.any, .any, .any, .any, .any, .any, .any, .any, .any, .any, .any, .any, .any, .any, .any, .any, .any, .any, .any, .any, .any, .any, .any, .any, .any, .any, .any, .any, .any, .any, .any, .any, .any, .any, .any, .any, .any, .any, .any]
abbrev i_z31z_0 : List It := [.lp wl_z31z_0 c_z31z_l0, .blk 0 wb_z31z_0]
def c_z31z_k0 : Cd := (.seq (.reg [⟨some 4, none, .mv, [.c (.bool true)]⟩]) .ret)
def c_z31z : Cd := (.seq (.reg [⟨some 2, none, .box, [.t 0]⟩, ⟨some 3, none, .box, [.t 1]⟩, ⟨some 4, none, .mv, [.c (.bool false)]⟩]) (.seq (.seq (.reg [⟨some 6, none, (.fa 0), [.t 2]⟩, ⟨some 7, none, .ld1, [.t 6]⟩, ⟨some 8, none, (.fa 0), [.t 3]⟩, ⟨some 9, none, .ld1, [.t 8]⟩, ⟨some 10, none, (.bin .neq), [.t 7, .t 9]⟩, ⟨some 11, none, .mv, [.t 10]⟩, ⟨some 12, (some (11, false)), (.fa 1), [.t 2]⟩, ⟨some 13, (some (11, false)), .ld1, [.t 12]⟩, ⟨some 14, (some (11, false)), .len, [.t 13]⟩, ⟨some 15, (some (11, false)), (.fa 1), [.t 3]⟩, ⟨some 16, (some (11, false)), .ld1, [.t 15]⟩, ⟨some 17, (some (11, false)), .len, [.t 16]⟩, ⟨some 18, (some (11, false)), (.bin .neq), [.t 14, .t 17]⟩, ⟨some 19, none, .pick, [.t 11, .c (.bool true), .t 18]⟩]) (.cond (.t 19) (.seq (.reg [⟨some 4, none, .mv, [.c (.bool false)]⟩]) .ret) .skip)) (.seq (.seq (.reg [⟨some 20, none, (.fa 1), [.t 2]⟩, ⟨some 21, none, .ld1, [.t 20]⟩, ⟨some 22, none, .len, [.t 21]⟩, ⟨some 23, none, .mv, [.c (.int .i64 0)]⟩]) (.blk 0 wb_z31z_0 (.loop wl_z31z_0 c_z31z_l0))) c_z31z_k0)))
theorem comp_z31z : compF Try.prog (mset [] [] []) (cset [] [] []) (wset [(0, wl_z31z_0, wb_z31z_0)] []) Try.f179 = some c_z31z := by kernel_rfl
theorem ok_z31z : fnOk Try.prog F_z31z = true := by kernel_rfl
theorem calls_z31z {args : List AV} {r : AV} (h : RunsX Try.prog 0 (Gives [.t 4] r) [.c c_z31z] (args ++ List.replicate (39 - args.length) (.tup [])) [] zeroC) : PCalls Try.prog F_z31z args r :=
  pcallsF Try.checked.mixed Try.func179 ok_z31z comp_z31z rfl (rs := [.t 4]) (by kernel_rfl) h
theorem hcalls_z31z {args : List AV} {Hin Hout : Heap} {nx nx2 : Ctr} {r : AV} (φ : Nat) (ks : List (Nat × Nat)) (h : RunsX Try.prog φ (GivesH ks [.t 4] r Hout nx2) [.c c_z31z] (args ++ List.replicate (39 - args.length) (.tup [])) Hin nx) : HCalls Try.prog F_z31z args Hin nx r Hout nx2 :=
  hcallsF Try.checked.mixed Try.func179 ok_z31z comp_z31z rfl (rs := [.t 4]) (by kernel_rfl) φ ks h

/-- pedlar/pedlarlaw05.count: parameters [29, 3], results [.t 4], calls law05_count -/
def wl_z29z_0 : Mk := ⟨[true, false, false, true, true, false, true, true, true, true, true, false, false, true, true, true, true, true, true, true, true, true, true, true, true, true, true, true, true, true], []⟩
abbrev s_z29z_0 (t1 t2 t5 t11 t12 : AV) : List AV := [.any, t1, t2, .any, .any, t5, .any, .any, .any, .any, .any, t11, t12, .any, .any, .any, .any, .any, .any, .any, .any, .any, .any, .any, .any, .any, .any, .any, .any, .any]
def c_z29z_l0 : Cd := (.seq (.reg [⟨some 13, none, (.bin .lss), [.t 12, .t 11]⟩]) (.seq (.cond (.t 13) .skip (.exit 0)) (.seq (.blk 1 [] (.seq (.reg [⟨some 14, none, .mv, [.t 12]⟩, ⟨some 6, none, .mv, [.t 14]⟩]) (.seq (.reg [⟨some 15, none, .mv, [.t 5]⟩, ⟨some 16, none, (.fa 1), [.t 2]⟩, ⟨some 17, none, .ld1, [.t 16]⟩, ⟨some 18, none, .mv, [.t 6]⟩, ⟨some 19, none, (.ixS 2), [.t 17, .t 18]⟩, ⟨some 20, none, (.ldn 2), [.t 19]⟩, ⟨some 21, none, .mv, [.t 1]⟩, ⟨some 22, none, (.bin .sub), [.t 21, .c (.int .i64 1)]⟩, ⟨some 23, none, (.call F_z29z 0), [.t 20, .t 22]⟩, ⟨some 24, none, (.bin .add), [.t 15, .t 23]⟩, ⟨some 5, none, .mv, [.t 24]⟩]) (.seq (.reg [⟨some 25, none, .mv, [.t 5]⟩, ⟨some 26, none, (.bin .gtr), [.t 25, .c (.int .i64 1000)]⟩]) (.cond (.t 26) (.seq (.reg [⟨some 27, none, .mv, [.t 5]⟩, ⟨some 4, none, .mv, [.t 27]⟩]) .ret) .skip))))) (.reg [⟨some 28, none, (.bin .add), [.t 12, .c (.int .i64 1)]⟩, ⟨some 12, none, .mv, [.t 28]⟩]))))
def wb_z29z_0 : List Bool := [true, true, true, true, true, false, true, true, true, true, true, true, true, true, true, true, true, true, true, true, true, true, true, true, true, true, true, true, true, true]
abbrev e_z29z_0 (t5 : AV) : List AV := [.any, .any, .any, .any, .any, t5, .any, .any, .any, .any, .any, .any, .any, .any, .any, .any, .any, .any, .any, .any, .any, .any, .any, .any, .any, .any, .any, .any, .any, .any]
abbrev i_z29z_0 : List It := [.lp wl_z29z_0 c_z29z_l0, .blk 0 wb_z29z_0]
def c_z29z_k0 : Cd := (.seq (.reg [⟨some 29, none, .mv, [.t 5]⟩, ⟨some 4, none, .mv, [.t 29]⟩]) .ret)
def c_z29z : Cd := (.seq (.reg [⟨some 2, none, .box, [.t 0]⟩, ⟨some 4, none, .mv, [.c (.int .i64 0)]⟩]) (.seq (.seq (.reg [⟨some 7, none, .mv, [.t 1]⟩, ⟨some 8, none, (.bin .lss), [.t 7, .c (.int .i64 1)]⟩]) (.cond (.t 8) (.seq (.reg [⟨some 4, none, .mv, [.c (.int .i64 2000)]⟩]) .ret) .skip)) (.seq (.reg [⟨some 5, none, .mv, [.c (.int .i64 1)]⟩]) (.seq (.seq (.reg [⟨some 9, none, (.fa 1), [.t 2]⟩, ⟨some 10, none, .ld1, [.t 9]⟩, ⟨some 11, none, .len, [.t 10]⟩, ⟨some 12, none, .mv, [.c (.int .i64 0)]⟩]) (.blk 0 wb_z29z_0 (.loop wl_z29z_0 c_z29z_l0))) c_z29z_k0))))
theorem comp_z29z : compF Try.prog (mset [] [] []) (cset [] [] []) (wset [(0, wl_z29z_0, wb_z29z_0)] []) Try.f168 = some c_z29z := by kernel_rfl
theorem ok_z29z : fnOk Try.prog F_z29z = true := by kernel_rfl
theorem calls_z29z {args : List AV} {r : AV} (h : RunsX Try.prog 0 (Gives [.t 4] r) [.c c_z29z] (args ++ List.replicate (30 - args.length) (.tup [])) [] zeroC) : PCalls Try.prog F_z29z args r :=
  pcallsF Try.checked.mixed Try.func168 ok_z29z comp_z29z rfl (rs := [.t 4]) (by kernel_rfl) h
theorem hcalls_z29z {args : List AV} {Hin Hout : Heap} {nx nx2 : Ctr} {r : AV} (φ : Nat) (ks : List (Nat × Nat)) (h : RunsX Try.prog φ (GivesH ks [.t 4] r Hout nx2) [.c c_z29z] (args ++ List.replicate (30 - args.length) (.tup [])) Hin nx) : HCalls Try.prog F_z29z args Hin nx r Hout nx2 :=
  hcallsF Try.checked.mixed Try.func168 ok_z29z comp_z29z rfl (rs := [.t 4]) (by kernel_rfl) φ ks h

/-- pedlar/pedlarlaw05.Few: parameters [29, 3], results [.t 4], calls law05_count -/
def c_law05_Few : Cd := (.seq (.reg [⟨some 2, none, .box, [.t 0]⟩, ⟨some 4, none, .mv, [.c (.bool false)]⟩]) (.seq (.reg [⟨some 5, none, (.ldn 2), [.t 2]⟩, ⟨some 6, none, .mv, [.t 1]⟩, ⟨some 7, none, (.call F_z29z 0), [.t 5, .t 6]⟩, ⟨some 8, none, (.bin .leq), [.t 7, .c (.int .i64 1000)]⟩, ⟨some 4, none, .mv, [.t 8]⟩]) .ret))
theorem comp_law05_Few : compF Try.prog (mset [] [] []) (cset [] [] []) (wset [] []) Try.f101 = some c_law05_Few := by kernel_rfl
theorem ok_law05_Few : fnOk Try.prog F_law05_Few = true := by kernel_rfl
theorem calls_law05_Few {args : List AV} {r : AV} (h : RunsX Try.prog 0 (Gives [.t 4] r) [.c c_law05_Few] (args ++ List.replicate (9 - args.length) (.tup [])) [] zeroC) : PCalls Try.prog F_law05_Few args r :=
  pcallsF Try.checked.mixed Try.func101 ok_law05_Few comp_law05_Few rfl (rs := [.t 4]) (by kernel_rfl) h
theorem hcalls_law05_Few {args : List AV} {Hin Hout : Heap} {nx nx2 : Ctr} {r : AV} (φ : Nat) (ks : List (Nat × Nat)) (h : RunsX Try.prog φ (GivesH ks [.t 4] r Hout nx2) [.c c_law05_Few] (args ++ List.replicate (9 - args.length) (.tup [])) Hin nx) : HCalls Try.prog F_law05_Few args Hin nx r Hout nx2 :=
  hcallsF Try.checked.mixed Try.func101 ok_law05_Few comp_law05_Few rfl (rs := [.t 4]) (by kernel_rfl) φ ks h

def tab_CdEvent : List (Nat × Cd × Nat × List RS) := [(F_event_leaf, c_event_leaf, 7, [.t 2]), (F_z28z, c_z28z, 48, [.t 4]), (F_event_short, c_event_short, 47, [.t 2]), (F_event_Right, c_event_Right, 10, [.t 2]), (F_z35z, c_z35z, 47, [.t 6]), (F_event_Same, c_event_Same, 8, [.t 4]), (F_z24z, c_z24z, 26, [.t 4]), (F_z27z, c_z27z, 25, [.cn 2 2]), (F_event_Clone, c_event_Clone, 9, [.cn 2 2]), (F_event_lift, c_event_lift, 12, [.cn 4 2]), (F_event_half, c_event_half, 16, [.cn 4 2]), (F_event_leq, c_event_leq, 28, [.t 4]), (F_event_Leq, c_event_Leq, 16, [.t 4]), (F_z32z, c_z32z, 28, [.t 4]), (F_ref04_ecount, c_ref04_ecount, 91, [.t 2, .t 3]), (F_ref04_ERight, c_ref04_ERight, 18, [.t 2]), (F_z34z, c_z34z, 41, [.t 2]), (F_ref04_Leq, c_ref04_Leq, 21, [.t 4]), (F_z30z, c_z30z, 21, [.t 4]), (F_z31z, c_z31z, 39, [.t 4]), (F_z29z, c_z29z, 30, [.t 4]), (F_law05_Few, c_law05_Few, 9, [.t 4])]
theorem tok_CdEvent : TabOk Try.prog (tabOf tab_CdEvent) := tab_cons calls_event_leaf hcalls_event_leaf (tab_cons calls_z28z hcalls_z28z (tab_cons calls_event_short hcalls_event_short (tab_cons calls_event_Right hcalls_event_Right (tab_cons calls_z35z hcalls_z35z (tab_cons calls_event_Same hcalls_event_Same (tab_cons calls_z24z hcalls_z24z (tab_cons calls_z27z hcalls_z27z (tab_cons calls_event_Clone hcalls_event_Clone (tab_cons calls_event_lift hcalls_event_lift (tab_cons calls_event_half hcalls_event_half (tab_cons calls_event_leq hcalls_event_leq (tab_cons calls_event_Leq hcalls_event_Leq (tab_cons calls_z32z hcalls_z32z (tab_cons calls_ref04_ecount hcalls_ref04_ecount (tab_cons calls_ref04_ERight hcalls_ref04_ERight (tab_cons calls_z34z hcalls_z34z (tab_cons calls_ref04_Leq hcalls_ref04_Leq (tab_cons calls_z30z hcalls_z30z (tab_cons calls_z31z hcalls_z31z (tab_cons calls_z29z hcalls_z29z (tab_cons calls_law05_Few hcalls_law05_Few (tab_nil))))))))))))))))))))))
end Go.Proofs.Ytmokhopjnjecbac
/- Trees of events, and what the words say of them: plain. -/
namespace Go.Ev
set_option linter.unusedVariables false

inductive ET where
  | mk (n : Int) (ps : List ET)
def ET.n : ET → Int | .mk o _ => o
def ET.ps : ET → List ET | .mk _ ps => ps
theorem ET.eta (t : ET) : ET.mk t.n t.ps = t := by cases t; rfl
mutual
def xtav : ET → AV
  | .mk o ps => .agg [.int .i64 o, .fz 2 (xtavs ps) none]
def xtavs : List ET → List AV
  | [] => []
  | p :: ps => xtav p :: xtavs ps
end
/-- A tree, as a value. -/
abbrev xtv (t : ET) : AV := .agg [.int .i64 t.n, .fz 2 (xtavs t.ps) none]
theorem xtav_tv (t : ET) : xtav t = xtv t := by cases t; simp only [xtav]; rfl
theorem xtavs_len : ∀ ps, (xtavs ps).length = ps.length
  | [] => by simp only [xtavs, List.length_nil]
  | p :: ps => by simp only [xtavs, List.length_cons, xtavs_len ps]
theorem xtavs_get : ∀ (ps : List ET) (i : Nat), (xtavs ps)[i]? = ps[i]?.map xtv
  | [], i => by simp [xtavs]
  | p :: ps, 0 => by simp [xtavs, xtav_tv]
  | p :: ps, i + 1 => by simp only [xtavs, List.getElem?_cons_succ]; exact xtavs_get ps i
theorem xtavs_append : ∀ (a b : List ET), xtavs a ++ xtavs b = xtavs (a ++ b)
  | [], b => by simp [xtavs]
  | p :: a, b => by simp [xtavs, xtavs_append a b]

mutual
def ET.size : ET → Nat
  | .mk _ ps => 1 + xsizes ps
def xsizes : List ET → Nat
  | [] => 0
  | p :: ps => p.size + xsizes ps
end
theorem xsize_mem {p : ET} : ∀ {ps : List ET}, p ∈ ps → p.size ≤ xsizes ps
  | q :: ps, h => by
    simp only [xsizes]
    rcases List.mem_cons.1 h with rfl | h
    · omega
    · have := xsize_mem h; omega
theorem xsize_ps (t : ET) : t.size = 1 + xsizes t.ps := by cases t; simp only [ET.size, ET.ps]
theorem xsize_lt {t p : ET} (h : p ∈ t.ps) : p.size < t.size := by have := xsize_mem h; rw [xsize_ps t]; omega
/-- Whoever holds of a tree if it holds of its parts holds of all. -/
theorem ET.ind {C : ET → Prop} (h : ∀ t, (∀ p ∈ t.ps, C p) → C t) : ∀ t, C t := by
  have key : ∀ n t, t.size < n → C t := by
    intro n
    induction n with
    | zero => intro t ht; omega
    | succ n ih => exact fun t ht => h t (fun p hp => ih p (by have := xsize_lt hp; omega))
  exact fun t => key _ t (Nat.lt_succ_self _)

/-- How xdeep, as far as so many levels. -/
def xdeepL (f : ET → Nat) : Nat → List ET → Nat
  | n, [] => n
  | n, p :: ps => xdeepL f (max n (f p)) ps
def xdeep : Nat → ET → Nat
  | 0, _ => 1
  | m + 1, t => xdeepL (xdeep m) 0 t.ps + 1
/-- No deeper than that. -/
def xflatTo : Nat → ET → Prop
  | 0, _ => False
  | d + 1, t => ∀ p ∈ t.ps, xflatTo d p
theorem xdeepL_le (f : ET → Nat) (b : Nat) : ∀ (n : Nat) (ps : List ET), xdeepL f n ps ≤ b ↔ n ≤ b ∧ ∀ p ∈ ps, f p ≤ b
  | n, [] => by simp [xdeepL]
  | n, p :: ps => by
    simp only [xdeepL, xdeepL_le f b _ ps, List.mem_cons, forall_eq_or_imp]
    constructor
    · rintro ⟨h1, h2⟩; exact ⟨by omega, by omega, h2⟩
    · rintro ⟨h1, h2, h3⟩; exact ⟨by omega, h3⟩
theorem xdeep_pos (m : Nat) (t : ET) : 1 ≤ xdeep m t := by cases m <;> simp [xdeep]
theorem xdeep_le : ∀ (m : Nat) (t : ET), xdeep m t ≤ m ↔ xflatTo m t
  | 0, t => by simp [xdeep, xflatTo]
  | m + 1, t => by
    simp only [xdeep, xflatTo, Nat.add_le_add_iff_right, xdeepL_le, Nat.zero_le, true_and]
    exact ⟨fun h p hp => (xdeep_le m p).1 (h p hp), fun h p hp => (xdeep_le m p).2 (h p hp)⟩
theorem xdeep_max : ∀ (m : Nat) (t : ET), xdeep m t ≤ m + 1
  | 0, t => by simp [xdeep]
  | m + 1, t => by
    simp only [xdeep, Nat.add_le_add_iff_right]
    exact (xdeepL_le _ _ _ _).2 ⟨by omega, fun p hp => xdeep_max m p⟩

/-- How many nodes: 61 where it is too xdeep, or not of two parts or none. -/
def xcntL (f : ET → Nat) : Nat → List ET → Nat
  | n, [] => n
  | n, p :: ps => if 60 < n + f p then 61 else xcntL f (n + f p) ps
def xcnt : Nat → ET → Nat
  | 0, _ => 61
  | d + 1, t => if t.n < 0 ∨ 1099511627776 < t.n ∨ (¬ t.ps.length = 0 ∧ ¬ t.ps.length = 2) then 61 else xcntL (xcnt d) 1 t.ps
theorem xcntL_le (f : ET → Nat) : ∀ (n : Nat) (ps : List ET), n ≤ 61 → xcntL f n ps ≤ 61
  | n, [], h => h
  | n, p :: ps, h => by
    simp only [xcntL]; split
    · omega
    · exact xcntL_le f _ ps (by omega)
theorem xcnt_le : ∀ (d : Nat) (t : ET), xcnt d t ≤ 61
  | 0, t => by simp [xcnt]
  | d + 1, t => by
    simp only [xcnt]; split
    · omega
    · exact xcntL_le _ _ _ (by omega)
/-! ### trees compared -/
def xsmL (f : ET → ET → Bool) : List ET → List ET → Bool
  | p :: ps, q :: qs => f p q && xsmL f ps qs
  | _, _ => true
def xsm : Nat → ET → ET → Bool
  | 0, _, _ => false
  | d + 1, a, b => decide (a.n = b.n ∧ a.ps.length = b.ps.length) && xsmL (xsm d) a.ps b.ps
theorem xsmL_iff (f : ET → ET → Bool) (P : ET → Prop) : ∀ (ps qs : List ET), ps.length = qs.length → (∀ p ∈ ps, ∀ q, f p q = true ↔ p = q ∧ P p) → (xsmL f ps qs = true ↔ ps = qs ∧ ∀ p ∈ ps, P p)
  | [], [], _, _ => by simp [xsmL]
  | [], _ :: _, h, _ => by simp at h
  | _ :: _, [], h, _ => by simp at h
  | p :: ps, q :: qs, h, hf => by
    have ih := xsmL_iff f P ps qs (by simpa using h) (fun x hx => hf x (List.mem_cons_of_mem _ hx))
    simp only [xsmL, Bool.and_eq_true, ih, hf p (List.mem_cons_self) q, List.cons.injEq, List.mem_cons, forall_eq_or_imp]
    constructor
    · rintro ⟨⟨a, b⟩, c, d⟩; exact ⟨⟨a, c⟩, b, d⟩
    · rintro ⟨⟨a, c⟩, b, d⟩; exact ⟨⟨a, b⟩, c, d⟩
theorem xsm_iff : ∀ (d : Nat) (a b : ET), xsm d a b = true ↔ a = b ∧ xflatTo d a
  | 0, a, b => by simp [xsm, xflatTo]
  | d + 1, a, b => by
    simp only [xsm, Bool.and_eq_true, decide_eq_true_eq, xflatTo]
    constructor
    · rintro ⟨⟨h1, h2⟩, h3⟩
      have := (xsmL_iff (xsm d) (xflatTo d) a.ps b.ps h2 (fun p _ q => xsm_iff d p q)).1 h3
      exact ⟨by rw [← a.eta, ← b.eta, h1, this.1], this.2⟩
    · rintro ⟨rfl, h⟩
      exact ⟨⟨rfl, rfl⟩, (xsmL_iff (xsm d) (xflatTo d) a.ps a.ps rfl (fun p _ q => xsm_iff d p q)).2 ⟨rfl, h⟩⟩
/-- Alike? -/
noncomputable def xteq (a b : ET) : Bool := @decide (a = b) (Classical.propDecidable _)
theorem xteq_true {a b : ET} : xteq a b = true ↔ a = b := by simp [xteq]
theorem xteq_step (a b : ET) : xteq a b = (decide (a.n = b.n ∧ a.ps.length = b.ps.length) && xsmL xteq a.ps b.ps) := by
  rw [Bool.eq_iff_iff, xteq_true, Bool.and_eq_true, decide_eq_true_eq]
  constructor
  · rintro rfl
    exact ⟨⟨rfl, rfl⟩, (xsmL_iff xteq (fun _ => True) _ _ rfl (fun p _ q => by simp [xteq_true])).2 ⟨rfl, by simp⟩⟩
  · rintro ⟨⟨h1, h2⟩, h3⟩
    have := (xsmL_iff xteq (fun _ => True) a.ps b.ps h2 (fun p _ q => by simp [xteq_true])).1 h3
    rw [← a.eta, ← b.eta, h1, this.1]
/-! ### as the law's bound counts -/
def xlcntL (f : ET → Nat) : Nat → List ET → Nat
  | n, [] => n
  | n, p :: ps => if 1000 < n + f p then n + f p else xlcntL f (n + f p) ps
def xlcnt : Nat → ET → Nat
  | 0, _ => 2000
  | m + 1, t => xlcntL (xlcnt m) 1 t.ps
theorem xlcntL_le (f : ET → Nat) (hf : ∀ t, f t ≤ 3000) : ∀ (n : Nat) (ps : List ET), n ≤ 1000 → xlcntL f n ps ≤ 4000
  | n, [], h => by simp [xlcntL]; omega
  | n, p :: ps, h => by
    simp only [xlcntL]; have := hf p; split
    · omega
    · exact xlcntL_le f hf _ ps (by omega)
theorem xlcntL_le2 (f : ET → Nat) (b : Nat) (hf : ∀ t, f t ≤ b) : ∀ (n : Nat) (ps : List ET), n ≤ 1000 → xlcntL f n ps ≤ 1000 + b
  | n, [], h => by simp [xlcntL]; omega
  | n, p :: ps, h => by
    simp only [xlcntL]; have := hf p; split
    · omega
    · exact xlcntL_le2 f b hf _ ps (by omega)
theorem xlcnt_le : ∀ (m : Nat) (t : ET), xlcnt m t ≤ 2000 + 1000 * m
  | 0, t => by simp [xlcnt]
  | m + 1, t => by
    simp only [xlcnt]
    have := xlcntL_le2 (xlcnt m) _ (fun t => xlcnt_le m t) 1 t.ps (by omega)
    omega
theorem xlcnt_pos : ∀ (m : Nat) (t : ET), 1 ≤ xlcnt m t := by
  intro m
  have key : ∀ (f : ET → Nat) (n : Nat) (ps : List ET), 1 ≤ n → 1 ≤ xlcntL f n ps := by
    intro f n ps
    induction ps generalizing n with
    | nil => intro h; exact h
    | cons p ps ih =>
      intro h
      simp only [xlcntL]; split
      · omega
      · exact ih _ (by omega)
  intro t
  cases m with
  | zero => simp [xlcnt]
  | succ m => exact key _ _ _ (Nat.le_refl _)
theorem xlcntL_size (f : ET → Nat) (hf : ∀ t, f t ≤ 1000 → t.size ≤ f t) : ∀ (n : Nat) (ps : List ET), xlcntL f n ps ≤ 1000 → n + xsizes ps ≤ xlcntL f n ps
  | n, [], h => by simp [xlcntL, xsizes]
  | n, p :: ps, h => by
    simp only [xlcntL, xsizes] at h ⊢
    split at h
    · omega
    · rename_i h1
      rw [if_neg h1]
      have := hf p (by omega)
      have := xlcntL_size f hf _ ps h
      omega
theorem xlcnt_size : ∀ (m : Nat) (t : ET), xlcnt m t ≤ 1000 → t.size ≤ xlcnt m t
  | 0, t, h => by simp [xlcnt] at h
  | m + 1, t, h => by
    simp only [xlcnt] at h ⊢
    have := xlcntL_size (xlcnt m) (xlcnt_size m) 1 t.ps h
    rw [xsize_ps]; exact this
theorem xlen_sizes : ∀ ps : List ET, ps.length ≤ xsizes ps
  | [] => by simp
  | p :: ps => by have := xlen_sizes ps; have := xsize_ps p; simp only [xsizes, List.length_cons]; omega
theorem xlen_size (t : ET) : t.ps.length < t.size := by have := xlen_sizes t.ps; rw [xsize_ps]; omega
/-! ### trees of two parts or none, counted by Nat -/
inductive E where
  | lf (n : Nat) | nd (n : Nat) (l r : E)
def E.t : E → ET
  | .lf n => .mk n []
  | .nd n l r => .mk n [l.t, r.t]
def E.n : E → Nat
  | .lf n => n
  | .nd n _ _ => n
def E.leaf : E → Bool
  | .lf _ => true
  | .nd _ _ _ => false
def E.nodes : E → Nat
  | .lf _ => 1
  | .nd _ l r => 1 + l.nodes + r.nodes
def E.dep : E → Nat
  | .lf _ => 1
  | .nd _ l r => max l.dep r.dep + 1
/-- Each number is at most 2^40. -/
def E.small : E → Bool
  | .lf n => decide (n ≤ 1099511627776)
  | .nd n l r => decide (n ≤ 1099511627776) && l.small && r.small
def E.short : E → Bool
  | .lf _ => true
  | .nd _ l r => l.short && r.short && (decide (l.n = 0) || decide (r.n = 0)) && !(l.leaf && r.leaf && decide (l.n = r.n))
theorem E.t_n (b : E) : b.t.n = (b.n : Int) := by cases b <;> rfl
theorem E.t_leaf (b : E) : decide (b.t.ps.length = 0) = b.leaf := by cases b <;> simp [E.t, ET.ps, E.leaf]
theorem E.nodes_pos (b : E) : 1 ≤ b.nodes := by cases b <;> simp [E.nodes] <;> omega
theorem E.dep_pos (b : E) : 1 ≤ b.dep := by cases b <;> simp [E.dep]
theorem E.small_n {b : E} (h : b.small = true) : b.n ≤ 1099511627776 := by
  cases b with
  | lf n => simp only [E.small, decide_eq_true_eq] at h; exact h
  | nd n l r => simp only [E.small, Bool.and_eq_true, decide_eq_true_eq] at h; exact h.1.1
theorem xcnt_b : ∀ (d : Nat) (t : ET), xcnt d t ≤ 60 → ∃ b : E, t = b.t ∧ b.nodes = xcnt d t ∧ b.dep ≤ d ∧ b.small = true
  | 0, t, h => by simp [xcnt] at h
  | d + 1, t, h => by
    simp only [xcnt] at h ⊢
    by_cases hn : t.n < 0 ∨ 1099511627776 < t.n ∨ (¬ t.ps.length = 0 ∧ ¬ t.ps.length = 2)
    · rw [if_pos hn] at h; omega
    · rw [if_neg hn] at h
      rw [if_neg hn]
      have he := t.eta
      obtain ⟨n, hnn⟩ : ∃ n : Nat, t.n = (n : Int) := ⟨t.n.toNat, by omega⟩
      rw [hnn] at he hn
      generalize t.ps = ps at hn he h
      subst he
      match ps, hn, h with
      | [], hn, h => exact ⟨.lf n, rfl, rfl, by simp [E.dep], by simp [E.small]; omega⟩
      | [l, r], hn, h =>
        simp only [xcntL] at h ⊢
        split at h
        · omega
        · rename_i h1
          split at h
          · omega
          · rename_i h2
            rw [if_neg h1, if_neg h2]
            obtain ⟨bl, e1, e2, e3, e4⟩ := xcnt_b d l (by omega)
            obtain ⟨br, f1, f2, f3, f4⟩ := xcnt_b d r (by omega)
            exact ⟨.nd n bl br, by rw [e1, f1]; rfl, by simp only [E.nodes]; omega, by simp only [E.dep]; omega, by simp [E.small, e4, f4]; omega⟩
      | [_], hn, h => simp at hn
      | _ :: _ :: _ :: _, hn, h => simp at hn
theorem b_xcnt : ∀ (b : E) (d : Nat), b.nodes ≤ 60 → b.dep ≤ d → b.small = true → xcnt d b.t = b.nodes
  | .lf o, 0, _, h, _ => by simp [E.dep] at h
  | .lf o, d + 1, _, _, h3 => by
    simp only [E.small, decide_eq_true_eq] at h3
    simp only [xcnt, E.t, ET.ps, ET.n, xcntL, E.nodes]
    rw [if_neg (by simp; omega)]
  | .nd n l r, 0, _, h, _ => by simp [E.dep] at h
  | .nd n l r, d + 1, h1, h2, h3 => by
    simp only [E.nodes, E.dep] at h1 h2
    simp only [E.small, Bool.and_eq_true, decide_eq_true_eq] at h3
    have e1 := b_xcnt l d (by omega) (by omega) h3.1.2
    have e2 := b_xcnt r d (by omega) (by omega) h3.2
    simp only [xcnt, E.t, ET.ps, ET.n, xcntL, e1, e2, E.nodes]
    rw [if_neg (by simp; omega), if_neg (by omega), if_neg (by omega)]
theorem E.inj : ∀ {a b : E}, a.t = b.t → a = b
  | .lf o, .lf o', h => by
    simp [E.t] at h
    have h0 : o = o' := by omega
    rw [h0]
  | .lf o, .nd n l r, h => by simp [E.t] at h
  | .nd n l r, .lf o, h => by simp [E.t] at h
  | .nd n l r, .nd n' l' r', h => by
    simp only [E.t, ET.mk.injEq, List.cons.injEq, and_true] at h
    have h0 : n = n' := by omega
    rw [E.inj h.2.1, E.inj h.2.2, h0]
/-- A right event tree: of two parts or none, as short as may be, neither too deep nor too great. -/
def XRt (t : ET) : Prop := ∃ b : E, t = b.t ∧ b.dep ≤ 8 ∧ b.nodes ≤ 60 ∧ b.short = true ∧ b.small = true
noncomputable def xrtb (t : ET) : Bool := @decide (XRt t) (Classical.propDecidable _)
theorem xrtb_true {t : ET} : xrtb t = true ↔ XRt t := by simp [xrtb]
theorem xflat_dep : ∀ (d : Nat) (b : E), xflatTo d b.t ↔ b.dep ≤ d
  | 0, .lf o => by simp [xflatTo, E.dep]
  | 0, .nd n l r => by simp [xflatTo, E.dep]
  | d + 1, .lf o => by simp [xflatTo, E.dep, E.t, ET.ps]
  | d + 1, .nd n l r => by simp only [xflatTo, E.dep, E.t, ET.ps, List.mem_cons, List.not_mem_nil, or_false, forall_eq_or_imp, forall_eq, xflat_dep d l, xflat_dep d r]; omega
theorem E.t_size : ∀ b : E, b.t.size = b.nodes
  | .lf o => by simp [E.t, ET.size, xsizes, E.nodes]
  | .nd n l r => by simp only [E.t, ET.size, xsizes, E.nodes, E.t_size l, E.t_size r]; omega
end Go.Ev
/- Whole numbers of the machine's kinds, as naturals; the sums by arithmetic alone. -/
set_option linter.unusedSimpArgs false
namespace Go.Ev
set_option linter.unusedVariables false

theorem bv_toNat (n a : Nat) (h : a < 2 ^ n) : (BitVec.ofInt n (a : Int)).toNat = a := by
  rw [BitVec.toNat_ofInt]
  have : ((a : Int) % ((2 ^ n : Nat) : Int)).toNat = a := by
    rw [← Int.natCast_emod, Int.toNat_natCast, Nat.mod_eq_of_lt h]
  exact this
theorem wrap_nat (k : IntKind) (hk : k.signed = false) (a : Nat) (h : a < 2 ^ k.bits) : k.wrap (a : Int) = (a : Int) := by
  have : ((a : Int) % ((2 ^ k.bits : Nat) : Int)) = (a : Int) := by
    rw [← Int.natCast_emod, Nat.mod_eq_of_lt h]
  have e : ((2 : Int) ^ k.bits) = ((2 ^ k.bits : Nat) : Int) := by simp
  simp only [IntKind.wrap, hk, Bool.false_and, Bool.false_eq_true, if_false, e, this]
theorem ibits_xor (k : IntKind) (hk : k.signed = false) (a b : Nat) (ha : a < 2 ^ k.bits) (hb : b < 2 ^ k.bits) : ibits .xor k a b = ((a ^^^ b : Nat) : Int) := by
  simp only [ibits, BitVec.toNat_xor, bv_toNat _ _ ha, bv_toNat _ _ hb]
  exact wrap_nat k hk _ (Nat.xor_lt_two_pow ha hb)
theorem ibits_and (k : IntKind) (hk : k.signed = false) (a b : Nat) (ha : a < 2 ^ k.bits) (hb : b < 2 ^ k.bits) : ibits .and k a b = ((a &&& b : Nat) : Int) := by
  simp only [ibits, BitVec.toNat_and, bv_toNat _ _ ha, bv_toNat _ _ hb]
  exact wrap_nat k hk _ (Nat.lt_of_le_of_lt Nat.and_le_left ha)
theorem ishr_nat (k k2 : IntKind) (a b : Nat) (hb : b ≤ k.bits) : ishr k a b = ((a / 2 ^ b : Nat) : Int) := by
  have h1 : min (Int.toNat (b : Int)) k.bits = b := by rw [Int.toNat_natCast]; exact Nat.min_eq_left hb
  simp only [ishr, h1]
  have e : ((2 : Int) ^ b) = ((2 ^ b : Nat) : Int) := by simp
  rw [e, Int.fdiv_eq_ediv_of_nonneg _ (Int.natCast_nonneg _)]
  simp
/-- Bytes. -/
def avs (bs : List Nat) : List AV := bs.map fun (b : Nat) => .int .u8 (b : Int)
theorem avs_get (bs : List Nat) (i : Nat) : (avs bs)[i]? = (bs[i]?).map fun (b : Nat) => AV.int .u8 (b : Int) := by simp [avs]
theorem avs_len (bs : List Nat) : (avs bs).length = bs.length := by simp [avs]
theorem frz_ints {α : Type} (n : Nat) (H : Heap) : ∀ (bs : List Nat) (ok : List AV → List (Nat × Nat) → α) (bad : α), mapK (frzK (n + 1) H) (avs bs) ok bad = ok (avs bs) []
  | [], ok, bad => rfl
  | b :: bs, ok, bad => by
    have ih := frz_ints (α := α) n H bs
    simp only [avs, List.map_cons, mapK, frzK] at ih ⊢
    rw [ih]; rfl

def cstep (s : Nat) : Nat := if s % 2 = 1 then (s / 2) ^^^ 2197175160 else s / 2
def csteps : Nat → Nat → Nat
  | 0, s => s
  | n + 1, s => csteps n (cstep s)
def add (s b : Nat) : Nat := csteps 8 (s ^^^ b)
def crcOf (bs : List Nat) : Nat := (bs.foldl add 4294967295) ^^^ 4294967295
theorem cstep_lt {s : Nat} (h : s < 2 ^ 32) : cstep s < 2 ^ 32 := by
  unfold cstep
  have h2 : s / 2 < 2 ^ 32 := by omega
  split
  · exact Nat.xor_lt_two_pow h2 (by decide)
  · exact h2
theorem csteps_lt : ∀ (n : Nat) {s : Nat}, s < 2 ^ 32 → csteps n s < 2 ^ 32
  | 0, _, h => h
  | n + 1, _, h => csteps_lt n (cstep_lt h)
theorem add_lt {s b : Nat} (hs : s < 2 ^ 32) (hb : b < 256) : add s b < 2 ^ 32 := csteps_lt 8 (Nat.xor_lt_two_pow hs (by omega))
theorem fold_lt : ∀ (bs : List Nat) {s : Nat}, s < 2 ^ 32 → (∀ b ∈ bs, b < 256) → bs.foldl add s < 2 ^ 32
  | [], _, h, _ => h
  | b :: bs, _, h, hb => fold_lt bs (add_lt h (hb b (List.mem_cons_self))) (fun c hc => hb c (List.mem_cons_of_mem _ hc))

def rbit (r b j : Nat) : Nat := (r % 2) ^^^ ((b / 2 ^ j) % 2)
def rstep (r b j : Nat) : Nat := if rbit r b j = 1 then (r / 2) ^^^ 2197175160 else r / 2
def rsteps : Nat → Nat → Nat → Nat → Nat
  | 0, r, _, _ => r
  | n + 1, r, b, j => rsteps n (rstep r b j) b (j + 1)
theorem xor_half (x y : Nat) : (x ^^^ y) / 2 = x / 2 ^^^ y / 2 := by
  have := @Nat.shiftRight_xor_distrib 1 x y
  simpa [Nat.shiftRight_eq_div_pow] using this
theorem xor_two (x y : Nat) : (x ^^^ y) % 2 = (x % 2) ^^^ (y % 2) := by
  have := @Nat.xor_mod_two_pow x y 1
  simpa using this
theorem cstep_rstep (r b j : Nat) : cstep (r ^^^ b / 2 ^ j) = rstep r b j ^^^ (b / 2 ^ (j + 1)) := by
  have e1 : b / 2 ^ j / 2 = b / 2 ^ (j + 1) := by rw [Nat.div_div_eq_div_mul, Nat.pow_succ]
  unfold cstep rstep rbit
  rw [xor_two, xor_half, e1]
  split
  · rw [Nat.xor_assoc, Nat.xor_comm (b / 2 ^ (j + 1)), ← Nat.xor_assoc]
  · rfl
theorem csteps_rsteps : ∀ (n r b j : Nat), csteps n (r ^^^ b / 2 ^ j) = rsteps n r b j ^^^ (b / 2 ^ (j + n))
  | 0, r, b, j => rfl
  | n + 1, r, b, j => by
    simp only [csteps, rsteps]
    rw [cstep_rstep, csteps_rsteps n (rstep r b j) b (j + 1)]
    congr 2
    rw [Nat.add_right_comm, Nat.add_assoc]
theorem rsteps_add (r b : Nat) (hb : b < 256) : rsteps 8 r b 0 = add r b := by
  have := csteps_rsteps 8 r b 0
  have e : b / 2 ^ (0 + 8) = 0 := Nat.div_eq_of_lt hb
  rw [e] at this
  simpa [add] using this.symm
theorem rstep_lt {r b j : Nat} (h : r < 2 ^ 32) : rstep r b j < 2 ^ 32 := by
  unfold rstep
  have h2 : r / 2 < 2 ^ 32 := by omega
  split
  · exact Nat.xor_lt_two_pow h2 (by decide)
  · exact h2
end Go.Ev
/- The walk through the events' functions. -/
-- short
namespace Go.Proofs.Ytmokhopjnjecbac
open Go.Ev
set_option linter.unusedVariables false
set_option linter.unusedSimpArgs false
set_option maxRecDepth 100000
variable {R : List AV → Heap → Ctr → Prop} {k : List It} {H : Heap} {nx : Ctr} {φ : Nat}

theorem xleaf_calls (t : ET) : PCalls Try.prog F_event_leaf [xtv t] (.bool (decide (t.ps.length = 0))) := by
  refine calls_event_leaf (walk0 100 trivial (fun A eA => ?_))
  by_cases h : t.ps.length = 0
  · simp (disch := first | omega | (simp only [avs_len, zz1, zz2, zz3, zz4, zz5, zz6]; omega) | (simp only [cells, scal1, allSz, zz1, zz3, zz2, zz6, zz7, zz8, avs_len, zz9, zz10, zz11, zz12, zz13, reduceCtorEq, *]; done) | fail) only [c_event_leaf, go_sem, eA, scal1, xtavs_len]
    exact doneG rfl
  · simp (disch := first | omega | (simp only [avs_len, zz1, zz2, zz3, zz4, zz5, zz6]; omega) | (simp only [cells, scal1, allSz, zz1, zz3, zz2, zz6, zz7, zz8, avs_len, zz9, zz10, zz11, zz12, zz13, reduceCtorEq, *]; done) | fail) only [c_event_leaf, go_sem, eA, scal1, xtavs_len]
    exact doneG rfl
theorem xcount_loop (d : Nat) (hd : d < 1000) (ihd : ∀ t, PCalls Try.prog F_z28z [xtv t, .int .i64 (d : Nat)] (.int .i64 (xcnt d t : Nat))) (ts : List ET) (hts : ts.length ≤ 2) : ∀ (post pre : List ET), ts = pre ++ post → ∀ (n : Nat) (nx : Ctr), n ≤ 60 →
    RunsX Try.prog 0 (Gives [.t 4] (.int .i64 (xcntL (xcnt d) n post : Nat))) (i_z28z_0 ++ [.c c_z28z_k0]) (s_z28z_0 (.int .i64 ((d + 1 : Nat) : Int)) (.int .i64 (n : Nat)) (.fz 2 (xtavs ts) none) (.int .i64 (ts.length : Nat)) (.int .i64 (pre.length : Nat))) [] nx := by
  intro post
  induction post with
  | nil =>
    intro pre h1 n nx hn
    rw [List.append_nil] at h1
    subst h1
    refine round (its := [.blk 0 wb_z28z_0]) (k0 := [.c c_z28z_k0]) 100 trivial trivial (fun A eA => ?_)
    simp (disch := first | omega | (simp only [avs_len, zz1, zz2, zz3, zz4, zz5, zz6]; omega) | (simp only [cells, scal1, allSz, zz1, zz3, zz2, zz6, zz7, zz8, avs_len, zz9, zz10, zz11, zz12, zz13, reduceCtorEq, *]; done) | fail) only [c_z28z, wl_z28z_0, s_z28z_0, c_z28z_l0, wb_z28z_0, c_z28z_k0, go_sem, eA]
    refine walk0 (its := [.c c_z28z_k0]) 100 trivial (fun A eA => ?_)
    simp (disch := first | omega | (simp only [avs_len, zz1, zz2, zz3, zz4, zz5, zz6]; omega) | (simp only [cells, scal1, allSz, zz1, zz3, zz2, zz6, zz7, zz8, avs_len, zz9, zz10, zz11, zz12, zz13, reduceCtorEq, *]; done) | fail) only [c_z28z, wl_z28z_0, s_z28z_0, c_z28z_l0, wb_z28z_0, c_z28z_k0, go_sem, eA]
    exact doneG rfl
  | cons p post ih =>
    intro pre h1 n nx hn
    have hlt : pre.length < ts.length := by rw [h1]; simp
    have g0 : (xtavs ts)[pre.length]? = some (xtv p) := by rw [xtavs_get, h1]; simp
    have w1 : IntKind.i64.wrap ((pre.length : Int) + 1) = ((pre.length + 1 : Nat) : Int) := by rw [IntKind.wrap_i64]; omega
    have w2 : IntKind.i64.wrap (((d + 1 : Nat) : Int) - 1) = ((d : Nat) : Int) := by rw [IntKind.wrap_i64]; omega
    have hc := xcnt_le d p
    have w3 : IntKind.i64.wrap ((n : Int) + (xcnt d p : Nat)) = ((n + xcnt d p : Nat) : Int) := by rw [IntKind.wrap_i64]; omega
    refine round (its := [.blk 0 wb_z28z_0]) (k0 := [.c c_z28z_k0]) 100 trivial trivial (fun A eA => ?_)
    simp (disch := first | omega | (simp only [avs_len, zz1, zz2, zz3, zz4, zz5, zz6]; omega) | (simp only [cells, scal1, allSz, zz1, zz3, zz2, zz6, zz7, zz8, avs_len, zz9, zz10, zz11, zz12, zz13, reduceCtorEq, *]; done) | fail) only [c_z28z, wl_z28z_0, s_z28z_0, c_z28z_l0, wb_z28z_0, c_z28z_k0, go_sem, eA, zz16, g0, w2, scal1, List.all_cons, List.all_nil, Bool.and_self]
    refine call0 100 trivial trivial (ihd p) (.inl rfl) (fun A eA => ?_)
    by_cases hq : 60 < n + xcnt d p
    · simp only [xcntL, if_pos hq]
      simp (disch := first | omega | (simp only [avs_len, zz1, zz2, zz3, zz4, zz5, zz6]; omega) | (simp only [cells, scal1, allSz, zz1, zz3, zz2, zz6, zz7, zz8, avs_len, zz9, zz10, zz11, zz12, zz13, reduceCtorEq, *]; done) | fail) only [c_z28z, wl_z28z_0, s_z28z_0, c_z28z_l0, wb_z28z_0, c_z28z_k0, go_sem, eA, w3]
      exact doneG rfl
    · simp only [xcntL, if_neg hq]
      simp (disch := first | omega | (simp only [avs_len, zz1, zz2, zz3, zz4, zz5, zz6]; omega) | (simp only [cells, scal1, allSz, zz1, zz3, zz2, zz6, zz7, zz8, avs_len, zz9, zz10, zz11, zz12, zz13, reduceCtorEq, *]; done) | fail) only [c_z28z, wl_z28z_0, s_z28z_0, c_z28z_l0, wb_z28z_0, c_z28z_k0, go_sem, eA, w3, w1]
      have hih := ih (pre ++ [p]) (by rw [h1]; simp) (n + xcnt d p) (bump nx 7) (by omega)
      rw [show (pre ++ [p]).length = pre.length + 1 by simp] at hih
      exact hih
theorem xcount_calls : ∀ (d : Nat) (t : ET), d < 1000 → PCalls Try.prog F_z28z [xtv t, .int .i64 (d : Nat)] (.int .i64 (xcnt d t : Nat)) := by
  intro d
  induction d with
  | zero =>
    intro t _
    refine calls_z28z (walk0 100 trivial (fun A eA => ?_))
    simp (disch := first | omega | (simp only [avs_len, zz1, zz2, zz3, zz4, zz5, zz6]; omega) | (simp only [cells, scal1, allSz, zz1, zz3, zz2, zz6, zz7, zz8, avs_len, zz9, zz10, zz11, zz12, zz13, reduceCtorEq, *]; done) | fail) only [c_z28z, wl_z28z_0, s_z28z_0, c_z28z_l0, wb_z28z_0, c_z28z_k0, go_sem, eA, scal1, xtavs_len]
    exact doneG rfl
  | succ d ih =>
    intro t hd
    refine calls_z28z (walk0 100 trivial (fun A eA => ?_))
    simp only [xcnt]
    by_cases n0 : t.n < 0
    · rw [if_pos (.inl n0)]
      simp (disch := first | omega | (simp only [avs_len, zz1, zz2, zz3, zz4, zz5, zz6]; omega) | (simp only [cells, scal1, allSz, zz1, zz3, zz2, zz6, zz7, zz8, avs_len, zz9, zz10, zz11, zz12, zz13, reduceCtorEq, *]; done) | fail) only [c_z28z, wl_z28z_0, s_z28z_0, c_z28z_l0, wb_z28z_0, c_z28z_k0, go_sem, eA, scal1, xtavs_len]
      exact doneG rfl
    by_cases n1 : 1099511627776 < t.n
    · rw [if_pos (.inr (.inl n1))]
      simp (disch := first | omega | (simp only [avs_len, zz1, zz2, zz3, zz4, zz5, zz6]; omega) | (simp only [cells, scal1, allSz, zz1, zz3, zz2, zz6, zz7, zz8, avs_len, zz9, zz10, zz11, zz12, zz13, reduceCtorEq, *]; done) | fail) only [c_z28z, wl_z28z_0, s_z28z_0, c_z28z_l0, wb_z28z_0, c_z28z_k0, go_sem, eA, scal1, xtavs_len]
      exact doneG rfl
    simp (disch := first | omega | (simp only [avs_len, zz1, zz2, zz3, zz4, zz5, zz6]; omega) | (simp only [cells, scal1, allSz, zz1, zz3, zz2, zz6, zz7, zz8, avs_len, zz9, zz10, zz11, zz12, zz13, reduceCtorEq, *]; done) | fail) only [c_z28z, wl_z28z_0, s_z28z_0, c_z28z_l0, wb_z28z_0, c_z28z_k0, go_sem, eA, scal1, xtavs_len]
    refine call0 100 trivial trivial (xleaf_calls t) (.inl rfl) (fun A eA => ?_)
    by_cases h0 : t.ps.length = 0
    · rw [if_neg (by omega)]
      simp (disch := first | omega | (simp only [avs_len, zz1, zz2, zz3, zz4, zz5, zz6]; omega) | (simp only [cells, scal1, allSz, zz1, zz3, zz2, zz6, zz7, zz8, avs_len, zz9, zz10, zz11, zz12, zz13, reduceCtorEq, *]; done) | fail) only [c_z28z, wl_z28z_0, s_z28z_0, c_z28z_l0, wb_z28z_0, c_z28z_k0, go_sem, eA, xtavs_len]
      exact xcount_loop d (by omega) (fun t => ih t (by omega)) t.ps (by omega) t.ps [] rfl 1 zeroC (by omega)
    · by_cases h2 : t.ps.length = 2
      · rw [if_neg (by omega)]
        simp (disch := first | omega | (simp only [avs_len, zz1, zz2, zz3, zz4, zz5, zz6]; omega) | (simp only [cells, scal1, allSz, zz1, zz3, zz2, zz6, zz7, zz8, avs_len, zz9, zz10, zz11, zz12, zz13, reduceCtorEq, *]; done) | fail) only [c_z28z, wl_z28z_0, s_z28z_0, c_z28z_l0, wb_z28z_0, c_z28z_k0, go_sem, eA, xtavs_len]
        exact xcount_loop d (by omega) (fun t => ih t (by omega)) t.ps (by omega) t.ps [] rfl 1 zeroC (by omega)
      · rw [if_pos (.inr (.inr ⟨h0, h2⟩))]
        simp (disch := first | omega | (simp only [avs_len, zz1, zz2, zz3, zz4, zz5, zz6]; omega) | (simp only [cells, scal1, allSz, zz1, zz3, zz2, zz6, zz7, zz8, avs_len, zz9, zz10, zz11, zz12, zz13, reduceCtorEq, *]; done) | fail) only [c_z28z, wl_z28z_0, s_z28z_0, c_z28z_l0, wb_z28z_0, c_z28z_k0, go_sem, eA, xtavs_len]
        exact doneG rfl
theorem xleaf_b (b : E) : PCalls Try.prog F_event_leaf [xtv b.t] (.bool b.leaf) := by rw [← b.t_leaf]; exact xleaf_calls b.t
theorem xshort_calls : ∀ (b : E), PCalls Try.prog F_event_short [xtv b.t] (.bool b.short) := by
  intro b
  induction b with
  | lf o =>
    refine calls_event_short (walk0 100 trivial (fun A eA => ?_))
    simp (disch := first | omega | (simp only [avs_len, zz1, zz2, zz3, zz4, zz5, zz6]; omega) | (simp only [cells, scal1, allSz, zz1, zz3, zz2, zz6, zz7, zz8, avs_len, zz9, zz10, zz11, zz12, zz13, reduceCtorEq, *]; done) | fail) only [c_event_short, go_sem, eA, scal1, xtavs_len]
    refine call0 100 trivial trivial (xleaf_b (E.lf o)) (.inl rfl) (fun A eA => ?_)
    simp (disch := first | omega | (simp only [avs_len, zz1, zz2, zz3, zz4, zz5, zz6]; omega) | (simp only [cells, scal1, allSz, zz1, zz3, zz2, zz6, zz7, zz8, avs_len, zz9, zz10, zz11, zz12, zz13, reduceCtorEq, *]; done) | fail) only [c_event_short, go_sem, eA, E.leaf]
    exact doneG rfl
  | nd n l r ihl ihr =>
    have h0 : (E.nd n l r).t.ps = [l.t, r.t] := rfl
    have g0 : (xtavs [l.t, r.t])[0]? = some (xtv l.t) := by rw [xtavs_get]; rfl
    have g1 : (xtavs [l.t, r.t])[1]? = some (xtv r.t) := by rw [xtavs_get]; rfl
    refine calls_event_short (walk0 100 trivial (fun A eA => ?_))
    simp (disch := first | omega | (simp only [avs_len, zz1, zz2, zz3, zz4, zz5, zz6]; omega) | (simp only [cells, scal1, allSz, zz1, zz3, zz2, zz6, zz7, zz8, avs_len, zz9, zz10, zz11, zz12, zz13, reduceCtorEq, *]; done) | fail) only [c_event_short, go_sem, eA, scal1, xtavs_len]
    refine call0 100 trivial trivial (xleaf_b (E.nd n l r)) (.inl rfl) (fun A eA => ?_)
    simp (disch := first | omega | (simp only [avs_len, zz1, zz2, zz3, zz4, zz5, zz6]; omega) | (simp only [cells, scal1, allSz, zz1, zz3, zz2, zz6, zz7, zz8, avs_len, zz9, zz10, zz11, zz12, zz13, reduceCtorEq, *]; done) | fail) only [c_event_short, go_sem, eA, h0, g0, g1, scal1, List.all_cons, List.all_nil, Bool.and_self, E.leaf]
    refine call0 100 trivial trivial ihl (.inl rfl) (fun A eA => ?_)
    simp only [E.short]
    have cl := xleaf_b l
    have cr := xleaf_b r
    cases hl : l.short with
    | false =>
      simp (disch := first | omega | (simp only [avs_len, zz1, zz2, zz3, zz4, zz5, zz6]; omega) | (simp only [cells, scal1, allSz, zz1, zz3, zz2, zz6, zz7, zz8, avs_len, zz9, zz10, zz11, zz12, zz13, reduceCtorEq, *]; done) | fail) only [c_event_short, go_sem, eA, hl]
      simp only [Bool.false_and]
      exact doneG rfl
    | true =>
      simp (disch := first | omega | (simp only [avs_len, zz1, zz2, zz3, zz4, zz5, zz6]; omega) | (simp only [cells, scal1, allSz, zz1, zz3, zz2, zz6, zz7, zz8, avs_len, zz9, zz10, zz11, zz12, zz13, reduceCtorEq, *]; done) | fail) only [c_event_short, go_sem, eA, hl]
      refine call0 100 trivial trivial ihr (.inl rfl) (fun A eA => ?_)
      cases hr : r.short with
      | false =>
        simp (disch := first | omega | (simp only [avs_len, zz1, zz2, zz3, zz4, zz5, zz6]; omega) | (simp only [cells, scal1, allSz, zz1, zz3, zz2, zz6, zz7, zz8, avs_len, zz9, zz10, zz11, zz12, zz13, reduceCtorEq, *]; done) | fail) only [c_event_short, go_sem, eA, hr]
        simp only [Bool.and_false, Bool.false_and]
        exact doneG rfl
      | true =>
        have tl := l.t_n
        have tr := r.t_n
        generalize l.leaf = ll at cl ⊢
        generalize r.leaf = rl at cr ⊢
        by_cases z : l.n = 0 ∨ r.n = 0
        · have z1 : (decide (l.n = 0) || decide (r.n = 0)) = true := by simpa using z
          rw [z1]
          by_cases q : l.n = r.n
          · rw [show decide (l.n = r.n) = true by simpa using q]
            have zl : l.n = 0 := by omega
            cases ll <;> cases rl
            all_goals
              simp (disch := first | omega | (simp only [avs_len, zz1, zz2, zz3, zz4, zz5, zz6]; omega) | (simp only [cells, scal1, allSz, zz1, zz3, zz2, zz6, zz7, zz8, avs_len, zz9, zz10, zz11, zz12, zz13, reduceCtorEq, *]; done) | fail) only [c_event_short, go_sem, eA, Bool.true_and, Bool.false_and, Bool.and_false, Bool.and_true]
              repeat ((first | refine call0 100 trivial trivial (by first | exact cl | exact cr) (by first | exact .inl rfl | exact .inr rfl) (fun A eA => ?_) | refine call1 100 trivial trivial (by first | exact cl | exact cr) (fun A eA => ?_)); simp (disch := first | omega | (simp only [avs_len, zz1, zz2, zz3, zz4, zz5, zz6]; omega) | (simp only [cells, scal1, allSz, zz1, zz3, zz2, zz6, zz7, zz8, avs_len, zz9, zz10, zz11, zz12, zz13, reduceCtorEq, *]; done) | fail) only [c_event_short, go_sem, eA, Bool.true_and, Bool.false_and, Bool.and_false, Bool.and_true])
              exact doneG rfl
          · rw [show decide (l.n = r.n) = false by simpa using q]
            by_cases zl : l.n = 0 <;> cases ll <;> cases rl
            all_goals
              simp (disch := first | omega | (simp only [avs_len, zz1, zz2, zz3, zz4, zz5, zz6]; omega) | (simp only [cells, scal1, allSz, zz1, zz3, zz2, zz6, zz7, zz8, avs_len, zz9, zz10, zz11, zz12, zz13, reduceCtorEq, *]; done) | fail) only [c_event_short, go_sem, eA, Bool.true_and, Bool.false_and, Bool.and_false, Bool.and_true]
              repeat ((first | refine call0 100 trivial trivial (by first | exact cl | exact cr) (by first | exact .inl rfl | exact .inr rfl) (fun A eA => ?_) | refine call1 100 trivial trivial (by first | exact cl | exact cr) (fun A eA => ?_)); simp (disch := first | omega | (simp only [avs_len, zz1, zz2, zz3, zz4, zz5, zz6]; omega) | (simp only [cells, scal1, allSz, zz1, zz3, zz2, zz6, zz7, zz8, avs_len, zz9, zz10, zz11, zz12, zz13, reduceCtorEq, *]; done) | fail) only [c_event_short, go_sem, eA, Bool.true_and, Bool.false_and, Bool.and_false, Bool.and_true])
              exact doneG rfl
        · have z1 : (decide (l.n = 0) || decide (r.n = 0)) = false := by simp; omega
          rw [z1]
          simp (disch := first | omega | (simp only [avs_len, zz1, zz2, zz3, zz4, zz5, zz6]; omega) | (simp only [cells, scal1, allSz, zz1, zz3, zz2, zz6, zz7, zz8, avs_len, zz9, zz10, zz11, zz12, zz13, reduceCtorEq, *]; done) | fail) only [c_event_short, go_sem, eA]
          exact doneG rfl
theorem xrt_cnt (t : ET) : XRt t ↔ xcnt 8 t ≤ 60 ∧ ∃ b : E, t = b.t ∧ b.short = true := by
  constructor
  · rintro ⟨b, rfl, h1, h2, h3, h4⟩
    exact ⟨by rw [b_xcnt b 8 h2 h1 h4]; exact h2, b, rfl, h3⟩
  · rintro ⟨h1, b, rfl, h3⟩
    obtain ⟨b', e, h4, h5, h6⟩ := xcnt_b 8 _ h1
    obtain rfl := E.inj e
    exact ⟨b, rfl, h5, by omega, h3, h6⟩
theorem xright_calls (t : ET) : PCalls Try.prog F_event_Right [xtv t] (.bool (xrtb t)) := by
  refine calls_event_Right (walk0 100 trivial (fun A eA => ?_))
  simp (disch := first | omega | (simp only [avs_len, zz1, zz2, zz3, zz4, zz5, zz6]; omega) | (simp only [cells, scal1, allSz, zz1, zz3, zz2, zz6, zz7, zz8, avs_len, zz9, zz10, zz11, zz12, zz13, reduceCtorEq, *]; done) | fail) only [c_event_Right, go_sem, eA, scal1, xtavs_len]
  refine call0 100 trivial trivial (xcount_calls 8 t (by omega)) (.inl rfl) (fun A eA => ?_)
  by_cases h : xcnt 8 t ≤ 60
  · simp (disch := first | omega | (simp only [avs_len, zz1, zz2, zz3, zz4, zz5, zz6]; omega) | (simp only [cells, scal1, allSz, zz1, zz3, zz2, zz6, zz7, zz8, avs_len, zz9, zz10, zz11, zz12, zz13, reduceCtorEq, *]; done) | fail) only [c_event_Right, go_sem, eA]
    obtain ⟨b, rfl, h1, h2, h4⟩ := xcnt_b 8 t h
    refine call0 100 trivial trivial (xshort_calls b) (.inl rfl) (fun A eA => ?_)
    have : b.short = xrtb b.t := by
      rw [Bool.eq_iff_iff, xrtb_true, xrt_cnt]
      exact ⟨fun h3 => ⟨h, b, rfl, h3⟩, fun ⟨_, b', e, h3⟩ => by rw [E.inj e]; exact h3⟩
    simp (disch := first | omega | (simp only [avs_len, zz1, zz2, zz3, zz4, zz5, zz6]; omega) | (simp only [cells, scal1, allSz, zz1, zz3, zz2, zz6, zz7, zz8, avs_len, zz9, zz10, zz11, zz12, zz13, reduceCtorEq, *]; done) | fail) only [c_event_Right, go_sem, eA, this]
    exact doneG rfl
  · simp (disch := first | omega | (simp only [avs_len, zz1, zz2, zz3, zz4, zz5, zz6]; omega) | (simp only [cells, scal1, allSz, zz1, zz3, zz2, zz6, zz7, zz8, avs_len, zz9, zz10, zz11, zz12, zz13, reduceCtorEq, *]; done) | fail) only [c_event_Right, go_sem, eA]
    have : xrtb t = false := by rw [Bool.eq_false_iff, ne_eq, xrtb_true, xrt_cnt]; exact fun h3 => h h3.1
    rw [this]
    exact doneG rfl
end Go.Proofs.Ytmokhopjnjecbac
/- The walk through the events' functions, on. -/
-- short
namespace Go.Proofs.Ytmokhopjnjecbac
open Go.Ev
set_option linter.unusedVariables false
set_option linter.unusedSimpArgs false
set_option maxRecDepth 100000
variable {R : List AV → Heap → Ctr → Prop} {k : List It} {H : Heap} {nx : Ctr} {φ : Nat}

theorem xsame_loop4 (d : Nat) (hd : d < 1000) (ihd : ∀ a b : ET, a.size < 2 ^ 60 → PCalls Try.prog F_z35z [xtv a, xtv b, .int .i64 (d : Nat)] (.bool (xsm d a b))) (a b : ET) (hl : a.ps.length = b.ps.length) (hs : a.size < 2 ^ 60) : ∀ (post pre post2 pre2 : List ET), a.ps = pre ++ post → b.ps = pre2 ++ post2 → pre.length = pre2.length → ∀ nx : Ctr,
    RunsX Try.prog 0 (Gives [.t 6] (.bool (xsmL (xsm d) post post2))) (i_z35z_0 ++ [.c c_z35z_k0]) (s_z35z_0 (.int .i64 ((d + 1 : Nat) : Int)) (.ro [.int .i64 a.n, .fz 2 (xtavs a.ps) none]) (.ro [.int .i64 b.n, .fz 2 (xtavs b.ps) none]) (.int .i64 (a.ps.length : Nat)) (.int .i64 (pre.length : Nat))) [] nx := by
  have hls := xlen_size a
  intro post
  induction post with
  | nil =>
    intro pre post2 pre2 h1 h2 h3 nx
    have h5 : a.ps.length = pre.length := by rw [h1]; simp
    refine round (its := [.blk 0 wb_z35z_0]) (k0 := [.c c_z35z_k0]) 100 trivial trivial (fun A eA => ?_)
    simp (disch := first | omega | (simp only [avs_len, zz1, zz2, zz3, zz4, zz5, zz6]; omega) | (simp only [cells, scal1, allSz, zz1, zz3, zz2, zz6, zz7, zz8, avs_len, zz9, zz10, zz11, zz12, zz13, reduceCtorEq, *]; done) | fail) only [c_z35z, wl_z35z_0, s_z35z_0, c_z35z_l0, wb_z35z_0, c_z35z_k0, go_sem, eA]
    refine walk0 (its := [.c c_z35z_k0]) 100 trivial (fun A eA => ?_)
    simp (disch := first | omega | (simp only [avs_len, zz1, zz2, zz3, zz4, zz5, zz6]; omega) | (simp only [cells, scal1, allSz, zz1, zz3, zz2, zz6, zz7, zz8, avs_len, zz9, zz10, zz11, zz12, zz13, reduceCtorEq, *]; done) | fail) only [c_z35z, wl_z35z_0, s_z35z_0, c_z35z_l0, wb_z35z_0, c_z35z_k0, go_sem, eA]
    cases post2 <;> exact doneG rfl
  | cons p post ih =>
    intro pre post2 pre2 h1 h2 h3 nx
    cases post2 with
    | nil => have h7 := congrArg List.length h1; have h8 := congrArg List.length h2; simp only [List.length_append, List.length_nil, List.length_cons] at h7 h8; omega
    | cons q post2 =>
      have hlt : pre.length < a.ps.length := by rw [h1]; simp
      have hpm : p ∈ a.ps := by rw [h1]; simp
      have hpz := xsize_lt hpm
      have g0 : (xtavs a.ps)[pre.length]? = some (xtv p) := by rw [xtavs_get, h1]; simp
      have g1 : (xtavs b.ps)[pre.length]? = some (xtv q) := by rw [xtavs_get, h2, h3]; simp
      have w1 : IntKind.i64.wrap ((pre.length : Int) + 1) = ((pre.length + 1 : Nat) : Int) := by rw [IntKind.wrap_i64]; omega
      have w2 : IntKind.i64.wrap (((d + 1 : Nat) : Int) - 1) = ((d : Nat) : Int) := by rw [IntKind.wrap_i64]; omega
      refine round (its := [.blk 0 wb_z35z_0]) (k0 := [.c c_z35z_k0]) 100 trivial trivial (fun A eA => ?_)
      simp (disch := first | omega | (simp only [avs_len, zz1, zz2, zz3, zz4, zz5, zz6]; omega) | (simp only [cells, scal1, allSz, zz1, zz3, zz2, zz6, zz7, zz8, avs_len, zz9, zz10, zz11, zz12, zz13, reduceCtorEq, *]; done) | fail) only [c_z35z, wl_z35z_0, s_z35z_0, c_z35z_l0, wb_z35z_0, c_z35z_k0, go_sem, eA, zz16, g0, g1, w2, scal1, List.all_cons, List.all_nil, Bool.and_self]
      refine call0 100 trivial trivial (ihd p q (by omega)) (.inl rfl) (fun A eA => ?_)
      cases hq : xsm d p q with
      | false =>
        simp (disch := first | omega | (simp only [avs_len, zz1, zz2, zz3, zz4, zz5, zz6]; omega) | (simp only [cells, scal1, allSz, zz1, zz3, zz2, zz6, zz7, zz8, avs_len, zz9, zz10, zz11, zz12, zz13, reduceCtorEq, *]; done) | fail) only [c_z35z, wl_z35z_0, s_z35z_0, c_z35z_l0, wb_z35z_0, c_z35z_k0, go_sem, eA]
        simp only [xsmL, hq, Bool.false_and]
        exact doneG rfl
      | true =>
        simp (disch := first | omega | (simp only [avs_len, zz1, zz2, zz3, zz4, zz5, zz6]; omega) | (simp only [cells, scal1, allSz, zz1, zz3, zz2, zz6, zz7, zz8, avs_len, zz9, zz10, zz11, zz12, zz13, reduceCtorEq, *]; done) | fail) only [c_z35z, wl_z35z_0, s_z35z_0, c_z35z_l0, wb_z35z_0, c_z35z_k0, go_sem, eA, w1]
        simp only [xsmL, hq, Bool.true_and]
        have hih := ih (pre ++ [p]) post2 (pre2 ++ [q]) (by rw [h1]; simp) (by rw [h2]; simp) (by simp [h3]) nx
        rw [show (pre ++ [p]).length = pre.length + 1 by simp] at hih
        exact hih
theorem xsame4_calls : ∀ (d : Nat) (a b : ET), d < 1000 → a.size < 2 ^ 60 → PCalls Try.prog F_z35z [xtv a, xtv b, .int .i64 (d : Nat)] (.bool (xsm d a b)) := by
  intro d
  induction d with
  | zero =>
    intro a b _ _
    refine calls_z35z (walk0 100 trivial (fun A eA => ?_))
    simp (disch := first | omega | (simp only [avs_len, zz1, zz2, zz3, zz4, zz5, zz6]; omega) | (simp only [cells, scal1, allSz, zz1, zz3, zz2, zz6, zz7, zz8, avs_len, zz9, zz10, zz11, zz12, zz13, reduceCtorEq, *]; done) | fail) only [c_z35z, wl_z35z_0, s_z35z_0, c_z35z_l0, wb_z35z_0, c_z35z_k0, go_sem, eA, scal1, xtavs_len]
    exact doneG rfl
  | succ d ih =>
    intro a b hd hs
    refine calls_z35z (walk0 100 trivial (fun A eA => ?_))
    simp only [xsm]
    by_cases h1 : a.n = b.n
    · by_cases h2 : a.ps.length = b.ps.length
      · simp (disch := first | omega | (simp only [avs_len, zz1, zz2, zz3, zz4, zz5, zz6]; omega) | (simp only [cells, scal1, allSz, zz1, zz3, zz2, zz6, zz7, zz8, avs_len, zz9, zz10, zz11, zz12, zz13, reduceCtorEq, *]; done) | fail) only [c_z35z, wl_z35z_0, s_z35z_0, c_z35z_l0, wb_z35z_0, c_z35z_k0, go_sem, eA, scal1, xtavs_len, h1]
        rw [← h1, Bool.true_and]
        have := xsame_loop4 d (by omega) (fun a b hz => ih a b (by omega) hz) a b h2 hs a.ps [] b.ps [] rfl rfl rfl zeroC
        rw [← h1] at this
        exact this
      · simp (disch := first | omega | (simp only [avs_len, zz1, zz2, zz3, zz4, zz5, zz6]; omega) | (simp only [cells, scal1, allSz, zz1, zz3, zz2, zz6, zz7, zz8, avs_len, zz9, zz10, zz11, zz12, zz13, reduceCtorEq, *]; done) | fail) only [c_z35z, wl_z35z_0, s_z35z_0, c_z35z_l0, wb_z35z_0, c_z35z_k0, go_sem, eA, scal1, xtavs_len, h1]
        exact doneG rfl
    · have hb : decide (a.n = b.n) = false := by simp [h1]
      simp (disch := first | omega | (simp only [avs_len, zz1, zz2, zz3, zz4, zz5, zz6]; omega) | (simp only [cells, scal1, allSz, zz1, zz3, zz2, zz6, zz7, zz8, avs_len, zz9, zz10, zz11, zz12, zz13, reduceCtorEq, *]; done) | fail) only [c_z35z, wl_z35z_0, s_z35z_0, c_z35z_l0, wb_z35z_0, c_z35z_k0, go_sem, eA, scal1, xtavs_len]
      simp only [h1, false_and, decide_false, Bool.false_and]
      exact doneG rfl
theorem xSame4_calls (a b : ET) (hs : a.size < 2 ^ 60) : PCalls Try.prog F_event_Same [xtv a, xtv b] (.bool (xsm 8 a b)) := by
  refine calls_event_Same (walk0 100 trivial (fun A eA => ?_))
  simp (disch := first | omega | (simp only [avs_len, zz1, zz2, zz3, zz4, zz5, zz6]; omega) | (simp only [cells, scal1, allSz, zz1, zz3, zz2, zz6, zz7, zz8, avs_len, zz9, zz10, zz11, zz12, zz13, reduceCtorEq, *]; done) | fail) only [c_event_Same, go_sem, eA, scal1, xtavs_len]
  refine call0 100 trivial trivial (xsame4_calls 8 a b (by omega) hs) (.inl rfl) (fun A eA => ?_)
  simp (disch := first | omega | (simp only [avs_len, zz1, zz2, zz3, zz4, zz5, zz6]; omega) | (simp only [cells, scal1, allSz, zz1, zz3, zz2, zz6, zz7, zz8, avs_len, zz9, zz10, zz11, zz12, zz13, reduceCtorEq, *]; done) | fail) only [c_event_Same, go_sem, eA]
  exact doneG rfl
theorem xrefSame_loop (a b : ET) (hl : a.ps.length = b.ps.length) (hs : a.size < 2 ^ 60) (ihd : ∀ p ∈ a.ps, ∀ q : ET, PCalls Try.prog F_z31z [xtv p, xtv q] (.bool (xteq p q))) : ∀ (post pre post2 pre2 : List ET), a.ps = pre ++ post → b.ps = pre2 ++ post2 → pre.length = pre2.length → ∀ nx : Ctr,
    RunsX Try.prog 0 (Gives [.t 4] (.bool (xsmL xteq post post2))) (i_z31z_0 ++ [.c c_z31z_k0]) (s_z31z_0 (.ro [.int .i64 a.n, .fz 2 (xtavs a.ps) none]) (.ro [.int .i64 b.n, .fz 2 (xtavs b.ps) none]) (.int .i64 (a.ps.length : Nat)) (.int .i64 (pre.length : Nat))) [] nx := by
  have hls := xlen_size a
  intro post
  induction post with
  | nil =>
    intro pre post2 pre2 h1 h2 h3 nx
    have h5 : a.ps.length = pre.length := by rw [h1]; simp
    refine round (its := [.blk 0 wb_z31z_0]) (k0 := [.c c_z31z_k0]) 100 trivial trivial (fun A eA => ?_)
    simp (disch := first | omega | (simp only [avs_len, zz1, zz2, zz3, zz4, zz5, zz6]; omega) | (simp only [cells, scal1, allSz, zz1, zz3, zz2, zz6, zz7, zz8, avs_len, zz9, zz10, zz11, zz12, zz13, reduceCtorEq, *]; done) | fail) only [c_z31z, wl_z31z_0, s_z31z_0, c_z31z_l0, wb_z31z_0, c_z31z_k0, go_sem, eA]
    refine walk0 (its := [.c c_z31z_k0]) 100 trivial (fun A eA => ?_)
    simp (disch := first | omega | (simp only [avs_len, zz1, zz2, zz3, zz4, zz5, zz6]; omega) | (simp only [cells, scal1, allSz, zz1, zz3, zz2, zz6, zz7, zz8, avs_len, zz9, zz10, zz11, zz12, zz13, reduceCtorEq, *]; done) | fail) only [c_z31z, wl_z31z_0, s_z31z_0, c_z31z_l0, wb_z31z_0, c_z31z_k0, go_sem, eA]
    cases post2 <;> exact doneG rfl
  | cons p post ih =>
    intro pre post2 pre2 h1 h2 h3 nx
    cases post2 with
    | nil => have h7 := congrArg List.length h1; have h8 := congrArg List.length h2; simp only [List.length_append, List.length_nil, List.length_cons] at h7 h8; omega
    | cons q post2 =>
      have hlt : pre.length < a.ps.length := by rw [h1]; simp
      have hpm : p ∈ a.ps := by rw [h1]; simp
      have g0 : (xtavs a.ps)[pre.length]? = some (xtv p) := by rw [xtavs_get, h1]; simp
      have g1 : (xtavs b.ps)[pre.length]? = some (xtv q) := by rw [xtavs_get, h2, h3]; simp
      have w1 : IntKind.i64.wrap ((pre.length : Int) + 1) = ((pre.length + 1 : Nat) : Int) := by rw [IntKind.wrap_i64]; omega
      refine round (its := [.blk 0 wb_z31z_0]) (k0 := [.c c_z31z_k0]) 100 trivial trivial (fun A eA => ?_)
      simp (disch := first | omega | (simp only [avs_len, zz1, zz2, zz3, zz4, zz5, zz6]; omega) | (simp only [cells, scal1, allSz, zz1, zz3, zz2, zz6, zz7, zz8, avs_len, zz9, zz10, zz11, zz12, zz13, reduceCtorEq, *]; done) | fail) only [c_z31z, wl_z31z_0, s_z31z_0, c_z31z_l0, wb_z31z_0, c_z31z_k0, go_sem, eA, zz16, g0, g1, scal1, List.all_cons, List.all_nil, Bool.and_self]
      refine call0 100 trivial trivial (ihd p hpm q) (.inl rfl) (fun A eA => ?_)
      cases hq : xteq p q with
      | false =>
        simp (disch := first | omega | (simp only [avs_len, zz1, zz2, zz3, zz4, zz5, zz6]; omega) | (simp only [cells, scal1, allSz, zz1, zz3, zz2, zz6, zz7, zz8, avs_len, zz9, zz10, zz11, zz12, zz13, reduceCtorEq, *]; done) | fail) only [c_z31z, wl_z31z_0, s_z31z_0, c_z31z_l0, wb_z31z_0, c_z31z_k0, go_sem, eA]
        simp only [xsmL, hq, Bool.false_and]
        exact doneG rfl
      | true =>
        simp (disch := first | omega | (simp only [avs_len, zz1, zz2, zz3, zz4, zz5, zz6]; omega) | (simp only [cells, scal1, allSz, zz1, zz3, zz2, zz6, zz7, zz8, avs_len, zz9, zz10, zz11, zz12, zz13, reduceCtorEq, *]; done) | fail) only [c_z31z, wl_z31z_0, s_z31z_0, c_z31z_l0, wb_z31z_0, c_z31z_k0, go_sem, eA, w1]
        simp only [xsmL, hq, Bool.true_and]
        have hih := ih (pre ++ [p]) post2 (pre2 ++ [q]) (by rw [h1]; simp) (by rw [h2]; simp) (by simp [h3]) nx
        rw [show (pre ++ [p]).length = pre.length + 1 by simp] at hih
        exact hih
theorem xrefSame_calls : ∀ (a : ET), a.size < 2 ^ 60 → ∀ b, PCalls Try.prog F_z31z [xtv a, xtv b] (.bool (xteq a b)) := by
  intro a
  induction a using ET.ind with
  | h a ih =>
    intro hs b
    rw [xteq_step]
    refine calls_z31z (walk0 100 trivial (fun A eA => ?_))
    by_cases h1 : a.n = b.n
    · by_cases h2 : a.ps.length = b.ps.length
      · simp (disch := first | omega | (simp only [avs_len, zz1, zz2, zz3, zz4, zz5, zz6]; omega) | (simp only [cells, scal1, allSz, zz1, zz3, zz2, zz6, zz7, zz8, avs_len, zz9, zz10, zz11, zz12, zz13, reduceCtorEq, *]; done) | fail) only [c_z31z, wl_z31z_0, s_z31z_0, c_z31z_l0, wb_z31z_0, c_z31z_k0, go_sem, eA, scal1, xtavs_len, h1]
        rw [← h1, Bool.true_and]
        have := xrefSame_loop a b h2 hs (fun p hp q => ih p hp (by have := xsize_lt hp; omega) q) a.ps [] b.ps [] rfl rfl rfl zeroC
        rw [← h1] at this
        exact this
      · simp (disch := first | omega | (simp only [avs_len, zz1, zz2, zz3, zz4, zz5, zz6]; omega) | (simp only [cells, scal1, allSz, zz1, zz3, zz2, zz6, zz7, zz8, avs_len, zz9, zz10, zz11, zz12, zz13, reduceCtorEq, *]; done) | fail) only [c_z31z, wl_z31z_0, s_z31z_0, c_z31z_l0, wb_z31z_0, c_z31z_k0, go_sem, eA, scal1, xtavs_len, h1]
        exact doneG rfl
    · have hb : decide (a.n = b.n) = false := by simp [h1]
      simp (disch := first | omega | (simp only [avs_len, zz1, zz2, zz3, zz4, zz5, zz6]; omega) | (simp only [cells, scal1, allSz, zz1, zz3, zz2, zz6, zz7, zz8, avs_len, zz9, zz10, zz11, zz12, zz13, reduceCtorEq, *]; done) | fail) only [c_z31z, wl_z31z_0, s_z31z_0, c_z31z_l0, wb_z31z_0, c_z31z_k0, go_sem, eA, scal1, xtavs_len]
      simp only [h1, false_and, decide_false, Bool.false_and]
      exact doneG rfl

/-- No deeper than that? -/
noncomputable def xflatb (d : Nat) (t : ET) : Bool := @decide (xflatTo d t) (Classical.propDecidable _)
theorem xflatb_true {d : Nat} {t : ET} : xflatb d t = true ↔ xflatTo d t := by simp [xflatb]
theorem xflatb_false {d : Nat} {t : ET} : xflatb d t = false ↔ ¬ xflatTo d t := by simp [xflatb]
theorem xshallow_loop (d : Nat) (hd : d < 1000) (ihd : ∀ t : ET, t.size < 2 ^ 60 → PCalls Try.prog F_z24z [xtv t, .int .i64 (d : Nat)] (.bool (xflatb d t))) (a : ET) (hs : a.size < 2 ^ 60) : ∀ (post pre : List ET), a.ps = pre ++ post → (∀ p ∈ pre, xflatTo d p) → ∀ nx : Ctr,
    RunsX Try.prog 0 (Gives [.t 4] (.bool (xflatb (d + 1) a))) (i_z24z_0 ++ [.c c_z24z_k0]) (s_z24z_0 (.int .i64 ((d + 1 : Nat) : Int)) (.fz 2 (xtavs a.ps) none) (.int .i64 (a.ps.length : Nat)) (.int .i64 (pre.length : Nat))) [] nx := by
  have hls := xlen_size a
  intro post
  induction post with
  | nil =>
    intro pre h1 h2 nx
    have h5 : a.ps.length = pre.length := by rw [h1]; simp
    have h6 : xflatb (d + 1) a = true := by rw [xflatb_true]; intro p hp; rw [h1, List.append_nil] at hp; exact h2 p hp
    refine round (its := [.blk 0 wb_z24z_0]) (k0 := [.c c_z24z_k0]) 100 trivial trivial (fun A eA => ?_)
    simp (disch := first | omega | (simp only [avs_len, zz1, zz2, zz3, zz4, zz5, zz6]; omega) | (simp only [cells, scal1, allSz, zz1, zz3, zz2, zz6, zz7, zz8, avs_len, zz9, zz10, zz11, zz12, zz13, reduceCtorEq, *]; done) | fail) only [c_z24z, wl_z24z_0, s_z24z_0, c_z24z_l0, wb_z24z_0, c_z24z_k0, go_sem, eA]
    refine walk0 (its := [.c c_z24z_k0]) 100 trivial (fun A eA => ?_)
    simp (disch := first | omega | (simp only [avs_len, zz1, zz2, zz3, zz4, zz5, zz6]; omega) | (simp only [cells, scal1, allSz, zz1, zz3, zz2, zz6, zz7, zz8, avs_len, zz9, zz10, zz11, zz12, zz13, reduceCtorEq, *]; done) | fail) only [c_z24z, wl_z24z_0, s_z24z_0, c_z24z_l0, wb_z24z_0, c_z24z_k0, go_sem, eA, h6]
    exact doneG rfl
  | cons p post ih =>
    intro pre h1 h2 nx
    have hlt : pre.length < a.ps.length := by rw [h1]; simp
    have hpm : p ∈ a.ps := by rw [h1]; simp
    have hpz := xsize_lt hpm
    have g0 : (xtavs a.ps)[pre.length]? = some (xtv p) := by rw [xtavs_get, h1]; simp
    have w1 : IntKind.i64.wrap ((pre.length : Int) + 1) = ((pre.length + 1 : Nat) : Int) := by rw [IntKind.wrap_i64]; omega
    have w2 : IntKind.i64.wrap (((d + 1 : Nat) : Int) - 1) = ((d : Nat) : Int) := by rw [IntKind.wrap_i64]; omega
    have hno : ¬ xflatTo d p → xflatb (d + 1) a = false := by intro hx; rw [xflatb_false]; intro h; exact hx (h p hpm)
    refine round (its := [.blk 0 wb_z24z_0]) (k0 := [.c c_z24z_k0]) 100 trivial trivial (fun A eA => ?_)
    by_cases hd0 : d = 0
    · subst hd0
      simp (disch := first | omega | (simp only [avs_len, zz1, zz2, zz3, zz4, zz5, zz6]; omega) | (simp only [cells, scal1, allSz, zz1, zz3, zz2, zz6, zz7, zz8, avs_len, zz9, zz10, zz11, zz12, zz13, reduceCtorEq, *]; done) | fail) only [c_z24z, wl_z24z_0, s_z24z_0, c_z24z_l0, wb_z24z_0, c_z24z_k0, go_sem, eA, zz16, g0, w2, scal1, List.all_cons, List.all_nil, Bool.and_self]
      rw [hno (by simp [xflatTo])]
      exact doneG rfl
    · simp (disch := first | omega | (simp only [avs_len, zz1, zz2, zz3, zz4, zz5, zz6]; omega) | (simp only [cells, scal1, allSz, zz1, zz3, zz2, zz6, zz7, zz8, avs_len, zz9, zz10, zz11, zz12, zz13, reduceCtorEq, *]; done) | fail) only [c_z24z, wl_z24z_0, s_z24z_0, c_z24z_l0, wb_z24z_0, c_z24z_k0, go_sem, eA, zz16, g0, w2, scal1, List.all_cons, List.all_nil, Bool.and_self]
      refine call0 100 trivial trivial (ihd p (by omega)) (.inl rfl) (fun A eA => ?_)
      cases hq : xflatb d p with
      | false =>
        simp (disch := first | omega | (simp only [avs_len, zz1, zz2, zz3, zz4, zz5, zz6]; omega) | (simp only [cells, scal1, allSz, zz1, zz3, zz2, zz6, zz7, zz8, avs_len, zz9, zz10, zz11, zz12, zz13, reduceCtorEq, *]; done) | fail) only [c_z24z, wl_z24z_0, s_z24z_0, c_z24z_l0, wb_z24z_0, c_z24z_k0, go_sem, eA]
        rw [hno (xflatb_false.1 hq)]
        exact doneG rfl
      | true =>
        simp (disch := first | omega | (simp only [avs_len, zz1, zz2, zz3, zz4, zz5, zz6]; omega) | (simp only [cells, scal1, allSz, zz1, zz3, zz2, zz6, zz7, zz8, avs_len, zz9, zz10, zz11, zz12, zz13, reduceCtorEq, *]; done) | fail) only [c_z24z, wl_z24z_0, s_z24z_0, c_z24z_l0, wb_z24z_0, c_z24z_k0, go_sem, eA, w1]
        have hih := ih (pre ++ [p]) (by rw [h1]; simp) (by intro x hx; rcases List.mem_append.1 hx with hx | hx; exact h2 x hx; rw [List.mem_singleton.1 hx]; exact xflatb_true.1 hq) (bump nx 6)
        rw [show (pre ++ [p]).length = pre.length + 1 by simp] at hih
        exact hih
theorem xshallow_calls : ∀ (d : Nat) (t : ET), d < 1000 → t.size < 2 ^ 60 → PCalls Try.prog F_z24z [xtv t, .int .i64 (d : Nat)] (.bool (xflatb d t)) := by
  intro d
  induction d with
  | zero =>
    intro t _ hs
    have hls := xlen_size t
    have h6 : xflatb 0 t = false := by rw [xflatb_false]; simp [xflatTo]
    refine calls_z24z (walk0 100 trivial (fun A eA => ?_))
    simp (disch := first | omega | (simp only [avs_len, zz1, zz2, zz3, zz4, zz5, zz6]; omega) | (simp only [cells, scal1, allSz, zz1, zz3, zz2, zz6, zz7, zz8, avs_len, zz9, zz10, zz11, zz12, zz13, reduceCtorEq, *]; done) | fail) only [c_z24z, wl_z24z_0, s_z24z_0, c_z24z_l0, wb_z24z_0, c_z24z_k0, go_sem, eA, scal1, xtavs_len]
    refine round (its := [.blk 0 wb_z24z_0]) (k0 := [.c c_z24z_k0]) 100 trivial trivial (fun A eA => ?_)
    by_cases h0 : t.ps = []
    · have h5 : t.ps.length = 0 := by rw [h0]; rfl
      simp (disch := first | omega | (simp only [avs_len, zz1, zz2, zz3, zz4, zz5, zz6]; omega) | (simp only [cells, scal1, allSz, zz1, zz3, zz2, zz6, zz7, zz8, avs_len, zz9, zz10, zz11, zz12, zz13, reduceCtorEq, *]; done) | fail) only [c_z24z, wl_z24z_0, s_z24z_0, c_z24z_l0, wb_z24z_0, c_z24z_k0, go_sem, eA]
      refine walk0 (its := [.c c_z24z_k0]) 100 trivial (fun A eA => ?_)
      simp (disch := first | omega | (simp only [avs_len, zz1, zz2, zz3, zz4, zz5, zz6]; omega) | (simp only [cells, scal1, allSz, zz1, zz3, zz2, zz6, zz7, zz8, avs_len, zz9, zz10, zz11, zz12, zz13, reduceCtorEq, *]; done) | fail) only [c_z24z, wl_z24z_0, s_z24z_0, c_z24z_l0, wb_z24z_0, c_z24z_k0, go_sem, eA, h6]
      exact doneG rfl
    · obtain ⟨p, ps, hp⟩ : ∃ p ps, t.ps = p :: ps := by cases h : t.ps with | nil => exact absurd h h0 | cons p ps => exact ⟨p, ps, rfl⟩
      have hlt : 0 < t.ps.length := by rw [hp]; simp
      have g0 : (xtavs t.ps)[0]? = some (xtv p) := by rw [xtavs_get, hp]; simp
      simp (disch := first | omega | (simp only [avs_len, zz1, zz2, zz3, zz4, zz5, zz6]; omega) | (simp only [cells, scal1, allSz, zz1, zz3, zz2, zz6, zz7, zz8, avs_len, zz9, zz10, zz11, zz12, zz13, reduceCtorEq, *]; done) | fail) only [c_z24z, wl_z24z_0, s_z24z_0, c_z24z_l0, wb_z24z_0, c_z24z_k0, go_sem, eA, zz16, g0, scal1, List.all_cons, List.all_nil, Bool.and_self, h6]
      exact doneG rfl
  | succ d ih =>
    intro t hd hs
    refine calls_z24z (walk0 100 trivial (fun A eA => ?_))
    simp (disch := first | omega | (simp only [avs_len, zz1, zz2, zz3, zz4, zz5, zz6]; omega) | (simp only [cells, scal1, allSz, zz1, zz3, zz2, zz6, zz7, zz8, avs_len, zz9, zz10, zz11, zz12, zz13, reduceCtorEq, *]; done) | fail) only [c_z24z, wl_z24z_0, s_z24z_0, c_z24z_l0, wb_z24z_0, c_z24z_k0, go_sem, eA, scal1, xtavs_len]
    exact xshallow_loop d (by omega) (fun t h => ih t (by omega) h) t hs t.ps [] rfl (by simp) zeroC
/-- The rows appended, frozen, are the list. -/
theorem xwk_tree {o : Int} {x : AV} {ps : List ET} (h : Wk1 x (.fz 2 (xtavs ps) none)) : Wk1 (.agg [.int .i64 o, x]) (xtv (.mk o ps)) := by
  refine Wk1.agg rfl (fun j a b ha hb => ?_)
  rcases j with _ | _ | j
  · simp at ha hb; subst ha hb; exact Wk1.refl _
  · simp at ha hb; subst ha hb; exact h
  · simp at ha
theorem xwk_leaf (o : Int) : Wk1 (.agg [.int .i64 o, .nils]) (xtv (.mk o [])) := xwk_tree (by simp only [xtavs]; exact Wk1.nils 2)
theorem xcat_len : ∀ ps : List ET, (catCells (xtavs ps)).length = ps.length * 2
  | [] => by simp [xtavs, catCells]
  | p :: ps => by simp only [xtavs, catCells, xtav_tv, cells, List.length_append, xcat_len ps, List.length_cons, List.length_nil]; omega
theorem xcat_snoc : ∀ (ps : List ET) (p : ET), catCells (xtavs (ps ++ [p])) = catCells (xtavs ps) ++ [.int .i64 p.n, .fz 2 (xtavs p.ps) none]
  | [], p => by simp [xtavs, catCells, xtav_tv, cells]
  | q :: ps, p => by simp only [List.cons_append, xtavs, catCells, xcat_snoc ps p, List.append_assoc]
theorem xfrz_cat {α : Type} (n : Nat) (H : Heap) : ∀ (ps : List ET) (ok : List AV → List (Nat × Nat) → α) (bd : α), mapK (frzK (n + 1) H) (catCells (xtavs ps)) ok bd = ok (catCells (xtavs ps)) []
  | [], ok, bd => by simp [xtavs, catCells, mapK]
  | p :: ps, ok, bd => by simp only [xtavs, catCells, xtav_tv, cells, List.cons_append, List.nil_append, mapK, frzK_int, frzK_fz, xfrz_cat n H ps, List.append_nil]
theorem xchunk_cat : ∀ (ps : List ET), chunk 2 ps.length (catCells (xtavs ps)) = xtavs ps := by
  intro ps
  show chunkN 2 _ _ = _
  induction ps with
  | nil => rfl
  | cons p ps ih => simp only [xtavs, catCells, xtav_tv, cells, List.length_cons, chunkN, List.cons_append, List.nil_append, List.take, List.drop, ih]
theorem xcat_take (ps : List ET) : (catCells (xtavs ps)).take (ps.length * 2) = catCells (xtavs ps) := by rw [← xcat_len, List.take_length]
theorem xwk_two (n : Int) (l r : ET) : Wk1 (.agg [.int .i64 n, .fz 2 [xtv l, xtv r] (some 2)]) (xtv (.mk n [l, r])) := xwk_tree (by simp only [xtavs, xtav_tv]; exact Wk1.cap 2 _ _)
theorem xrtb_no {t : ET} (h : ¬ XRt t) : xrtb t = false := by rw [Bool.eq_false_iff, ne_eq, xrtb_true]; exact h
end Go.Proofs.Ytmokhopjnjecbac
/- The walk through the events' functions, on. -/
-- short
namespace Go.Proofs.Ytmokhopjnjecbac
open Go.Ev
set_option linter.unusedVariables false
set_option linter.unusedSimpArgs false
set_option maxRecDepth 100000
variable {R : List AV → Heap → Ctr → Prop} {k : List It} {H : Heap} {nx : Ctr} {φ : Nat}

abbrev xcloneH (o : Int) (e : Option Nat) (pre : List ET) : Heap := (0, 2, 0, some [.int .i64 0, .nils]) :: (0, 3, 0, some [.int .i64 o, accV 0 21 2 e pre.length]) :: accE 0 21 e (catCells (xtavs pre))
theorem xclone_loop (a : ET) (hs : a.size < 2 ^ 32) (ihd : ∀ p ∈ a.ps, PCalls Try.prog F_z27z [xtv p] (xtv p)) : ∀ (post pre : List ET), a.ps = pre ++ post → ∀ (e : Option Nat) (nx : Ctr), (e = none → pre = []) →
    RunsX Try.prog 0 (Gives [.cn 2 2] (xtv a)) (i_z27z_0 ++ [.c c_z27z_k0]) (s_z27z_0 (.ptr 0 2 0 0) (.ptr 0 3 0 0) (.fz 2 (xtavs a.ps) none) (.int .i64 (a.ps.length : Nat)) (.int .i64 (pre.length : Nat))) (xcloneH a.n e pre) nx := by
  have hls := xlen_size a
  intro post
  induction post with
  | nil =>
    intro pre h1 e nx he
    rw [List.append_nil] at h1
    have h5 : a.ps.length = pre.length := by rw [h1]
    refine round (its := [.blk 0 wb_z27z_0]) (k0 := [.c c_z27z_k0]) 100 trivial trivial (fun A eA => ?_)
    cases e with
    | none =>
      have hp := he rfl
      simp (disch := first | omega | (simp only [avs_len, zz1, zz2, zz3, zz4, zz5, zz6]; omega) | (simp only [cells, scal1, allSz, zz1, zz3, zz2, zz6, zz7, zz8, avs_len, zz9, zz10, zz11, zz12, zz13, reduceCtorEq, *]; done) | fail) only [c_z27z, wl_z27z_0, s_z27z_0, c_z27z_l0, wb_z27z_0, c_z27z_k0, go_sem, eA, xcloneH, accV, accE]
      refine walk0 (its := [.c c_z27z_k0]) 100 trivial (fun A eA => ?_)
      simp (disch := first | omega | (simp only [avs_len, zz1, zz2, zz3, zz4, zz5, zz6]; omega) | (simp only [cells, scal1, allSz, zz1, zz3, zz2, zz6, zz7, zz8, avs_len, zz9, zz10, zz11, zz12, zz13, reduceCtorEq, *]; done) | fail) only [c_z27z, wl_z27z_0, s_z27z_0, c_z27z_l0, wb_z27z_0, c_z27z_k0, go_sem, eA, scal1, List.all_cons, List.all_nil, Bool.and_self]
      refine doneW rfl ?_
      have := xwk_leaf a.n
      show Wk1 _ (.agg [.int .i64 a.n, .fz 2 (xtavs a.ps) none])
      rw [h1, hp]; exact this
    | some g =>
      simp (disch := first | omega | (simp only [avs_len, zz1, zz2, zz3, zz4, zz5, zz6]; omega) | (simp only [cells, scal1, allSz, zz1, zz3, zz2, zz6, zz7, zz8, avs_len, zz9, zz10, zz11, zz12, zz13, reduceCtorEq, *]; done) | fail) only [c_z27z, wl_z27z_0, s_z27z_0, c_z27z_l0, wb_z27z_0, c_z27z_k0, go_sem, eA, xcloneH, accV, accE]
      refine walk0 (its := [.c c_z27z_k0]) 100 trivial (fun A eA => ?_)
      simp (disch := first | omega | (simp only [avs_len, zz1, zz2, zz3, zz4, zz5, zz6]; omega) | (simp only [cells, scal1, allSz, zz1, zz3, zz2, zz6, zz7, zz8, avs_len, zz9, zz10, zz11, zz12, zz13, reduceCtorEq, *]; done) | fail) only [c_z27z, wl_z27z_0, s_z27z_0, c_z27z_l0, wb_z27z_0, c_z27z_k0, go_sem, eA, scal1, List.all_cons, List.all_nil, Bool.and_self]
      refine doneG ?_
      simp (disch := first | omega | (simp only [avs_len, zz1, zz2, zz3, zz4, zz5, zz6]; omega) | (simp only [cells, scal1, allSz, zz1, zz3, zz2, zz6, zz7, zz8, avs_len, zz9, zz10, zz11, zz12, zz13, reduceCtorEq, *]; done) | fail) only [go_sem, xcat_len, xcat_take, ↓xfrz_cat, xchunk_cat]
      show _ = some (AV.agg [.int .i64 a.n, .fz 2 (xtavs a.ps) none])
      rw [h1]
  | cons p post ih =>
    intro pre h1 e nx he
    have hlt : pre.length < a.ps.length := by rw [h1]; simp
    have hpm : p ∈ a.ps := by rw [h1]; simp
    have hpz := xsize_lt hpm
    have g0 : (xtavs a.ps)[pre.length]? = some (xtv p) := by rw [xtavs_get, h1]; simp
    have w1 : IntKind.i64.wrap ((pre.length : Int) + 1) = ((pre.length + 1 : Nat) : Int) := by rw [IntKind.wrap_i64]; omega
    refine round (its := [.blk 0 wb_z27z_0]) (k0 := [.c c_z27z_k0]) 100 trivial trivial (fun A eA => ?_)
    cases e with
    | none =>
      have hp := he rfl
      simp (disch := first | omega | (simp only [avs_len, zz1, zz2, zz3, zz4, zz5, zz6]; omega) | (simp only [cells, scal1, allSz, zz1, zz3, zz2, zz6, zz7, zz8, avs_len, zz9, zz10, zz11, zz12, zz13, reduceCtorEq, *]; done) | fail) only [c_z27z, wl_z27z_0, s_z27z_0, c_z27z_l0, wb_z27z_0, c_z27z_k0, go_sem, eA, zz16, g0, scal1, List.all_cons, List.all_nil, Bool.and_self, xcloneH, accV, accE]
      refine call0 100 trivial trivial (ihd p hpm) (.inl rfl) (fun A eA => ?_)
      simp (disch := first | omega | (simp only [avs_len, zz1, zz2, zz3, zz4, zz5, zz6]; omega) | (simp only [cells, scal1, allSz, zz1, zz3, zz2, zz6, zz7, zz8, avs_len, zz9, zz10, zz11, zz12, zz13, reduceCtorEq, *]; done) | fail) only [c_z27z, wl_z27z_0, s_z27z_0, c_z27z_l0, wb_z27z_0, c_z27z_k0, go_sem, eA, w1, ↓appK, allSz, catCells, cells, scal1, List.all_cons, List.all_nil, Bool.and_self, beq_self_eq_true]
      have hih := ih (pre ++ [p]) (by rw [h1]; simp) (some (nx 21)) (bump (bump nx 5) 21) (by simp)
      simp only [xcloneH, List.length_append, List.length_cons, List.length_nil, Nat.zero_add, xcat_snoc] at hih
      subst hp
      exact hih
    | some g =>
      simp (disch := first | omega | (simp only [avs_len, zz1, zz2, zz3, zz4, zz5, zz6]; omega) | (simp only [cells, scal1, allSz, zz1, zz3, zz2, zz6, zz7, zz8, avs_len, zz9, zz10, zz11, zz12, zz13, reduceCtorEq, *]; done) | fail) only [c_z27z, wl_z27z_0, s_z27z_0, c_z27z_l0, wb_z27z_0, c_z27z_k0, go_sem, eA, zz16, g0, scal1, List.all_cons, List.all_nil, Bool.and_self, xcloneH, accV, accE]
      refine call0 100 trivial trivial (ihd p hpm) (.inl rfl) (fun A eA => ?_)
      simp (disch := first | omega | (simp only [avs_len, zz1, zz2, zz3, zz4, zz5, zz6]; omega) | (simp only [cells, scal1, allSz, zz1, zz3, zz2, zz6, zz7, zz8, avs_len, zz9, zz10, zz11, zz12, zz13, reduceCtorEq, *]; done) | fail) only [c_z27z, wl_z27z_0, s_z27z_0, c_z27z_l0, wb_z27z_0, c_z27z_k0, go_sem, eA, w1, ↓appK, allSz, catCells, cells, xcat_len, scal1, List.all_cons, List.all_nil, Bool.and_self, beq_self_eq_true]
      have hih := ih (pre ++ [p]) (by rw [h1]; simp) (some (nx 21)) (bump (bump nx 5) 21) (by simp)
      simp only [xcloneH, List.length_append, List.length_cons, List.length_nil, Nat.zero_add, xcat_snoc] at hih
      exact hih
theorem xclone_calls : ∀ (t : ET), t.size < 2 ^ 32 → PCalls Try.prog F_z27z [xtv t] (xtv t) := by
  intro t
  induction t using ET.ind with
  | h t ih =>
    intro hs
    refine calls_z27z (walk0 100 trivial (fun A eA => ?_))
    simp (disch := first | omega | (simp only [avs_len, zz1, zz2, zz3, zz4, zz5, zz6]; omega) | (simp only [cells, scal1, allSz, zz1, zz3, zz2, zz6, zz7, zz8, avs_len, zz9, zz10, zz11, zz12, zz13, reduceCtorEq, *]; done) | fail) only [c_z27z, wl_z27z_0, s_z27z_0, c_z27z_l0, wb_z27z_0, c_z27z_k0, go_sem, eA, scal1, xtavs_len, List.all_cons, List.all_nil, Bool.and_self]
    exact xclone_loop t hs (fun p hp => ih p hp (by have := xsize_lt hp; omega)) t.ps [] rfl none _ (fun _ => rfl)
noncomputable def xcloneT (t : ET) : ET := if xflatb 8 t then t else .mk 0 []
theorem xClone_calls (t : ET) (hs : t.size < 2 ^ 32) : PCalls Try.prog F_event_Clone [xtv t] (xtv (xcloneT t)) := by
  refine calls_event_Clone (walk0 100 trivial (fun A eA => ?_))
  simp (disch := first | omega | (simp only [avs_len, zz1, zz2, zz3, zz4, zz5, zz6]; omega) | (simp only [cells, scal1, allSz, zz1, zz3, zz2, zz6, zz7, zz8, avs_len, zz9, zz10, zz11, zz12, zz13, reduceCtorEq, *]; done) | fail) only [c_event_Clone, go_sem, eA, scal1, xtavs_len]
  refine call0 100 trivial trivial (xshallow_calls 8 t (by omega) (by omega)) (.inl rfl) (fun A eA => ?_)
  cases hq : xflatb 8 t with
  | false =>
    simp (disch := first | omega | (simp only [avs_len, zz1, zz2, zz3, zz4, zz5, zz6]; omega) | (simp only [cells, scal1, allSz, zz1, zz3, zz2, zz6, zz7, zz8, avs_len, zz9, zz10, zz11, zz12, zz13, reduceCtorEq, *]; done) | fail) only [c_event_Clone, go_sem, eA, scal1, List.all_cons, List.all_nil, Bool.and_self]
    rw [show xcloneT t = .mk 0 [] by simp [xcloneT, hq]]
    exact doneW rfl (xwk_leaf 0)
  | true =>
    simp (disch := first | omega | (simp only [avs_len, zz1, zz2, zz3, zz4, zz5, zz6]; omega) | (simp only [cells, scal1, allSz, zz1, zz3, zz2, zz6, zz7, zz8, avs_len, zz9, zz10, zz11, zz12, zz13, reduceCtorEq, *]; done) | fail) only [c_event_Clone, go_sem, eA, scal1, List.all_cons, List.all_nil, Bool.and_self]
    refine call0 100 trivial trivial (xclone_calls t hs) (.inl rfl) (fun A eA => ?_)
    simp (disch := first | omega | (simp only [avs_len, zz1, zz2, zz3, zz4, zz5, zz6]; omega) | (simp only [cells, scal1, allSz, zz1, zz3, zz2, zz6, zz7, zz8, avs_len, zz9, zz10, zz11, zz12, zz13, reduceCtorEq, *]; done) | fail) only [c_event_Clone, go_sem, eA, scal1, List.all_cons, List.all_nil, Bool.and_self]
    rw [show xcloneT t = t by simp [xcloneT, hq]]
    exact doneG rfl
theorem xdeep_loop (d : Nat) (hd : d < 1000) (ihd : ∀ t : ET, t.size < 2 ^ 60 → PCalls Try.prog F_z32z [xtv t, .int .i64 (d : Nat)] (.int .i64 (xdeep d t : Nat))) (a : ET) (hs : a.size < 2 ^ 60) : ∀ (post pre : List ET), a.ps = pre ++ post → ∀ (n : Nat) (nx : Ctr), n ≤ 2000 →
    RunsX Try.prog 0 (Gives [.t 4] (.int .i64 ((xdeepL (xdeep d) n post + 1 : Nat) : Int))) (i_z32z_0 ++ [.c c_z32z_k0]) (s_z32z_0 (.int .i64 ((d + 1 : Nat) : Int)) (.ro [.int .i64 a.n, .fz 2 (xtavs a.ps) none]) (.int .i64 (n : Nat)) (.int .i64 (a.ps.length : Nat)) (.int .i64 (pre.length : Nat))) [] nx := by
  have hls := xlen_size a
  intro post
  induction post with
  | nil =>
    intro pre h1 n nx hn
    have h5 : a.ps.length = pre.length := by rw [h1]; simp
    have w1 : IntKind.i64.wrap ((n : Int) + 1) = ((n + 1 : Nat) : Int) := by rw [IntKind.wrap_i64]; omega
    refine round (its := [.blk 0 wb_z32z_0]) (k0 := [.c c_z32z_k0]) 100 trivial trivial (fun A eA => ?_)
    simp (disch := first | omega | (simp only [avs_len, zz1, zz2, zz3, zz4, zz5, zz6]; omega) | (simp only [cells, scal1, allSz, zz1, zz3, zz2, zz6, zz7, zz8, avs_len, zz9, zz10, zz11, zz12, zz13, reduceCtorEq, *]; done) | fail) only [c_z32z, wl_z32z_0, s_z32z_0, c_z32z_l0, wb_z32z_0, c_z32z_k0, go_sem, eA]
    refine walk0 (its := [.c c_z32z_k0]) 100 trivial (fun A eA => ?_)
    simp (disch := first | omega | (simp only [avs_len, zz1, zz2, zz3, zz4, zz5, zz6]; omega) | (simp only [cells, scal1, allSz, zz1, zz3, zz2, zz6, zz7, zz8, avs_len, zz9, zz10, zz11, zz12, zz13, reduceCtorEq, *]; done) | fail) only [c_z32z, wl_z32z_0, s_z32z_0, c_z32z_l0, wb_z32z_0, c_z32z_k0, go_sem, eA, w1]
    exact doneG rfl
  | cons p post ih =>
    intro pre h1 n nx hn
    have hlt : pre.length < a.ps.length := by rw [h1]; simp
    have hpm : p ∈ a.ps := by rw [h1]; simp
    have hpz := xsize_lt hpm
    have g0 : (xtavs a.ps)[pre.length]? = some (xtv p) := by rw [xtavs_get, h1]; simp
    have w1 : IntKind.i64.wrap ((pre.length : Int) + 1) = ((pre.length + 1 : Nat) : Int) := by rw [IntKind.wrap_i64]; omega
    have w2 : IntKind.i64.wrap (((d + 1 : Nat) : Int) - 1) = ((d : Nat) : Int) := by rw [IntKind.wrap_i64]; omega
    have hm := xdeep_max d p
    have w3 : (if ((xdeep d p : Nat) : Int) > (n : Int) then ((xdeep d p : Nat) : Int) else (n : Int)) = ((max n (xdeep d p) : Nat) : Int) := by split <;> omega
    refine round (its := [.blk 0 wb_z32z_0]) (k0 := [.c c_z32z_k0]) 100 trivial trivial (fun A eA => ?_)
    simp (disch := first | omega | (simp only [avs_len, zz1, zz2, zz3, zz4, zz5, zz6]; omega) | (simp only [cells, scal1, allSz, zz1, zz3, zz2, zz6, zz7, zz8, avs_len, zz9, zz10, zz11, zz12, zz13, reduceCtorEq, *]; done) | fail) only [c_z32z, wl_z32z_0, s_z32z_0, c_z32z_l0, wb_z32z_0, c_z32z_k0, go_sem, eA, zz16, g0, w2, scal1, List.all_cons, List.all_nil, Bool.and_self]
    refine call0 100 trivial trivial (ihd p (by omega)) (.inl rfl) (fun A eA => ?_)
    simp (disch := first | omega | (simp only [avs_len, zz1, zz2, zz3, zz4, zz5, zz6]; omega) | (simp only [cells, scal1, allSz, zz1, zz3, zz2, zz6, zz7, zz8, avs_len, zz9, zz10, zz11, zz12, zz13, reduceCtorEq, *]; done) | fail) only [c_z32z, wl_z32z_0, s_z32z_0, c_z32z_l0, wb_z32z_0, c_z32z_k0, go_sem, eA, w1, w3]
    simp only [xdeepL]
    have hih := ih (pre ++ [p]) (by rw [h1]; simp) (max n (xdeep d p)) nx (by omega)
    rw [show (pre ++ [p]).length = pre.length + 1 by simp] at hih
    exact hih
theorem xdeep_calls : ∀ (d : Nat) (t : ET), d < 1000 → t.size < 2 ^ 60 → PCalls Try.prog F_z32z [xtv t, .int .i64 (d : Nat)] (.int .i64 (xdeep d t : Nat)) := by
  intro d
  induction d with
  | zero =>
    intro t _ _
    refine calls_z32z (walk0 100 trivial (fun A eA => ?_))
    simp (disch := first | omega | (simp only [avs_len, zz1, zz2, zz3, zz4, zz5, zz6]; omega) | (simp only [cells, scal1, allSz, zz1, zz3, zz2, zz6, zz7, zz8, avs_len, zz9, zz10, zz11, zz12, zz13, reduceCtorEq, *]; done) | fail) only [c_z32z, wl_z32z_0, s_z32z_0, c_z32z_l0, wb_z32z_0, c_z32z_k0, go_sem, eA, scal1, xtavs_len]
    exact doneG rfl
  | succ d ih =>
    intro t hd hs
    refine calls_z32z (walk0 100 trivial (fun A eA => ?_))
    simp (disch := first | omega | (simp only [avs_len, zz1, zz2, zz3, zz4, zz5, zz6]; omega) | (simp only [cells, scal1, allSz, zz1, zz3, zz2, zz6, zz7, zz8, avs_len, zz9, zz10, zz11, zz12, zz13, reduceCtorEq, *]; done) | fail) only [c_z32z, wl_z32z_0, s_z32z_0, c_z32z_l0, wb_z32z_0, c_z32z_k0, go_sem, eA, scal1, xtavs_len]
    exact xdeep_loop d (by omega) (fun t h => ih t (by omega) h) t hs t.ps [] rfl 0 zeroC (by omega)
theorem xlcount_loop (d : Nat) (hd : d < 1000) (ihd : ∀ t : ET, PCalls Try.prog F_z29z [xtv t, .int .i64 (d : Nat)] (.int .i64 (xlcnt d t : Nat))) (a : ET) : ∀ (post pre : List ET), a.ps = pre ++ post → ∀ (n : Nat) (nx : Ctr), n ≤ 1000 → pre.length ≤ n →
    RunsX Try.prog 0 (Gives [.t 4] (.int .i64 (xlcntL (xlcnt d) n post : Nat))) (i_z29z_0 ++ [.c c_z29z_k0]) (s_z29z_0 (.int .i64 ((d + 1 : Nat) : Int)) (.ro [.int .i64 a.n, .fz 2 (xtavs a.ps) none]) (.int .i64 (n : Nat)) (.int .i64 (a.ps.length : Nat)) (.int .i64 (pre.length : Nat))) [] nx := by
  intro post
  induction post with
  | nil =>
    intro pre h1 n nx hn hpn
    have h5 : a.ps.length = pre.length := by rw [h1]; simp
    refine round (its := [.blk 0 wb_z29z_0]) (k0 := [.c c_z29z_k0]) 100 trivial trivial (fun A eA => ?_)
    simp (disch := first | omega | (simp only [avs_len, zz1, zz2, zz3, zz4, zz5, zz6]; omega) | (simp only [cells, scal1, allSz, zz1, zz3, zz2, zz6, zz7, zz8, avs_len, zz9, zz10, zz11, zz12, zz13, reduceCtorEq, *]; done) | fail) only [c_z29z, wl_z29z_0, s_z29z_0, c_z29z_l0, wb_z29z_0, c_z29z_k0, go_sem, eA]
    refine walk0 (its := [.c c_z29z_k0]) 100 trivial (fun A eA => ?_)
    simp (disch := first | omega | (simp only [avs_len, zz1, zz2, zz3, zz4, zz5, zz6]; omega) | (simp only [cells, scal1, allSz, zz1, zz3, zz2, zz6, zz7, zz8, avs_len, zz9, zz10, zz11, zz12, zz13, reduceCtorEq, *]; done) | fail) only [c_z29z, wl_z29z_0, s_z29z_0, c_z29z_l0, wb_z29z_0, c_z29z_k0, go_sem, eA]
    exact doneG rfl
  | cons p post ih =>
    intro pre h1 n nx hn hpn
    have hlt : pre.length < a.ps.length := by rw [h1]; simp
    have hpm : p ∈ a.ps := by rw [h1]; simp
    have g0 : (xtavs a.ps)[pre.length]? = some (xtv p) := by rw [xtavs_get, h1]; simp
    have w1 : IntKind.i64.wrap ((pre.length : Int) + 1) = ((pre.length + 1 : Nat) : Int) := by rw [IntKind.wrap_i64]; omega
    have w2 : IntKind.i64.wrap (((d + 1 : Nat) : Int) - 1) = ((d : Nat) : Int) := by rw [IntKind.wrap_i64]; omega
    have hm := xlcnt_le d p
    have hm1 := xlcnt_pos d p
    have w3 : IntKind.i64.wrap ((n : Int) + (xlcnt d p : Nat)) = ((n + xlcnt d p : Nat) : Int) := by rw [IntKind.wrap_i64]; omega
    refine round (its := [.blk 0 wb_z29z_0]) (k0 := [.c c_z29z_k0]) 100 trivial trivial (fun A eA => ?_)
    simp (disch := first | omega | (simp only [avs_len, zz1, zz2, zz3, zz4, zz5, zz6]; omega) | (simp only [cells, scal1, allSz, zz1, zz3, zz2, zz6, zz7, zz8, avs_len, zz9, zz10, zz11, zz12, zz13, reduceCtorEq, *]; done) | fail) only [c_z29z, wl_z29z_0, s_z29z_0, c_z29z_l0, wb_z29z_0, c_z29z_k0, go_sem, eA, zz16, g0, w2, scal1, List.all_cons, List.all_nil, Bool.and_self]
    refine call0 100 trivial trivial (ihd p) (.inl rfl) (fun A eA => ?_)
    by_cases hq : 1000 < n + xlcnt d p
    · simp only [xlcntL, if_pos hq]
      simp (disch := first | omega | (simp only [avs_len, zz1, zz2, zz3, zz4, zz5, zz6]; omega) | (simp only [cells, scal1, allSz, zz1, zz3, zz2, zz6, zz7, zz8, avs_len, zz9, zz10, zz11, zz12, zz13, reduceCtorEq, *]; done) | fail) only [c_z29z, wl_z29z_0, s_z29z_0, c_z29z_l0, wb_z29z_0, c_z29z_k0, go_sem, eA, w3]
      exact doneG rfl
    · simp only [xlcntL, if_neg hq]
      simp (disch := first | omega | (simp only [avs_len, zz1, zz2, zz3, zz4, zz5, zz6]; omega) | (simp only [cells, scal1, allSz, zz1, zz3, zz2, zz6, zz7, zz8, avs_len, zz9, zz10, zz11, zz12, zz13, reduceCtorEq, *]; done) | fail) only [c_z29z, wl_z29z_0, s_z29z_0, c_z29z_l0, wb_z29z_0, c_z29z_k0, go_sem, eA, w1, w3]
      have hih := ih (pre ++ [p]) (by rw [h1]; simp) (n + xlcnt d p) nx (by omega) (by simp; omega)
      rw [show (pre ++ [p]).length = pre.length + 1 by simp] at hih
      exact hih
theorem xlcount_calls : ∀ (d : Nat) (t : ET), d < 1000 → PCalls Try.prog F_z29z [xtv t, .int .i64 (d : Nat)] (.int .i64 (xlcnt d t : Nat)) := by
  intro d
  induction d with
  | zero =>
    intro t _
    refine calls_z29z (walk0 100 trivial (fun A eA => ?_))
    simp (disch := first | omega | (simp only [avs_len, zz1, zz2, zz3, zz4, zz5, zz6]; omega) | (simp only [cells, scal1, allSz, zz1, zz3, zz2, zz6, zz7, zz8, avs_len, zz9, zz10, zz11, zz12, zz13, reduceCtorEq, *]; done) | fail) only [c_z29z, wl_z29z_0, s_z29z_0, c_z29z_l0, wb_z29z_0, c_z29z_k0, go_sem, eA, scal1, xtavs_len]
    exact doneG rfl
  | succ d ih =>
    intro t hd
    refine calls_z29z (walk0 100 trivial (fun A eA => ?_))
    simp (disch := first | omega | (simp only [avs_len, zz1, zz2, zz3, zz4, zz5, zz6]; omega) | (simp only [cells, scal1, allSz, zz1, zz3, zz2, zz6, zz7, zz8, avs_len, zz9, zz10, zz11, zz12, zz13, reduceCtorEq, *]; done) | fail) only [c_z29z, wl_z29z_0, s_z29z_0, c_z29z_l0, wb_z29z_0, c_z29z_k0, go_sem, eA, scal1, xtavs_len]
    exact xlcount_loop d (by omega) (fun t => ih t (by omega)) t t.ps [] rfl 1 zeroC (by omega) (by simp)
theorem xFew_calls (t : ET) : PCalls Try.prog F_law05_Few [xtv t, .int .i64 30] (.bool (decide (xlcnt 30 t ≤ 1000))) := by
  refine calls_law05_Few (walk0 100 trivial (fun A eA => ?_))
  simp (disch := first | omega | (simp only [avs_len, zz1, zz2, zz3, zz4, zz5, zz6]; omega) | (simp only [cells, scal1, allSz, zz1, zz3, zz2, zz6, zz7, zz8, avs_len, zz9, zz10, zz11, zz12, zz13, reduceCtorEq, *]; done) | fail) only [c_law05_Few, go_sem, eA, scal1, xtavs_len]
  refine call0 100 trivial trivial (xlcount_calls 30 t (by omega)) (.inl rfl) (fun A eA => ?_)
  simp (disch := first | omega | (simp only [avs_len, zz1, zz2, zz3, zz4, zz5, zz6]; omega) | (simp only [cells, scal1, allSz, zz1, zz3, zz2, zz6, zz7, zz8, avs_len, zz9, zz10, zz11, zz12, zz13, reduceCtorEq, *]; done) | fail) only [c_law05_Few, go_sem, eA]
  by_cases h : xlcnt 30 t ≤ 1000
  · simp (disch := first | omega | (simp only [avs_len, zz1, zz2, zz3, zz4, zz5, zz6]; omega) | (simp only [cells, scal1, allSz, zz1, zz3, zz2, zz6, zz7, zz8, avs_len, zz9, zz10, zz11, zz12, zz13, reduceCtorEq, *]; done) | fail) only [go_sem]
    exact doneG rfl
  · simp (disch := first | omega | (simp only [avs_len, zz1, zz2, zz3, zz4, zz5, zz6]; omega) | (simp only [cells, scal1, allSz, zz1, zz3, zz2, zz6, zz7, zz8, avs_len, zz9, zz10, zz11, zz12, zz13, reduceCtorEq, *]; done) | fail) only [go_sem]
    exact doneG rfl
end Go.Proofs.Ytmokhopjnjecbac
/- The walk through the reference's functions on events. -/
-- short
namespace Go.Proofs.Ytmokhopjnjecbac
open Go.Ev
set_option linter.unusedVariables false
set_option linter.unusedSimpArgs false
set_option maxRecDepth 100000
variable {R : List AV → Heap → Ctr → Prop} {k : List It} {H : Heap} {nx : Ctr} {φ : Nat}

def xlf (l r : ET) : Bool := decide (l.ps.length = 0) && decide (r.ps.length = 0) && decide (l.n = r.n)
def xz (l r : ET) : Bool := decide (l.n = 0) || decide (r.n = 0)
set_option maxHeartbeats 4000000 in
theorem refEcount_nd {t l r : ET} {n1 n2 : Nat} {x y : Bool} (hlr : t.ps = [l, r]) (hn : 0 ≤ t.n ∧ t.n ≤ 1099511627776) (c1 : PCalls Try.prog F_ref04_ecount [xtv l] (.tup [.int .i64 (n1 : Nat), .bool x])) (c2 : PCalls Try.prog F_ref04_ecount [xtv r] (.tup [.int .i64 (n2 : Nat), .bool y])) (b1 : n1 ≤ 1000) (b2 : n2 ≤ 1000) : PCalls Try.prog F_ref04_ecount [xtv t] (.tup [.int .i64 ((min (n1 + n2 + 1) 1000 : Nat) : Int), .bool (x && y && !xlf l r && xz l r)]) := by
  have g0 : (xtavs [l, r])[0]? = some (xtv l) := by rw [xtavs_get]; rfl
  have g1 : (xtavs [l, r])[1]? = some (xtv r) := by rw [xtavs_get]; rfl
  have w1 : IntKind.i64.wrap ((n1 : Int) + (n2 : Nat)) = ((n1 + n2 : Nat) : Int) := by rw [IntKind.wrap_i64]; omega
  have w2 : IntKind.i64.wrap (((n1 + n2 : Nat) : Int) + 1) = ((n1 + n2 + 1 : Nat) : Int) := by rw [IntKind.wrap_i64]; omega
  have w3 : (if (1000 : Int) < ((n1 + n2 + 1 : Nat) : Int) then (1000 : Int) else ((n1 + n2 + 1 : Nat) : Int)) = ((min (n1 + n2 + 1) 1000 : Nat) : Int) := by split <;> omega
  refine calls_ref04_ecount (walk0 100 trivial (fun A eA => ?_))
  simp (disch := first | omega | (simp only [avs_len, zz1, zz2, zz3, zz4, zz5, zz6]; omega) | (simp only [cells, scal1, allSz, zz1, zz3, zz2, zz6, zz7, zz8, avs_len, zz9, zz10, zz11, zz12, zz13, reduceCtorEq, *]; done) | fail) only [c_ref04_ecount, go_sem, eA, scal1, xtavs_len, hlr, g0, g1, List.all_cons, List.all_nil, Bool.and_self]
  refine call0 100 trivial trivial c1 (.inl rfl) (fun A eA => ?_)
  simp (disch := first | omega | (simp only [avs_len, zz1, zz2, zz3, zz4, zz5, zz6]; omega) | (simp only [cells, scal1, allSz, zz1, zz3, zz2, zz6, zz7, zz8, avs_len, zz9, zz10, zz11, zz12, zz13, reduceCtorEq, *]; done) | fail) only [c_ref04_ecount, go_sem, eA, hlr, g0, g1, List.all_cons, List.all_nil, Bool.and_self, scal1]
  refine call0 100 trivial trivial c2 (.inl rfl) (fun A eA => ?_)
  have kk : (l.ps.length = 0 ∧ r.ps.length = 0 ∧ l.n = r.n) ∨ (l.ps.length = 0 ∧ r.ps.length = 0 ∧ ¬ l.n = r.n) ∨ (l.ps.length = 0 ∧ ¬ r.ps.length = 0) ∨ ¬ l.ps.length = 0 := by omega
  have zz : l.n = 0 ∨ (¬ l.n = 0 ∧ r.n = 0) ∨ (¬ l.n = 0 ∧ ¬ r.n = 0) := by omega
  cases x <;> cases y
  case true.true =>
    rcases kk with ⟨a1, a2, a3⟩ | ⟨a1, a2, a3⟩ | ⟨a1, a2⟩ | a1
    · have e : xlf l r = true := by simp only [xlf, a1, a2, a3, decide_true, Bool.and_self]
      rw [e]
      simp (disch := first | omega | (simp only [avs_len, zz1, zz2, zz3, zz4, zz5, zz6]; omega) | (simp only [cells, scal1, allSz, zz1, zz3, zz2, zz6, zz7, zz8, avs_len, zz9, zz10, zz11, zz12, zz13, reduceCtorEq, *]; done) | fail) only [c_ref04_ecount, go_sem, eA, hlr, g0, g1, List.all_cons, List.all_nil, Bool.and_self, scal1, xtavs_len, w1, w2, w3, Bool.and_false, Bool.false_and, Bool.true_or]
      refine doneG ?_
      simp (disch := first | omega | (simp only [avs_len, zz1, zz2, zz3, zz4, zz5, zz6]; omega) | (simp only [cells, scal1, allSz, zz1, zz3, zz2, zz6, zz7, zz8, avs_len, zz9, zz10, zz11, zz12, zz13, reduceCtorEq, *]; done) | fail) only [go_sem, w3, Bool.and_self, Bool.and_false, Bool.false_and]
    all_goals
      have e : xlf l r = false := by simp only [xlf, a1, decide_true, decide_false, Bool.false_and, Bool.true_and, Bool.and_eq_false_iff, decide_eq_false_iff_not]; first | done | exact .inl a2 | exact .inr a3
      rw [e]
      rcases zz with z1 | ⟨z1, z2⟩ | ⟨z1, z2⟩
      · have e2 : xz l r = true := by simp only [xz, z1, decide_true, Bool.true_or]
        rw [e2]
        simp (disch := first | omega | (simp only [avs_len, zz1, zz2, zz3, zz4, zz5, zz6]; omega) | (simp only [cells, scal1, allSz, zz1, zz3, zz2, zz6, zz7, zz8, avs_len, zz9, zz10, zz11, zz12, zz13, reduceCtorEq, *]; done) | fail) only [c_ref04_ecount, go_sem, eA, hlr, g0, g1, List.all_cons, List.all_nil, Bool.and_self, scal1, xtavs_len, w1, w2, w3, Bool.and_false, Bool.false_and, Bool.true_or]
        refine doneG ?_
        simp (disch := first | omega | (simp only [avs_len, zz1, zz2, zz3, zz4, zz5, zz6]; omega) | (simp only [cells, scal1, allSz, zz1, zz3, zz2, zz6, zz7, zz8, avs_len, zz9, zz10, zz11, zz12, zz13, reduceCtorEq, *]; done) | fail) only [go_sem, w3, Bool.and_self]
      · have e2 : xz l r = true := by simp only [xz, z2, decide_true, Bool.or_true]
        rw [e2]
        simp (disch := first | omega | (simp only [avs_len, zz1, zz2, zz3, zz4, zz5, zz6]; omega) | (simp only [cells, scal1, allSz, zz1, zz3, zz2, zz6, zz7, zz8, avs_len, zz9, zz10, zz11, zz12, zz13, reduceCtorEq, *]; done) | fail) only [c_ref04_ecount, go_sem, eA, hlr, g0, g1, List.all_cons, List.all_nil, Bool.and_self, scal1, xtavs_len, w1, w2, w3, Bool.and_false, Bool.false_and, Bool.true_or]
        refine doneG ?_
        simp (disch := first | omega | (simp only [avs_len, zz1, zz2, zz3, zz4, zz5, zz6]; omega) | (simp only [cells, scal1, allSz, zz1, zz3, zz2, zz6, zz7, zz8, avs_len, zz9, zz10, zz11, zz12, zz13, reduceCtorEq, *]; done) | fail) only [go_sem, w3, Bool.and_self]
      · have e2 : xz l r = false := by simp only [xz, z1, z2, decide_false, Bool.or_false]
        rw [e2]
        simp (disch := first | omega | (simp only [avs_len, zz1, zz2, zz3, zz4, zz5, zz6]; omega) | (simp only [cells, scal1, allSz, zz1, zz3, zz2, zz6, zz7, zz8, avs_len, zz9, zz10, zz11, zz12, zz13, reduceCtorEq, *]; done) | fail) only [c_ref04_ecount, go_sem, eA, hlr, g0, g1, List.all_cons, List.all_nil, Bool.and_self, scal1, xtavs_len, w1, w2, w3, Bool.and_false, Bool.false_and, Bool.true_or]
        refine doneG ?_
        simp (disch := first | omega | (simp only [avs_len, zz1, zz2, zz3, zz4, zz5, zz6]; omega) | (simp only [cells, scal1, allSz, zz1, zz3, zz2, zz6, zz7, zz8, avs_len, zz9, zz10, zz11, zz12, zz13, reduceCtorEq, *]; done) | fail) only [go_sem, w3, Bool.and_self]
  all_goals
    simp only [Bool.and_false, Bool.false_and, Bool.and_true, Bool.true_and]
    rcases kk with ⟨a1, a2, a3⟩ | ⟨a1, a2, a3⟩ | ⟨a1, a2⟩ | a1
    all_goals
      simp (disch := first | omega | (simp only [avs_len, zz1, zz2, zz3, zz4, zz5, zz6]; omega) | (simp only [cells, scal1, allSz, zz1, zz3, zz2, zz6, zz7, zz8, avs_len, zz9, zz10, zz11, zz12, zz13, reduceCtorEq, *]; done) | fail) only [c_ref04_ecount, go_sem, eA, hlr, g0, g1, List.all_cons, List.all_nil, Bool.and_self, scal1, xtavs_len, w1, w2, w3, Bool.and_false, Bool.false_and, Bool.true_or]
      refine doneG ?_
      simp (disch := first | omega | (simp only [avs_len, zz1, zz2, zz3, zz4, zz5, zz6]; omega) | (simp only [cells, scal1, allSz, zz1, zz3, zz2, zz6, zz7, zz8, avs_len, zz9, zz10, zz11, zz12, zz13, reduceCtorEq, *]; done) | fail) only [go_sem, w3, Bool.and_self]
theorem refEcount_calls : ∀ t : ET, ∃ (n : Nat) (ok : Bool), PCalls Try.prog F_ref04_ecount [xtv t] (.tup [.int .i64 (n : Nat), .bool ok]) ∧ n ≤ 1000 ∧ (ok = true ↔ ∃ b : E, t = b.t ∧ b.short = true ∧ b.small = true) ∧ (ok = true → ∀ b : E, t = b.t → n = min b.nodes 1000) := by
  intro t
  induction t using ET.ind with
  | h t ih =>
    have he := t.eta
    by_cases hn : 0 ≤ t.n ∧ t.n ≤ 1099511627776
    case neg =>
      refine ⟨0, false, ?_, by omega, ?_, fun h => by cases h⟩
      · by_cases h1 : t.n < 0
        · refine calls_ref04_ecount (walk0 100 trivial (fun A eA => ?_))
          simp (disch := first | omega | (simp only [avs_len, zz1, zz2, zz3, zz4, zz5, zz6]; omega) | (simp only [cells, scal1, allSz, zz1, zz3, zz2, zz6, zz7, zz8, avs_len, zz9, zz10, zz11, zz12, zz13, reduceCtorEq, *]; done) | fail) only [c_ref04_ecount, go_sem, eA, scal1, xtavs_len]
          exact doneG rfl
        · refine calls_ref04_ecount (walk0 100 trivial (fun A eA => ?_))
          simp (disch := first | omega | (simp only [avs_len, zz1, zz2, zz3, zz4, zz5, zz6]; omega) | (simp only [cells, scal1, allSz, zz1, zz3, zz2, zz6, zz7, zz8, avs_len, zz9, zz10, zz11, zz12, zz13, reduceCtorEq, *]; done) | fail) only [c_ref04_ecount, go_sem, eA, scal1, xtavs_len]
          exact doneG rfl
      · simp only [Bool.false_eq_true, false_iff]
        rintro ⟨b, rfl, -, hs⟩
        have := b.t_n
        have := E.small_n hs
        omega
    obtain ⟨m, hm⟩ : ∃ m : Nat, t.n = (m : Int) := ⟨t.n.toNat, by omega⟩
    by_cases h0 : t.ps.length = 0
    · have h00 : t.ps = [] := List.eq_nil_of_length_eq_zero h0
      refine ⟨1, true, ?_, by omega, ?_, ?_⟩
      · refine calls_ref04_ecount (walk0 100 trivial (fun A eA => ?_))
        simp (disch := first | omega | (simp only [avs_len, zz1, zz2, zz3, zz4, zz5, zz6]; omega) | (simp only [cells, scal1, allSz, zz1, zz3, zz2, zz6, zz7, zz8, avs_len, zz9, zz10, zz11, zz12, zz13, reduceCtorEq, *]; done) | fail) only [c_ref04_ecount, go_sem, eA, scal1, xtavs_len]
        exact doneG rfl
      · simp only [true_iff]
        exact ⟨.lf m, by rw [← he, hm, h00]; rfl, rfl, by simp only [E.small, decide_eq_true_eq]; omega⟩
      · rintro - b rfl
        cases b with
        | lf o => rfl
        | nd n l r => simp [E.t, ET.ps] at h00
    by_cases h2 : t.ps.length = 2
    · obtain ⟨l, r, hlr⟩ : ∃ l r, t.ps = [l, r] := by
        match t.ps, h2 with
        | [l, r], _ => exact ⟨l, r, rfl⟩
      obtain ⟨n1, x, c1, b1, e1, f1⟩ := ih l (by rw [hlr]; simp)
      obtain ⟨n2, y, c2, b2, e2, f2⟩ := ih r (by rw [hlr]; simp)
      have key : ∀ b : E, t = b.t → ∃ n bl br, b = .nd n bl br ∧ l = bl.t ∧ r = br.t := by
        rintro b rfl
        cases b with
        | lf o => simp [E.t, ET.ps] at h0
        | nd n bl br => simp [E.t, ET.ps] at hlr; exact ⟨n, bl, br, rfl, hlr.1.symm, hlr.2.symm⟩
      have hlf : ∀ bl br : E, xlf bl.t br.t = (bl.leaf && br.leaf && decide (bl.n = br.n)) := by
        intro bl br
        simp only [xlf, E.t_leaf, E.t_n]
        congr 1
        rw [decide_eq_decide]; omega
      have hz : ∀ bl br : E, xz bl.t br.t = (decide (bl.n = 0) || decide (br.n = 0)) := by
        intro bl br
        simp only [xz, E.t_n]
        congr 1 <;> (rw [decide_eq_decide]; omega)
      refine ⟨min (n1 + n2 + 1) 1000, x && y && !xlf l r && xz l r, ?_, by omega, ?_, ?_⟩
      · exact refEcount_nd hlr hn c1 c2 b1 b2
      · simp only [Bool.and_eq_true, e1, e2]
        constructor
        · rintro ⟨⟨⟨⟨bl, rfl, s1, m1⟩, ⟨br, rfl, s2, m2⟩⟩, s3⟩, s4⟩
          rw [hlf] at s3
          rw [hz] at s4
          exact ⟨.nd m bl br, by rw [← he, hm, hlr]; rfl, by simp only [E.short, s1, s2, s3, s4, Bool.and_self], by simp only [E.small, m1, m2, Bool.and_true, decide_eq_true_eq]; omega⟩
        · rintro ⟨b, hb, hsh, hsm⟩
          obtain ⟨n, bl, br, rfl, rfl, rfl⟩ := key b hb
          simp only [E.short, Bool.and_eq_true] at hsh
          simp only [E.small, Bool.and_eq_true] at hsm
          rw [hlf, hz]
          exact ⟨⟨⟨⟨bl, rfl, hsh.1.1.1, hsm.1.2⟩, ⟨br, rfl, hsh.1.1.2, hsm.2⟩⟩, hsh.2⟩, hsh.1.2⟩
      · intro hok b hb
        obtain ⟨n, bl, br, rfl, hl, hr⟩ := key b hb
        simp only [Bool.and_eq_true] at hok
        have := f1 hok.1.1.1 bl hl
        have := f2 hok.1.1.2 br hr
        simp only [E.nodes]
        omega
    · refine ⟨0, false, ?_, by omega, ?_, fun h => by cases h⟩
      · refine calls_ref04_ecount (walk0 100 trivial (fun A eA => ?_))
        simp (disch := first | omega | (simp only [avs_len, zz1, zz2, zz3, zz4, zz5, zz6]; omega) | (simp only [cells, scal1, allSz, zz1, zz3, zz2, zz6, zz7, zz8, avs_len, zz9, zz10, zz11, zz12, zz13, reduceCtorEq, *]; done) | fail) only [c_ref04_ecount, go_sem, eA, scal1, xtavs_len]
        exact doneG rfl
      · simp only [Bool.false_eq_true, false_iff]
        rintro ⟨b, rfl, -⟩
        cases b with
        | lf o => simp [E.t, ET.ps] at h0
        | nd n l r => simp [E.t, ET.ps] at h2
theorem refERight_calls (t : ET) (hs : t.size < 2 ^ 60) : PCalls Try.prog F_ref04_ERight [xtv t] (.bool (xrtb t)) := by
  refine calls_ref04_ERight (walk0 100 trivial (fun A eA => ?_))
  simp (disch := first | omega | (simp only [avs_len, zz1, zz2, zz3, zz4, zz5, zz6]; omega) | (simp only [cells, scal1, allSz, zz1, zz3, zz2, zz6, zz7, zz8, avs_len, zz9, zz10, zz11, zz12, zz13, reduceCtorEq, *]; done) | fail) only [c_ref04_ERight, go_sem, eA, scal1, xtavs_len]
  refine call0 100 trivial trivial (xdeep_calls 8 t (by omega) hs) (.inl rfl) (fun A eA => ?_)
  have hno : ¬ XRt t → xrtb t = false := fun h => by rw [Bool.eq_false_iff, ne_eq, xrtb_true]; exact h
  by_cases h : xdeep 8 t ≤ 8
  · simp (disch := first | omega | (simp only [avs_len, zz1, zz2, zz3, zz4, zz5, zz6]; omega) | (simp only [cells, scal1, allSz, zz1, zz3, zz2, zz6, zz7, zz8, avs_len, zz9, zz10, zz11, zz12, zz13, reduceCtorEq, *]; done) | fail) only [c_ref04_ERight, go_sem, eA]
    obtain ⟨n, ok, c, hn, h1, h2⟩ := refEcount_calls t
    refine call0 100 trivial trivial c (.inl rfl) (fun A eA => ?_)
    cases ok with
    | false =>
      simp (disch := first | omega | (simp only [avs_len, zz1, zz2, zz3, zz4, zz5, zz6]; omega) | (simp only [cells, scal1, allSz, zz1, zz3, zz2, zz6, zz7, zz8, avs_len, zz9, zz10, zz11, zz12, zz13, reduceCtorEq, *]; done) | fail) only [c_ref04_ERight, go_sem, eA]
      rw [hno (by rintro ⟨b, hb, -, -, hsh, hsm⟩; have := h1.2 ⟨b, hb, hsh, hsm⟩; cases this)]
      exact doneG rfl
    | true =>
      obtain ⟨b, rfl, hsh, hsm⟩ := h1.1 rfl
      have hn2 := h2 rfl b rfl
      have hdp := (xflat_dep 8 b).1 ((xdeep_le 8 _).1 h)
      by_cases h6 : n ≤ 60
      · simp (disch := first | omega | (simp only [avs_len, zz1, zz2, zz3, zz4, zz5, zz6]; omega) | (simp only [cells, scal1, allSz, zz1, zz3, zz2, zz6, zz7, zz8, avs_len, zz9, zz10, zz11, zz12, zz13, reduceCtorEq, *]; done) | fail) only [c_ref04_ERight, go_sem, eA]
        rw [xrtb_true.2 ⟨b, rfl, hdp, by omega, hsh, hsm⟩]
        exact doneG rfl
      · simp (disch := first | omega | (simp only [avs_len, zz1, zz2, zz3, zz4, zz5, zz6]; omega) | (simp only [cells, scal1, allSz, zz1, zz3, zz2, zz6, zz7, zz8, avs_len, zz9, zz10, zz11, zz12, zz13, reduceCtorEq, *]; done) | fail) only [c_ref04_ERight, go_sem, eA]
        rw [hno (by rintro ⟨b', hb, -, h7, -⟩; obtain rfl := E.inj hb; omega)]
        exact doneG rfl
  · simp (disch := first | omega | (simp only [avs_len, zz1, zz2, zz3, zz4, zz5, zz6]; omega) | (simp only [cells, scal1, allSz, zz1, zz3, zz2, zz6, zz7, zz8, avs_len, zz9, zz10, zz11, zz12, zz13, reduceCtorEq, *]; done) | fail) only [c_ref04_ERight, go_sem, eA]
    rw [hno (by rintro ⟨b, rfl, h7, -, -⟩; exact h ((xdeep_le 8 _).2 ((xflat_dep 8 b).2 h7)))]
    exact doneG rfl
end Go.Proofs.Ytmokhopjnjecbac
/- The walk through versions. -/
-- short
-- fuel 300
namespace Go.Proofs.Ytmokhopjnjecbac
open Go.Ev
set_option linter.unusedVariables false
set_option linter.unusedSimpArgs false
set_option maxRecDepth 100000
variable {R : List AV → Heap → Ctr → Prop} {k : List It} {H : Heap} {nx : Ctr} {φ : Nat}

structure Ver where
  client : Int
  token : Int
  key : ByteArray
  value : ByteArray
  gone : Bool
  event : ET
abbrev vcs (v : Ver) : List AV := [.int .i64 v.client, .int .i64 v.token, .str v.key, .str v.value, .bool v.gone, .int .i64 v.event.n, .fz 2 (xtavs v.event.ps) none]
abbrev vv (v : Ver) : AV := .agg (vcs v)
def VRt (v : Ver) : Prop := ¬ v.client < 0 ∧ ¬ 1048576 ≤ v.client ∧ ¬ v.token < 1 ∧ ¬ 1099511627776 < v.token ∧ ¬ v.key.size < 1 ∧ ¬ 20 < v.key.size ∧ ¬ 100 < v.value.size ∧ (v.gone = true → v.value.size = 0) ∧ XRt v.event ∧ v.event ≠ .mk 0 []
noncomputable def vrtb (v : Ver) : Bool := @decide (VRt v) (Classical.propDecidable _)
theorem vrtb_true {v : Ver} : vrtb v = true ↔ VRt v := by simp [vrtb]
theorem vrtb_no {v : Ver} (h : ¬ VRt v) : vrtb v = false := by rw [Bool.eq_false_iff, ne_eq, vrtb_true]; exact h
theorem str_inj {x y : ByteArray} (h : x.toList = y.toList) : x = y := by
  rw [ByteArray.toList_eq, ByteArray.toList_eq] at h
  cases x; cases y
  congr 1
  exact Array.toList_inj.1 h
theorem str_beq_true {x y : ByteArray} (h : x = y) : (x.toList == y.toList) = true := by rw [h]; simp
theorem str_beq_false {x y : ByteArray} (h : ¬ x = y) : (x.toList == y.toList) = false := by
  rw [Bool.eq_false_iff, ne_eq, beq_iff_eq]
  exact fun e => h (str_inj e)
theorem str_size0 {s : ByteArray} : s = ⟨#[]⟩ ↔ s.size = 0 := by
  constructor
  · rintro rfl; rfl
  · intro h
    cases s with
    | mk d => congr 1; exact Array.eq_empty_of_size_eq_zero h
theorem xright_zero : XRt (.mk 0 []) := ⟨.lf 0, rfl, by decide, by decide, rfl, by decide⟩
theorem xsm_self (t : ET) (h : XRt t) (b : ET) : xsm 8 t b = xteq t b := by
  rw [Bool.eq_iff_iff, xsm_iff, xteq_true]
  obtain ⟨x, rfl, h1, _⟩ := h
  exact ⟨fun h => h.1, fun e => ⟨e, (xflat_dep 8 x).2 h1⟩⟩
theorem xrt_size {t : ET} (h : XRt t) : t.size < 2 ^ 20 := by
  obtain ⟨x, rfl, _, h2, _⟩ := h
  rw [E.t_size]; omega
set_option maxHeartbeats 1600000 in
theorem vRight_calls (v : Ver) : PCalls Try.prog F_z23z [vv v] (.bool (vrtb v)) := by
  by_cases c0 : v.client < 0
  · rw [vrtb_no (fun h => by unfold VRt at h; omega)]
    refine calls_z23z (walk0 300 trivial (fun A eA => ?_))
    simp (disch := first | omega | (simp only [avs_len, zz1, zz2, zz3, zz4, zz5, zz6]; omega) | (simp only [cells, scal1, allSz, zz1, zz3, zz2, zz6, zz7, zz8, avs_len, zz9, zz10, zz11, zz12, zz13, reduceCtorEq, *]; done) | fail) only [c_z23z, go_sem, eA, scal1, List.all_cons, List.all_nil, Bool.and_self]
    exact doneG rfl
  by_cases c1 : 1048576 ≤ v.client
  · rw [vrtb_no (fun h => by unfold VRt at h; omega)]
    refine calls_z23z (walk0 300 trivial (fun A eA => ?_))
    simp (disch := first | omega | (simp only [avs_len, zz1, zz2, zz3, zz4, zz5, zz6]; omega) | (simp only [cells, scal1, allSz, zz1, zz3, zz2, zz6, zz7, zz8, avs_len, zz9, zz10, zz11, zz12, zz13, reduceCtorEq, *]; done) | fail) only [c_z23z, go_sem, eA, scal1, List.all_cons, List.all_nil, Bool.and_self]
    exact doneG rfl
  by_cases c2 : v.token < 1
  · rw [vrtb_no (fun h => by unfold VRt at h; omega)]
    refine calls_z23z (walk0 300 trivial (fun A eA => ?_))
    simp (disch := first | omega | (simp only [avs_len, zz1, zz2, zz3, zz4, zz5, zz6]; omega) | (simp only [cells, scal1, allSz, zz1, zz3, zz2, zz6, zz7, zz8, avs_len, zz9, zz10, zz11, zz12, zz13, reduceCtorEq, *]; done) | fail) only [c_z23z, go_sem, eA, scal1, List.all_cons, List.all_nil, Bool.and_self]
    exact doneG rfl
  by_cases c3 : 1099511627776 < v.token
  · rw [vrtb_no (fun h => by unfold VRt at h; omega)]
    refine calls_z23z (walk0 300 trivial (fun A eA => ?_))
    simp (disch := first | omega | (simp only [avs_len, zz1, zz2, zz3, zz4, zz5, zz6]; omega) | (simp only [cells, scal1, allSz, zz1, zz3, zz2, zz6, zz7, zz8, avs_len, zz9, zz10, zz11, zz12, zz13, reduceCtorEq, *]; done) | fail) only [c_z23z, go_sem, eA, scal1, List.all_cons, List.all_nil, Bool.and_self]
    exact doneG rfl
  by_cases c4 : v.key.size < 1
  · rw [vrtb_no (fun h => by unfold VRt at h; omega)]
    refine calls_z23z (walk0 300 trivial (fun A eA => ?_))
    simp (disch := first | omega | (simp only [avs_len, zz1, zz2, zz3, zz4, zz5, zz6]; omega) | (simp only [cells, scal1, allSz, zz1, zz3, zz2, zz6, zz7, zz8, avs_len, zz9, zz10, zz11, zz12, zz13, reduceCtorEq, *]; done) | fail) only [c_z23z, go_sem, eA, scal1, List.all_cons, List.all_nil, Bool.and_self]
    exact doneG rfl
  by_cases c5 : 20 < v.key.size
  · rw [vrtb_no (fun h => by unfold VRt at h; omega)]
    refine calls_z23z (walk0 300 trivial (fun A eA => ?_))
    simp (disch := first | omega | (simp only [avs_len, zz1, zz2, zz3, zz4, zz5, zz6]; omega) | (simp only [cells, scal1, allSz, zz1, zz3, zz2, zz6, zz7, zz8, avs_len, zz9, zz10, zz11, zz12, zz13, reduceCtorEq, *]; done) | fail) only [c_z23z, go_sem, eA, scal1, List.all_cons, List.all_nil, Bool.and_self]
    exact doneG rfl
  by_cases c6 : 100 < v.value.size
  · rw [vrtb_no (fun h => by unfold VRt at h; omega)]
    refine calls_z23z (walk0 300 trivial (fun A eA => ?_))
    simp (disch := first | omega | (simp only [avs_len, zz1, zz2, zz3, zz4, zz5, zz6]; omega) | (simp only [cells, scal1, allSz, zz1, zz3, zz2, zz6, zz7, zz8, avs_len, zz9, zz10, zz11, zz12, zz13, reduceCtorEq, *]; done) | fail) only [c_z23z, go_sem, eA, scal1, List.all_cons, List.all_nil, Bool.and_self]
    exact doneG rfl
  have key : (v.gone = true → v.value.size = 0) → PCalls Try.prog F_z23z [vv v] (.bool (vrtb v)) := by
    intro cg
    have cr := xright_calls v.event
    by_cases hr : XRt v.event
    · rw [xrtb_true.2 hr] at cr
      have cs := PCalls.arg [xtv v.event] (post := []) (xwk_leaf 0) (xSame4_calls v.event (.mk 0 []) (by have := xrt_size hr; omega))
      rw [xsm_self _ hr] at cs
      simp only [List.cons_append, List.nil_append] at cs
      have e : vrtb v = !xteq v.event (.mk 0 []) := by
        rw [Bool.eq_iff_iff, vrtb_true, Bool.not_eq_true', Bool.eq_false_iff, ne_eq, xteq_true]
        exact ⟨fun h => h.2.2.2.2.2.2.2.2.2, fun h => ⟨c0, c1, c2, c3, c4, c5, c6, cg, hr, h⟩⟩
      rw [e]
      generalize xteq v.event (.mk 0 []) = q at cs ⊢
      refine calls_z23z (walk0 300 trivial (fun A eA => ?_))
      cases hg : v.gone with
      | true =>
        have hv : (v.value.toList == (⟨#[]⟩ : ByteArray).toList) = true := str_beq_true (str_size0.2 (cg hg))
        simp (disch := first | omega | (simp only [avs_len, zz1, zz2, zz3, zz4, zz5, zz6]; omega) | (simp only [cells, scal1, allSz, zz1, zz3, zz2, zz6, zz7, zz8, avs_len, zz9, zz10, zz11, zz12, zz13, reduceCtorEq, *]; done) | fail) only [c_z23z, go_sem, eA, scal1, List.all_cons, List.all_nil, Bool.and_self, hg, hv]
        repeat ((first | refine call0 300 trivial trivial (by first | exact cr | exact cs) (by first | exact .inl rfl | exact .inr rfl) (fun A eA => ?_) | refine call1 300 trivial trivial (by first | exact cr | exact cs) (fun A eA => ?_)); simp (disch := first | omega | (simp only [avs_len, zz1, zz2, zz3, zz4, zz5, zz6]; omega) | (simp only [cells, scal1, allSz, zz1, zz3, zz2, zz6, zz7, zz8, avs_len, zz9, zz10, zz11, zz12, zz13, reduceCtorEq, *]; done) | fail) only [c_z23z, go_sem, eA, scal1, List.all_cons, List.all_nil, Bool.and_self])
        exact doneG rfl
      | false =>
        simp (disch := first | omega | (simp only [avs_len, zz1, zz2, zz3, zz4, zz5, zz6]; omega) | (simp only [cells, scal1, allSz, zz1, zz3, zz2, zz6, zz7, zz8, avs_len, zz9, zz10, zz11, zz12, zz13, reduceCtorEq, *]; done) | fail) only [c_z23z, go_sem, eA, scal1, List.all_cons, List.all_nil, Bool.and_self, hg]
        repeat ((first | refine call0 300 trivial trivial (by first | exact cr | exact cs) (by first | exact .inl rfl | exact .inr rfl) (fun A eA => ?_) | refine call1 300 trivial trivial (by first | exact cr | exact cs) (fun A eA => ?_)); simp (disch := first | omega | (simp only [avs_len, zz1, zz2, zz3, zz4, zz5, zz6]; omega) | (simp only [cells, scal1, allSz, zz1, zz3, zz2, zz6, zz7, zz8, avs_len, zz9, zz10, zz11, zz12, zz13, reduceCtorEq, *]; done) | fail) only [c_z23z, go_sem, eA, scal1, List.all_cons, List.all_nil, Bool.and_self])
        exact doneG rfl
    · rw [show xrtb v.event = false by rw [Bool.eq_false_iff, ne_eq, xrtb_true]; exact hr] at cr
      rw [vrtb_no (fun h => hr h.2.2.2.2.2.2.2.2.1)]
      refine calls_z23z (walk0 300 trivial (fun A eA => ?_))
      cases hg : v.gone with
      | true =>
        have hv : (v.value.toList == (⟨#[]⟩ : ByteArray).toList) = true := str_beq_true (str_size0.2 (cg hg))
        simp (disch := first | omega | (simp only [avs_len, zz1, zz2, zz3, zz4, zz5, zz6]; omega) | (simp only [cells, scal1, allSz, zz1, zz3, zz2, zz6, zz7, zz8, avs_len, zz9, zz10, zz11, zz12, zz13, reduceCtorEq, *]; done) | fail) only [c_z23z, go_sem, eA, scal1, List.all_cons, List.all_nil, Bool.and_self, hg, hv]
        repeat ((first | refine call0 300 trivial trivial (by first | exact cr) (by first | exact .inl rfl | exact .inr rfl) (fun A eA => ?_) | refine call1 300 trivial trivial (by first | exact cr) (fun A eA => ?_)); simp (disch := first | omega | (simp only [avs_len, zz1, zz2, zz3, zz4, zz5, zz6]; omega) | (simp only [cells, scal1, allSz, zz1, zz3, zz2, zz6, zz7, zz8, avs_len, zz9, zz10, zz11, zz12, zz13, reduceCtorEq, *]; done) | fail) only [c_z23z, go_sem, eA, scal1, List.all_cons, List.all_nil, Bool.and_self])
        exact doneG rfl
      | false =>
        simp (disch := first | omega | (simp only [avs_len, zz1, zz2, zz3, zz4, zz5, zz6]; omega) | (simp only [cells, scal1, allSz, zz1, zz3, zz2, zz6, zz7, zz8, avs_len, zz9, zz10, zz11, zz12, zz13, reduceCtorEq, *]; done) | fail) only [c_z23z, go_sem, eA, scal1, List.all_cons, List.all_nil, Bool.and_self, hg]
        repeat ((first | refine call0 300 trivial trivial (by first | exact cr) (by first | exact .inl rfl | exact .inr rfl) (fun A eA => ?_) | refine call1 300 trivial trivial (by first | exact cr) (fun A eA => ?_)); simp (disch := first | omega | (simp only [avs_len, zz1, zz2, zz3, zz4, zz5, zz6]; omega) | (simp only [cells, scal1, allSz, zz1, zz3, zz2, zz6, zz7, zz8, avs_len, zz9, zz10, zz11, zz12, zz13, reduceCtorEq, *]; done) | fail) only [c_z23z, go_sem, eA, scal1, List.all_cons, List.all_nil, Bool.and_self])
        exact doneG rfl
  by_cases c8 : v.gone = true → v.value.size = 0
  · exact key c8
  · rw [vrtb_no (fun h => c8 h.2.2.2.2.2.2.2.1)]
    have hg : v.gone = true := Classical.byContradiction (fun h => c8 (fun h2 => absurd h2 h))
    have hv : (v.value.toList == (⟨#[]⟩ : ByteArray).toList) = false := str_beq_false (fun h => c8 (fun _ => str_size0.1 h))
    refine calls_z23z (walk0 300 trivial (fun A eA => ?_))
    simp (disch := first | omega | (simp only [avs_len, zz1, zz2, zz3, zz4, zz5, zz6]; omega) | (simp only [cells, scal1, allSz, zz1, zz3, zz2, zz6, zz7, zz8, avs_len, zz9, zz10, zz11, zz12, zz13, reduceCtorEq, *]; done) | fail) only [c_z23z, go_sem, eA, scal1, List.all_cons, List.all_nil, Bool.and_self, hg, hv]
    exact doneG rfl
set_option maxHeartbeats 1600000 in
theorem refVRight_calls (v : Ver) (hs : v.event.size < 2 ^ 32) : PCalls Try.prog F_z25z [vv v] (.bool (vrtb v)) := by
  by_cases c0 : v.client < 0
  · rw [vrtb_no (fun h => by unfold VRt at h; omega)]
    refine calls_z25z (walk0 300 trivial (fun A eA => ?_))
    simp (disch := first | omega | (simp only [avs_len, zz1, zz2, zz3, zz4, zz5, zz6]; omega) | (simp only [cells, scal1, allSz, zz1, zz3, zz2, zz6, zz7, zz8, avs_len, zz9, zz10, zz11, zz12, zz13, reduceCtorEq, *]; done) | fail) only [c_z25z, go_sem, eA, scal1, List.all_cons, List.all_nil, Bool.and_self]
    exact doneG rfl
  by_cases c1 : 1048576 ≤ v.client
  · rw [vrtb_no (fun h => by unfold VRt at h; omega)]
    refine calls_z25z (walk0 300 trivial (fun A eA => ?_))
    simp (disch := first | omega | (simp only [avs_len, zz1, zz2, zz3, zz4, zz5, zz6]; omega) | (simp only [cells, scal1, allSz, zz1, zz3, zz2, zz6, zz7, zz8, avs_len, zz9, zz10, zz11, zz12, zz13, reduceCtorEq, *]; done) | fail) only [c_z25z, go_sem, eA, scal1, List.all_cons, List.all_nil, Bool.and_self]
    exact doneG rfl
  by_cases c2 : v.token < 1
  · rw [vrtb_no (fun h => by unfold VRt at h; omega)]
    refine calls_z25z (walk0 300 trivial (fun A eA => ?_))
    simp (disch := first | omega | (simp only [avs_len, zz1, zz2, zz3, zz4, zz5, zz6]; omega) | (simp only [cells, scal1, allSz, zz1, zz3, zz2, zz6, zz7, zz8, avs_len, zz9, zz10, zz11, zz12, zz13, reduceCtorEq, *]; done) | fail) only [c_z25z, go_sem, eA, scal1, List.all_cons, List.all_nil, Bool.and_self]
    exact doneG rfl
  by_cases c3 : 1099511627776 < v.token
  · rw [vrtb_no (fun h => by unfold VRt at h; omega)]
    refine calls_z25z (walk0 300 trivial (fun A eA => ?_))
    simp (disch := first | omega | (simp only [avs_len, zz1, zz2, zz3, zz4, zz5, zz6]; omega) | (simp only [cells, scal1, allSz, zz1, zz3, zz2, zz6, zz7, zz8, avs_len, zz9, zz10, zz11, zz12, zz13, reduceCtorEq, *]; done) | fail) only [c_z25z, go_sem, eA, scal1, List.all_cons, List.all_nil, Bool.and_self]
    exact doneG rfl
  by_cases c4 : v.key.size < 1
  · rw [vrtb_no (fun h => by unfold VRt at h; omega)]
    refine calls_z25z (walk0 300 trivial (fun A eA => ?_))
    simp (disch := first | omega | (simp only [avs_len, zz1, zz2, zz3, zz4, zz5, zz6]; omega) | (simp only [cells, scal1, allSz, zz1, zz3, zz2, zz6, zz7, zz8, avs_len, zz9, zz10, zz11, zz12, zz13, reduceCtorEq, *]; done) | fail) only [c_z25z, go_sem, eA, scal1, List.all_cons, List.all_nil, Bool.and_self]
    exact doneG rfl
  by_cases c5 : 20 < v.key.size
  · rw [vrtb_no (fun h => by unfold VRt at h; omega)]
    refine calls_z25z (walk0 300 trivial (fun A eA => ?_))
    simp (disch := first | omega | (simp only [avs_len, zz1, zz2, zz3, zz4, zz5, zz6]; omega) | (simp only [cells, scal1, allSz, zz1, zz3, zz2, zz6, zz7, zz8, avs_len, zz9, zz10, zz11, zz12, zz13, reduceCtorEq, *]; done) | fail) only [c_z25z, go_sem, eA, scal1, List.all_cons, List.all_nil, Bool.and_self]
    exact doneG rfl
  by_cases c6 : 100 < v.value.size
  · rw [vrtb_no (fun h => by unfold VRt at h; omega)]
    refine calls_z25z (walk0 300 trivial (fun A eA => ?_))
    simp (disch := first | omega | (simp only [avs_len, zz1, zz2, zz3, zz4, zz5, zz6]; omega) | (simp only [cells, scal1, allSz, zz1, zz3, zz2, zz6, zz7, zz8, avs_len, zz9, zz10, zz11, zz12, zz13, reduceCtorEq, *]; done) | fail) only [c_z25z, go_sem, eA, scal1, List.all_cons, List.all_nil, Bool.and_self]
    exact doneG rfl
  have key : (v.gone = true → v.value.size = 0) → PCalls Try.prog F_z25z [vv v] (.bool (vrtb v)) := by
    intro cg
    have cr := refERight_calls v.event (by omega)
    by_cases hr : XRt v.event
    · rw [xrtb_true.2 hr] at cr
      have hn : 0 ≤ v.event.n := by obtain ⟨x, hx, _⟩ := hr; rw [hx, x.t_n]; omega
      have e : ∀ q : Bool, (q = true ↔ (0 < v.event.n ∨ 0 < v.event.ps.length)) → vrtb v = q := by
        intro q hq
        rw [Bool.eq_iff_iff, vrtb_true, hq]
        have ht := v.event.eta
        constructor
        · intro h
          have h1 := h.2.2.2.2.2.2.2.2.2
          apply Classical.byContradiction
          intro h2
          apply h1
          rw [← ht, show v.event.n = 0 by omega, List.eq_nil_of_length_eq_zero (show v.event.ps.length = 0 by omega)]
        · intro h
          refine ⟨c0, c1, c2, c3, c4, c5, c6, cg, hr, fun h1 => ?_⟩
          rw [h1] at h
          simp [ET.n, ET.ps] at h
      have fin : ∀ q : Bool, (q = true ↔ (0 < v.event.n ∨ 0 < v.event.ps.length)) → PCalls Try.prog F_z25z [vv v] (.bool q) := by
        intro q hq
        by_cases n0 : 0 < v.event.n
        · obtain rfl : q = true := hq.2 (.inl n0)
          refine calls_z25z (walk0 300 trivial (fun A eA => ?_))
          cases hg : v.gone with
          | true =>
            have hv := cg hg
            simp (disch := first | omega | (simp only [avs_len, zz1, zz2, zz3, zz4, zz5, zz6]; omega) | (simp only [cells, scal1, allSz, zz1, zz3, zz2, zz6, zz7, zz8, avs_len, zz9, zz10, zz11, zz12, zz13, reduceCtorEq, *]; done) | fail) only [c_z25z, go_sem, eA, scal1, List.all_cons, List.all_nil, Bool.and_self, hg]
            repeat ((first | refine call0 300 trivial trivial (by first | exact cr) (by first | exact .inl rfl | exact .inr rfl) (fun A eA => ?_) | refine call1 300 trivial trivial (by first | exact cr) (fun A eA => ?_)); simp (disch := first | omega | (simp only [avs_len, zz1, zz2, zz3, zz4, zz5, zz6]; omega) | (simp only [cells, scal1, allSz, zz1, zz3, zz2, zz6, zz7, zz8, avs_len, zz9, zz10, zz11, zz12, zz13, reduceCtorEq, *]; done) | fail) only [c_z25z, go_sem, eA, scal1, List.all_cons, List.all_nil, Bool.and_self, xtavs_len])
            exact doneG rfl
          | false =>
            simp (disch := first | omega | (simp only [avs_len, zz1, zz2, zz3, zz4, zz5, zz6]; omega) | (simp only [cells, scal1, allSz, zz1, zz3, zz2, zz6, zz7, zz8, avs_len, zz9, zz10, zz11, zz12, zz13, reduceCtorEq, *]; done) | fail) only [c_z25z, go_sem, eA, scal1, List.all_cons, List.all_nil, Bool.and_self, hg]
            repeat ((first | refine call0 300 trivial trivial (by first | exact cr) (by first | exact .inl rfl | exact .inr rfl) (fun A eA => ?_) | refine call1 300 trivial trivial (by first | exact cr) (fun A eA => ?_)); simp (disch := first | omega | (simp only [avs_len, zz1, zz2, zz3, zz4, zz5, zz6]; omega) | (simp only [cells, scal1, allSz, zz1, zz3, zz2, zz6, zz7, zz8, avs_len, zz9, zz10, zz11, zz12, zz13, reduceCtorEq, *]; done) | fail) only [c_z25z, go_sem, eA, scal1, List.all_cons, List.all_nil, Bool.and_self, xtavs_len])
            exact doneG rfl
        · have e2 : q = decide (0 < v.event.ps.length) := by rw [Bool.eq_iff_iff, hq, decide_eq_true_eq]; omega
          subst e2
          by_cases l0 : 0 < v.event.ps.length
          · refine calls_z25z (walk0 300 trivial (fun A eA => ?_))
            cases hg : v.gone with
            | true =>
              have hv := cg hg
              simp (disch := first | omega | (simp only [avs_len, zz1, zz2, zz3, zz4, zz5, zz6]; omega) | (simp only [cells, scal1, allSz, zz1, zz3, zz2, zz6, zz7, zz8, avs_len, zz9, zz10, zz11, zz12, zz13, reduceCtorEq, *]; done) | fail) only [c_z25z, go_sem, eA, scal1, List.all_cons, List.all_nil, Bool.and_self, hg]
              repeat ((first | refine call0 300 trivial trivial (by first | exact cr) (by first | exact .inl rfl | exact .inr rfl) (fun A eA => ?_) | refine call1 300 trivial trivial (by first | exact cr) (fun A eA => ?_)); simp (disch := first | omega | (simp only [avs_len, zz1, zz2, zz3, zz4, zz5, zz6]; omega) | (simp only [cells, scal1, allSz, zz1, zz3, zz2, zz6, zz7, zz8, avs_len, zz9, zz10, zz11, zz12, zz13, reduceCtorEq, *]; done) | fail) only [c_z25z, go_sem, eA, scal1, List.all_cons, List.all_nil, Bool.and_self, xtavs_len])
              exact doneG rfl
            | false =>
              simp (disch := first | omega | (simp only [avs_len, zz1, zz2, zz3, zz4, zz5, zz6]; omega) | (simp only [cells, scal1, allSz, zz1, zz3, zz2, zz6, zz7, zz8, avs_len, zz9, zz10, zz11, zz12, zz13, reduceCtorEq, *]; done) | fail) only [c_z25z, go_sem, eA, scal1, List.all_cons, List.all_nil, Bool.and_self, hg]
              repeat ((first | refine call0 300 trivial trivial (by first | exact cr) (by first | exact .inl rfl | exact .inr rfl) (fun A eA => ?_) | refine call1 300 trivial trivial (by first | exact cr) (fun A eA => ?_)); simp (disch := first | omega | (simp only [avs_len, zz1, zz2, zz3, zz4, zz5, zz6]; omega) | (simp only [cells, scal1, allSz, zz1, zz3, zz2, zz6, zz7, zz8, avs_len, zz9, zz10, zz11, zz12, zz13, reduceCtorEq, *]; done) | fail) only [c_z25z, go_sem, eA, scal1, List.all_cons, List.all_nil, Bool.and_self, xtavs_len])
              exact doneG rfl
          · refine calls_z25z (walk0 300 trivial (fun A eA => ?_))
            cases hg : v.gone with
            | true =>
              have hv := cg hg
              simp (disch := first | omega | (simp only [avs_len, zz1, zz2, zz3, zz4, zz5, zz6]; omega) | (simp only [cells, scal1, allSz, zz1, zz3, zz2, zz6, zz7, zz8, avs_len, zz9, zz10, zz11, zz12, zz13, reduceCtorEq, *]; done) | fail) only [c_z25z, go_sem, eA, scal1, List.all_cons, List.all_nil, Bool.and_self, hg]
              repeat ((first | refine call0 300 trivial trivial (by first | exact cr) (by first | exact .inl rfl | exact .inr rfl) (fun A eA => ?_) | refine call1 300 trivial trivial (by first | exact cr) (fun A eA => ?_)); simp (disch := first | omega | (simp only [avs_len, zz1, zz2, zz3, zz4, zz5, zz6]; omega) | (simp only [cells, scal1, allSz, zz1, zz3, zz2, zz6, zz7, zz8, avs_len, zz9, zz10, zz11, zz12, zz13, reduceCtorEq, *]; done) | fail) only [c_z25z, go_sem, eA, scal1, List.all_cons, List.all_nil, Bool.and_self, xtavs_len])
              exact doneG rfl
            | false =>
              simp (disch := first | omega | (simp only [avs_len, zz1, zz2, zz3, zz4, zz5, zz6]; omega) | (simp only [cells, scal1, allSz, zz1, zz3, zz2, zz6, zz7, zz8, avs_len, zz9, zz10, zz11, zz12, zz13, reduceCtorEq, *]; done) | fail) only [c_z25z, go_sem, eA, scal1, List.all_cons, List.all_nil, Bool.and_self, hg]
              repeat ((first | refine call0 300 trivial trivial (by first | exact cr) (by first | exact .inl rfl | exact .inr rfl) (fun A eA => ?_) | refine call1 300 trivial trivial (by first | exact cr) (fun A eA => ?_)); simp (disch := first | omega | (simp only [avs_len, zz1, zz2, zz3, zz4, zz5, zz6]; omega) | (simp only [cells, scal1, allSz, zz1, zz3, zz2, zz6, zz7, zz8, avs_len, zz9, zz10, zz11, zz12, zz13, reduceCtorEq, *]; done) | fail) only [c_z25z, go_sem, eA, scal1, List.all_cons, List.all_nil, Bool.and_self, xtavs_len])
              exact doneG rfl
      have := fin (decide (0 < v.event.n ∨ 0 < v.event.ps.length)) decide_eq_true_iff
      rwa [e _ decide_eq_true_iff]
    · rw [show xrtb v.event = false by rw [Bool.eq_false_iff, ne_eq, xrtb_true]; exact hr] at cr
      rw [vrtb_no (fun h => hr h.2.2.2.2.2.2.2.2.1)]
      refine calls_z25z (walk0 300 trivial (fun A eA => ?_))
      cases hg : v.gone with
      | true =>
        have hv := cg hg
        simp (disch := first | omega | (simp only [avs_len, zz1, zz2, zz3, zz4, zz5, zz6]; omega) | (simp only [cells, scal1, allSz, zz1, zz3, zz2, zz6, zz7, zz8, avs_len, zz9, zz10, zz11, zz12, zz13, reduceCtorEq, *]; done) | fail) only [c_z25z, go_sem, eA, scal1, List.all_cons, List.all_nil, Bool.and_self, hg]
        repeat ((first | refine call0 300 trivial trivial (by first | exact cr) (by first | exact .inl rfl | exact .inr rfl) (fun A eA => ?_) | refine call1 300 trivial trivial (by first | exact cr) (fun A eA => ?_)); simp (disch := first | omega | (simp only [avs_len, zz1, zz2, zz3, zz4, zz5, zz6]; omega) | (simp only [cells, scal1, allSz, zz1, zz3, zz2, zz6, zz7, zz8, avs_len, zz9, zz10, zz11, zz12, zz13, reduceCtorEq, *]; done) | fail) only [c_z25z, go_sem, eA, scal1, List.all_cons, List.all_nil, Bool.and_self])
        exact doneG rfl
      | false =>
        simp (disch := first | omega | (simp only [avs_len, zz1, zz2, zz3, zz4, zz5, zz6]; omega) | (simp only [cells, scal1, allSz, zz1, zz3, zz2, zz6, zz7, zz8, avs_len, zz9, zz10, zz11, zz12, zz13, reduceCtorEq, *]; done) | fail) only [c_z25z, go_sem, eA, scal1, List.all_cons, List.all_nil, Bool.and_self, hg]
        repeat ((first | refine call0 300 trivial trivial (by first | exact cr) (by first | exact .inl rfl | exact .inr rfl) (fun A eA => ?_) | refine call1 300 trivial trivial (by first | exact cr) (fun A eA => ?_)); simp (disch := first | omega | (simp only [avs_len, zz1, zz2, zz3, zz4, zz5, zz6]; omega) | (simp only [cells, scal1, allSz, zz1, zz3, zz2, zz6, zz7, zz8, avs_len, zz9, zz10, zz11, zz12, zz13, reduceCtorEq, *]; done) | fail) only [c_z25z, go_sem, eA, scal1, List.all_cons, List.all_nil, Bool.and_self])
        exact doneG rfl
  by_cases c8 : v.gone = true → v.value.size = 0
  · exact key c8
  · rw [vrtb_no (fun h => c8 h.2.2.2.2.2.2.2.1)]
    have hg : v.gone = true := Classical.byContradiction (fun h => c8 (fun h2 => absurd h2 h))
    have hv : 0 < v.value.size := by
      apply Classical.byContradiction
      intro h; exact c8 (fun _ => by omega)
    refine calls_z25z (walk0 300 trivial (fun A eA => ?_))
    simp (disch := first | omega | (simp only [avs_len, zz1, zz2, zz3, zz4, zz5, zz6]; omega) | (simp only [cells, scal1, allSz, zz1, zz3, zz2, zz6, zz7, zz8, avs_len, zz9, zz10, zz11, zz12, zz13, reduceCtorEq, *]; done) | fail) only [c_z25z, go_sem, eA, scal1, List.all_cons, List.all_nil, Bool.and_self, hg]
    exact doneG rfl
end Go.Proofs.Ytmokhopjnjecbac
/- The walk through versions, on: alike, copied. -/
-- short
-- fuel 300
namespace Go.Proofs.Ytmokhopjnjecbac
open Go.Ev
set_option linter.unusedVariables false
set_option linter.unusedSimpArgs false
set_option maxRecDepth 100000
set_option maxHeartbeats 3200000
variable {R : List AV → Heap → Ctr → Prop} {k : List It} {H : Heap} {nx : Ctr} {φ : Nat}

/-- Is it so? -/
noncomputable def cdec (p : Prop) : Bool := @decide p (Classical.propDecidable _)
theorem cdec_t {p : Prop} (h : p) : cdec p = true := by simp [cdec, h]
theorem cdec_f {p : Prop} (h : ¬ p) : cdec p = false := by simp [cdec, h]
/-- Alike but for the event? -/
noncomputable def vhead (a b : Ver) : Bool := cdec (a.client = b.client ∧ a.token = b.token ∧ a.key = b.key ∧ a.value = b.value ∧ a.gone = b.gone)
theorem refVSame_calls (a b : Ver) (hs : a.event.size < 2 ^ 60) : PCalls Try.prog F_ref04_VSame [vv a, vv b] (.bool (vhead a b && xteq a.event b.event)) := by
  have c := xrefSame_calls a.event hs b.event
  generalize xteq a.event b.event = q at c ⊢
  have no : ¬ (a.client = b.client ∧ a.token = b.token ∧ a.key = b.key ∧ a.value = b.value ∧ a.gone = b.gone) → (vhead a b && q) = false := fun h => by simp only [vhead, cdec_f h, Bool.false_and]
  refine calls_ref04_VSame (walk0 300 trivial (fun A eA => ?_))
  by_cases h1 : a.client = b.client
  case neg =>
    rw [no (fun h => h1 h.1)]
    simp (disch := first | omega | (simp only [avs_len, zz1, zz2, zz3, zz4, zz5, zz6]; omega) | (simp only [cells, scal1, allSz, zz1, zz3, zz2, zz6, zz7, zz8, avs_len, zz9, zz10, zz11, zz12, zz13, reduceCtorEq, *]; done) | fail) only [c_ref04_VSame, go_sem, eA, scal1, List.all_cons, List.all_nil, Bool.and_self]
    exact doneG rfl
  by_cases h2 : a.token = b.token
  case neg =>
    rw [no (fun h => h2 h.2.1)]
    simp (disch := first | omega | (simp only [avs_len, zz1, zz2, zz3, zz4, zz5, zz6]; omega) | (simp only [cells, scal1, allSz, zz1, zz3, zz2, zz6, zz7, zz8, avs_len, zz9, zz10, zz11, zz12, zz13, reduceCtorEq, *]; done) | fail) only [c_ref04_VSame, go_sem, eA, scal1, List.all_cons, List.all_nil, Bool.and_self]
    exact doneG rfl
  by_cases h3 : a.key = b.key
  case neg =>
    have e3 := str_beq_false h3
    rw [no (fun h => h3 h.2.2.1)]
    simp (disch := first | omega | (simp only [avs_len, zz1, zz2, zz3, zz4, zz5, zz6]; omega) | (simp only [cells, scal1, allSz, zz1, zz3, zz2, zz6, zz7, zz8, avs_len, zz9, zz10, zz11, zz12, zz13, reduceCtorEq, *]; done) | fail) only [c_ref04_VSame, go_sem, eA, scal1, List.all_cons, List.all_nil, Bool.and_self, e3]
    exact doneG rfl
  have e3 := str_beq_true h3
  by_cases h4 : a.value = b.value
  case neg =>
    have e4 := str_beq_false h4
    rw [no (fun h => h4 h.2.2.2.1)]
    simp (disch := first | omega | (simp only [avs_len, zz1, zz2, zz3, zz4, zz5, zz6]; omega) | (simp only [cells, scal1, allSz, zz1, zz3, zz2, zz6, zz7, zz8, avs_len, zz9, zz10, zz11, zz12, zz13, reduceCtorEq, *]; done) | fail) only [c_ref04_VSame, go_sem, eA, scal1, List.all_cons, List.all_nil, Bool.and_self, e3, e4]
    exact doneG rfl
  have e4 := str_beq_true h4
  by_cases h5 : a.gone = b.gone
  case neg =>
    have e5 : (a.gone == b.gone) = false := by simpa using h5
    rw [no (fun h => h5 h.2.2.2.2)]
    simp (disch := first | omega | (simp only [avs_len, zz1, zz2, zz3, zz4, zz5, zz6]; omega) | (simp only [cells, scal1, allSz, zz1, zz3, zz2, zz6, zz7, zz8, avs_len, zz9, zz10, zz11, zz12, zz13, reduceCtorEq, *]; done) | fail) only [c_ref04_VSame, go_sem, eA, scal1, List.all_cons, List.all_nil, Bool.and_self, e3, e4, e5]
    exact doneG rfl
  have e5 : (a.gone == b.gone) = true := by simpa using h5
  rw [show vhead a b = true from cdec_t ⟨h1, h2, h3, h4, h5⟩, Bool.true_and]
  simp (disch := first | omega | (simp only [avs_len, zz1, zz2, zz3, zz4, zz5, zz6]; omega) | (simp only [cells, scal1, allSz, zz1, zz3, zz2, zz6, zz7, zz8, avs_len, zz9, zz10, zz11, zz12, zz13, reduceCtorEq, *]; done) | fail) only [c_ref04_VSame, go_sem, eA, scal1, List.all_cons, List.all_nil, Bool.and_self, e3, e4, e5]
  repeat ((first | refine call0 300 trivial trivial (by first | exact c) (by first | exact .inl rfl | exact .inr rfl) (fun A eA => ?_) | refine call1 300 trivial trivial (by first | exact c) (fun A eA => ?_)); simp (disch := first | omega | (simp only [avs_len, zz1, zz2, zz3, zz4, zz5, zz6]; omega) | (simp only [cells, scal1, allSz, zz1, zz3, zz2, zz6, zz7, zz8, avs_len, zz9, zz10, zz11, zz12, zz13, reduceCtorEq, *]; done) | fail) only [c_ref04_VSame, go_sem, eA, scal1, List.all_cons, List.all_nil, Bool.and_self])
  exact doneG rfl
theorem xcloneT_rt {t : ET} (h : XRt t) : xcloneT t = t := by
  obtain ⟨x, rfl, h1, _⟩ := h
  simp [xcloneT, xflatb_true.2 ((xflat_dep 8 x).2 h1)]
theorem vClone_calls (v : Ver) (h : XRt v.event) : PCalls Try.prog F_version_Clone [vv v] (vv v) := by
  have c := xClone_calls v.event (by have := xrt_size h; omega)
  rw [xcloneT_rt h] at c
  refine calls_version_Clone (walk0 300 trivial (fun A eA => ?_))
  simp (disch := first | omega | (simp only [avs_len, zz1, zz2, zz3, zz4, zz5, zz6]; omega) | (simp only [cells, scal1, allSz, zz1, zz3, zz2, zz6, zz7, zz8, avs_len, zz9, zz10, zz11, zz12, zz13, reduceCtorEq, *]; done) | fail) only [c_version_Clone, go_sem, eA, scal1, List.all_cons, List.all_nil, Bool.and_self]
  repeat ((first | refine call0 300 trivial trivial (by first | exact c) (by first | exact .inl rfl | exact .inr rfl) (fun A eA => ?_) | refine call1 300 trivial trivial (by first | exact c) (fun A eA => ?_)); simp (disch := first | omega | (simp only [avs_len, zz1, zz2, zz3, zz4, zz5, zz6]; omega) | (simp only [cells, scal1, allSz, zz1, zz3, zz2, zz6, zz7, zz8, avs_len, zz9, zz10, zz11, zz12, zz13, reduceCtorEq, *]; done) | fail) only [c_version_Clone, go_sem, eA, scal1, List.all_cons, List.all_nil, Bool.and_self])
  exact doneG rfl
end Go.Proofs.Ytmokhopjnjecbac
