/- The functions' bodies, compiled; printed by a program of mine (gen.py); that they are is checked here. -/
import Derived.Test.YtmokhopjnjecbacM4
import Derived.Test.YtmokhopjnjecbacRows
import Derived.Eval
import Derived.KernelRfl
import Derived.Sort.AssemblyPlain
namespace Go.Proofs.Ytmokhopjnjecbac
open Go.Ev
set_option maxRecDepth 100000

/-- pedlar/pedlarref04.One: parameters [78], results [.t 2], calls ref04_VRight -/
def wl_ref04_One_0 : Mk := ⟨[false, true, true, true, true, false, false, true, true, true, true, true, true, true, true, true, true, true, true, true, true, true, true, true, true, true, true, true], []⟩
abbrev s_ref04_One_0 (t0 t5 t6 : AV) : List AV := [t0, .any, .any, .any, .any, t5, t6, .any, .any, .any, .any, .any, .any, .any, .any, .any, .any, .any, .any, .any, .any, .any, .any, .any, .any, .any, .any, .any]
def c_ref04_One_l0 : Cd := (.seq (.reg [⟨some 7, none, (.bin .lss), [.t 6, .t 5]⟩]) (.seq (.cond (.t 7) .skip (.exit 0)) (.seq (.blk 1 [] (.seq (.reg [⟨some 8, none, .mv, [.t 6]⟩, ⟨some 3, none, .mv, [.t 8]⟩]) (.seq (.reg [⟨some 9, none, .mv, [.t 0]⟩, ⟨some 10, none, .mv, [.t 3]⟩, ⟨some 11, none, (.ixS 7), [.t 9, .t 10]⟩, ⟨some 12, none, (.ldn 7), [.t 11]⟩, ⟨some 13, none, (.call F_z25z 0), [.t 12]⟩, ⟨some 14, none, .not, [.t 13]⟩, ⟨some 15, none, .mv, [.t 14]⟩, ⟨some 16, (some (15, false)), .mv, [.t 0]⟩, ⟨some 17, (some (15, false)), .mv, [.t 3]⟩, ⟨some 18, (some (15, false)), (.ixS 7), [.t 16, .t 17]⟩, ⟨some 19, (some (15, false)), (.fa 2), [.t 18]⟩, ⟨some 20, (some (15, false)), .ld1, [.t 19]⟩, ⟨some 21, (some (15, false)), .mv, [.t 0]⟩, ⟨some 22, (some (15, false)), (.ixS 7), [.t 21, .c (.int .i64 0)]⟩, ⟨some 23, (some (15, false)), (.fa 2), [.t 22]⟩, ⟨some 24, (some (15, false)), .ld1, [.t 23]⟩, ⟨some 25, (some (15, false)), (.bin .neq), [.t 20, .t 24]⟩, ⟨some 26, none, .pick, [.t 15, .c (.bool true), .t 25]⟩]) (.cond (.t 26) (.seq (.reg [⟨some 2, none, .mv, [.c (.bool false)]⟩]) .ret) .skip)))) (.reg [⟨some 27, none, (.bin .add), [.t 6, .c (.int .i64 1)]⟩, ⟨some 6, none, .mv, [.t 27]⟩]))))
def wb_ref04_One_0 : List Bool := [true, true, true, true, true, true, true, true, true, true, true, true, true, true, true, true, true, true, true, true, true, true, true, true, true, true, true, true]
abbrev e_ref04_One_0 : List AV := [.any, .any, .any, .any, .any, .any, .any, .any, .any, .any, .any, .any, .any, .any, .any, .any, .any, .any, .any, .any, .any, .any, .any, .any, .any, .any, .any, .any]
abbrev i_ref04_One_0 : List It := [.lp wl_ref04_One_0 c_ref04_One_l0, .blk 0 wb_ref04_One_0]
def c_ref04_One_k0 : Cd := (.seq (.reg [⟨some 2, none, .mv, [.c (.bool true)]⟩]) .ret)
def c_ref04_One : Cd := (.seq (.reg [⟨some 2, none, .mv, [.c (.bool false)]⟩]) (.seq (.seq (.reg [⟨some 4, none, .mv, [.t 0]⟩, ⟨some 5, none, .len, [.t 4]⟩, ⟨some 6, none, .mv, [.c (.int .i64 0)]⟩]) (.blk 0 wb_ref04_One_0 (.loop wl_ref04_One_0 c_ref04_One_l0))) c_ref04_One_k0))
theorem comp_ref04_One : compF Try.prog (mset [] [] []) (cset [] [] []) (wset [(0, wl_ref04_One_0, wb_ref04_One_0)] []) Try.f45 = some c_ref04_One := by kernel_rfl
theorem ok_ref04_One : fnOk Try.prog F_ref04_One = true := by kernel_rfl
theorem calls_ref04_One {args : List AV} {r : AV} (h : RunsX Try.prog 0 (Gives [.t 2] r) [.c c_ref04_One] (args ++ List.replicate (28 - args.length) (.tup [])) [] zeroC) : PCalls Try.prog F_ref04_One args r :=
  pcallsF Try.checked.mixed Try.func45 ok_ref04_One comp_ref04_One rfl (rs := [.t 2]) (by kernel_rfl) h
theorem hcalls_ref04_One {args : List AV} {Hin Hout : Heap} {nx nx2 : Ctr} {r : AV} (φ : Nat) (ks : List (Nat × Nat)) (h : RunsX Try.prog φ (GivesH ks [.t 2] r Hout nx2) [.c c_ref04_One] (args ++ List.replicate (28 - args.length) (.tup [])) Hin nx) : HCalls Try.prog F_ref04_One args Hin nx r Hout nx2 :=
  hcallsF Try.checked.mixed Try.func45 ok_ref04_One comp_ref04_One rfl (rs := [.t 2]) (by kernel_rfl) φ ks h

/-- pedlar/pedlarref04.less: parameters [95, 95], results [.t 4], calls  -/
def c_ref04_less : Cd := (.seq (.reg [⟨some 2, none, .box, [.t 0]⟩, ⟨some 3, none, .box, [.t 1]⟩, ⟨some 4, none, .mv, [.c (.bool false)]⟩]) (.seq (.reg [⟨some 5, none, (.fa 0), [.t 2]⟩, ⟨some 6, none, .ld1, [.t 5]⟩, ⟨some 7, none, (.fa 0), [.t 3]⟩, ⟨some 8, none, .ld1, [.t 7]⟩, ⟨some 9, none, (.bin .lss), [.t 6, .t 8]⟩, ⟨some 10, none, .mv, [.t 9]⟩, ⟨some 11, (some (10, false)), (.fa 0), [.t 2]⟩, ⟨some 12, (some (10, false)), .ld1, [.t 11]⟩, ⟨some 13, (some (10, false)), (.fa 0), [.t 3]⟩, ⟨some 14, (some (10, false)), .ld1, [.t 13]⟩, ⟨some 15, (some (10, false)), (.bin .eql), [.t 12, .t 14]⟩, ⟨some 16, (some (10, false)), .mv, [.t 15]⟩, ⟨some 17, (some (16, true)), (.fa 1), [.t 2]⟩, ⟨some 18, (some (16, true)), .ld1, [.t 17]⟩, ⟨some 19, (some (16, true)), (.fa 1), [.t 3]⟩, ⟨some 20, (some (16, true)), .ld1, [.t 19]⟩, ⟨some 21, (some (16, true)), (.bin .lss), [.t 18, .t 20]⟩, ⟨some 22, (some (10, false)), .pick, [.t 16, .t 21, .c (.bool false)]⟩, ⟨some 23, none, .pick, [.t 10, .c (.bool true), .t 22]⟩, ⟨some 4, none, .mv, [.t 23]⟩]) .ret))
theorem comp_ref04_less : compF Try.prog (mset [] [] []) (cset [] [] []) (wset [] []) Try.f115 = some c_ref04_less := by kernel_rfl
theorem ok_ref04_less : fnOk Try.prog F_ref04_less = true := by kernel_rfl
theorem calls_ref04_less {args : List AV} {r : AV} (h : RunsX Try.prog 0 (Gives [.t 4] r) [.c c_ref04_less] (args ++ List.replicate (24 - args.length) (.tup [])) [] zeroC) : PCalls Try.prog F_ref04_less args r :=
  pcallsF Try.checked.mixed Try.func115 ok_ref04_less comp_ref04_less rfl (rs := [.t 4]) (by kernel_rfl) h
theorem hcalls_ref04_less {args : List AV} {Hin Hout : Heap} {nx nx2 : Ctr} {r : AV} (φ : Nat) (ks : List (Nat × Nat)) (h : RunsX Try.prog φ (GivesH ks [.t 4] r Hout nx2) [.c c_ref04_less] (args ++ List.replicate (24 - args.length) (.tup [])) Hin nx) : HCalls Try.prog F_ref04_less args Hin nx r Hout nx2 :=
  hcallsF Try.checked.mixed Try.func115 ok_ref04_less comp_ref04_less rfl (rs := [.t 4]) (by kernel_rfl) φ ks h

/-- pedlar/pedlarref04.Merge: parameters [78], results [.t 2], calls ref04_VBehind, ref04_less -/
def wl_z26z_2 : Mk := ⟨[false, true, true, false, false, false, true, true, true, false, false, true, true, true, false, false, true, true, true, true, true, true, true, true, true, true, true, true, true, true, true, true, true, true, true, true, true, true, true, true, true, true, true, true, true, true, true, true, true, true, true, true, true, true, true, true, true, true, true, true, true, true, true, true, true, true, true, true, true, true, true, true, true, true, true, true, true, true, true, true, true, true, true, true, true, true], []⟩
abbrev s_z26z_2 (t0 t3 t4 t5 t9 t10 t14 t15 : AV) : List AV := [t0, .any, .any, t3, t4, t5, .any, .any, .any, t9, t10, .any, .any, .any, t14, t15, .any, .any, .any, .any, .any, .any, .any, .any, .any, .any, .any, .any, .any, .any, .any, .any, .any, .any, .any, .any, .any, .any, .any, .any, .any, .any, .any, .any, .any, .any, .any, .any, .any, .any, .any, .any, .any, .any, .any, .any, .any, .any, .any, .any, .any, .any, .any, .any, .any, .any, .any, .any, .any, .any, .any, .any, .any, .any, .any, .any, .any, .any, .any, .any, .any, .any, .any, .any, .any, .any]
def c_z26z_l2 : Cd := (.seq (.reg [⟨some 16, none, (.bin .lss), [.t 15, .t 14]⟩]) (.seq (.cond (.t 16) .skip (.exit 2)) (.seq (.blk 3 [] (.seq (.reg [⟨some 17, none, .mv, [.t 15]⟩, ⟨some 6, none, .mv, [.t 17]⟩]) (.reg [⟨some 18, none, .mv, [.t 5]⟩, ⟨some 19, none, .mv, [.t 18]⟩, ⟨some 20, (some (19, true)), .mv, [.t 0]⟩, ⟨some 21, (some (19, true)), .mv, [.t 6]⟩, ⟨some 22, (some (19, true)), (.ixS 7), [.t 20, .t 21]⟩, ⟨some 23, (some (19, true)), (.ldn 7), [.t 22]⟩, ⟨some 24, (some (19, true)), .mv, [.t 0]⟩, ⟨some 25, (some (19, true)), .mv, [.t 4]⟩, ⟨some 26, (some (19, true)), (.ixS 7), [.t 24, .t 25]⟩, ⟨some 27, (some (19, true)), (.ldn 7), [.t 26]⟩, ⟨some 28, (some (19, true)), (.call F_ref04_VBehind 0), [.t 23, .t 27]⟩, ⟨some 29, (some (19, true)), .not, [.t 28]⟩, ⟨some 30, none, .pick, [.t 19, .t 29, .c (.bool false)]⟩, ⟨some 5, none, .mv, [.t 30]⟩]))) (.reg [⟨some 31, none, (.bin .add), [.t 15, .c (.int .i64 1)]⟩, ⟨some 15, none, .mv, [.t 31]⟩]))))
def wb_z26z_2 : List Bool := [false, true, true, false, false, false, true, true, true, false, false, true, true, true, true, true, true, true, true, true, true, true, true, true, true, true, true, true, true, true, true, true, true, true, true, true, true, true, true, true, true, true, true, true, true, true, true, true, true, true, true, true, true, true, true, true, true, true, true, true, true, true, true, true, true, true, true, true, true, true, true, true, true, true, true, true, true, true, true, true, true, true, true, true, true, true]
abbrev e_z26z_2 (t0 t3 t4 t5 t9 t10 : AV) : List AV := [t0, .any, .any, t3, t4, t5, .any, .any, .any, t9, t10, .any, .any, .any, .any, .any, .any, .any, .any, .any, .any, .any, .any, .any, .any, .any, .any, .any, .any, .any, .any, .any, .any, .any, .any, .any, .any, .any, .any, .any, .any, .any, .any, .any, .any, .any, .any, .any, .any, .any, .any, .any, .any, .any, .any, .any, .any, .any, .any, .any, .any, .any, .any, .any, .any, .any, .any, .any, .any, .any, .any, .any, .any, .any, .any, .any, .any, .any, .any, .any, .any, .any, .any, .any, .any, .any]
abbrev i_z26z_2 : List It := [.lp wl_z26z_2 c_z26z_l2, .blk 2 wb_z26z_2]
def wl_z26z_4 : Mk := ⟨[false, true, true, false, false, false, true, false, true, false, false, true, true, true, true, true, true, true, true, true, true, true, true, true, true, true, true, true, true, true, true, true, true, true, true, true, true, true, true, true, true, true, true, true, true, true, true, true, true, true, true, true, true, true, true, true, true, true, true, true, true, true, true, true, true, true, true, true, true, true, true, true, true, true, true, true, true, true, true, true, true, true, true, true, true, true], []⟩
abbrev s_z26z_4 (t0 t3 t4 t5 t7 t9 t10 : AV) : List AV := [t0, .any, .any, t3, t4, t5, .any, t7, .any, t9, t10, .any, .any, .any, .any, .any, .any, .any, .any, .any, .any, .any, .any, .any, .any, .any, .any, .any, .any, .any, .any, .any, .any, .any, .any, .any, .any, .any, .any, .any, .any, .any, .any, .any, .any, .any, .any, .any, .any, .any, .any, .any, .any, .any, .any, .any, .any, .any, .any, .any, .any, .any, .any, .any, .any, .any, .any, .any, .any, .any, .any, .any, .any, .any, .any, .any, .any, .any, .any, .any, .any, .any, .any, .any, .any, .any]
def c_z26z_l4 : Cd := (.seq (.seq (.reg [⟨some 32, none, .mv, [.t 7]⟩, ⟨some 33, none, .mv, [.t 3]⟩, ⟨some 34, none, .len, [.t 33]⟩, ⟨some 35, none, (.bin .lss), [.t 32, .t 34]⟩, ⟨some 36, none, .mv, [.t 35]⟩, ⟨some 37, (some (36, true)), .mv, [.t 3]⟩, ⟨some 38, (some (36, true)), .mv, [.t 7]⟩, ⟨some 39, (some (36, true)), (.ixS 7), [.t 37, .t 38]⟩, ⟨some 40, (some (36, true)), (.ldn 7), [.t 39]⟩, ⟨some 41, (some (36, true)), .mv, [.t 0]⟩, ⟨some 42, (some (36, true)), .mv, [.t 4]⟩, ⟨some 43, (some (36, true)), (.ixS 7), [.t 41, .t 42]⟩, ⟨some 44, (some (36, true)), (.ldn 7), [.t 43]⟩, ⟨some 45, (some (36, true)), (.call F_ref04_less 0), [.t 40, .t 44]⟩, ⟨some 46, none, .pick, [.t 36, .t 45, .c (.bool false)]⟩]) (.cond (.t 46) .skip (.exit 4))) (.blk 5 [] (.reg [⟨some 47, none, .mv, [.t 7]⟩, ⟨some 48, none, (.bin .add), [.t 47, .c (.int .i64 1)]⟩, ⟨some 7, none, .mv, [.t 48]⟩])))
def wb_z26z_4 : List Bool := [false, true, true, false, false, false, true, false, true, false, false, true, true, true, true, true, true, true, true, true, true, true, true, true, true, true, true, true, true, true, true, true, true, true, true, true, true, true, true, true, true, true, true, true, true, true, true, true, true, true, true, true, true, true, true, true, true, true, true, true, true, true, true, true, true, true, true, true, true, true, true, true, true, true, true, true, true, true, true, true, true, true, true, true, true, true]
abbrev e_z26z_4 (t0 t3 t4 t5 t7 t9 t10 : AV) : List AV := [t0, .any, .any, t3, t4, t5, .any, t7, .any, t9, t10, .any, .any, .any, .any, .any, .any, .any, .any, .any, .any, .any, .any, .any, .any, .any, .any, .any, .any, .any, .any, .any, .any, .any, .any, .any, .any, .any, .any, .any, .any, .any, .any, .any, .any, .any, .any, .any, .any, .any, .any, .any, .any, .any, .any, .any, .any, .any, .any, .any, .any, .any, .any, .any, .any, .any, .any, .any, .any, .any, .any, .any, .any, .any, .any, .any, .any, .any, .any, .any, .any, .any, .any, .any, .any, .any]
abbrev i_z26z_4 : List It := [.lp wl_z26z_4 c_z26z_l4, .blk 4 wb_z26z_4]
def c_z26z_k0 : Cd := (.seq (.seq (.reg [⟨some 49, none, .mv, [.t 5]⟩, ⟨some 50, none, .not, [.t 49]⟩, ⟨some 51, none, .mv, [.t 50]⟩, ⟨some 52, (some (51, false)), .mv, [.t 7]⟩, ⟨some 53, (some (51, false)), .mv, [.t 3]⟩, ⟨some 54, (some (51, false)), .len, [.t 53]⟩, ⟨some 55, (some (51, false)), (.bin .lss), [.t 52, .t 54]⟩, ⟨some 56, (some (51, false)), .mv, [.t 55]⟩, ⟨some 57, (some (56, true)), .mv, [.t 0]⟩, ⟨some 58, (some (56, true)), .mv, [.t 4]⟩, ⟨some 59, (some (56, true)), (.ixS 7), [.t 57, .t 58]⟩, ⟨some 60, (some (56, true)), (.ldn 7), [.t 59]⟩, ⟨some 61, (some (56, true)), .mv, [.t 3]⟩, ⟨some 62, (some (56, true)), .mv, [.t 7]⟩, ⟨some 63, (some (56, true)), (.ixS 7), [.t 61, .t 62]⟩, ⟨some 64, (some (56, true)), (.ldn 7), [.t 63]⟩, ⟨some 65, (some (56, true)), (.call F_ref04_less 0), [.t 60, .t 64]⟩, ⟨some 66, (some (56, true)), .not, [.t 65]⟩, ⟨some 67, (some (51, false)), .pick, [.t 56, .t 66, .c (.bool false)]⟩, ⟨some 68, none, .pick, [.t 51, .c (.bool true), .t 67]⟩]) (.cond (.t 68) (.exit 1) .skip)) (.regf [⟨some 69, none, (.litr 7 0), []⟩, ⟨some 70, none, .mv, [.t 3]⟩, ⟨some 71, none, .mv, [.t 7]⟩, ⟨some 72, none, (.slc 7 false true false), [.t 70, .t 71]⟩, ⟨some 73, none, (.app 7 88 73), [.t 69, .t 72]⟩, ⟨some 74, none, .mv, [.t 0]⟩, ⟨some 75, none, .mv, [.t 4]⟩, ⟨some 76, none, (.ixS 7), [.t 74, .t 75]⟩, ⟨some 77, none, (.ldnr 7), [.t 76]⟩, ⟨some 78, none, (.litr 7 1), [.t 77]⟩, ⟨some 79, none, (.app 7 88 79), [.t 73, .t 78]⟩, ⟨some 80, none, .mv, [.t 3]⟩, ⟨some 81, none, .mv, [.t 7]⟩, ⟨some 82, none, (.slc 7 true false false), [.t 80, .t 81]⟩, ⟨some 83, none, (.app 7 88 83), [.t 79, .t 82]⟩, ⟨some 3, none, .mv, [.t 83]⟩] [3]))
def c_z26z_k1 : Cd := (.seq (.reg [⟨some 7, none, .mv, [.c (.int .i64 0)]⟩]) (.seq (.blk 4 wb_z26z_4 (.loop wl_z26z_4 c_z26z_l4)) c_z26z_k0))
def wb_z26z_1 : List Bool := [false, true, true, false, true, true, true, true, true, false, false, true, true, true, true, true, true, true, true, true, true, true, true, true, true, true, true, true, true, true, true, true, true, true, true, true, true, true, true, true, true, true, true, true, true, true, true, true, true, true, true, true, true, true, true, true, true, true, true, true, true, true, true, true, true, true, true, true, true, true, true, true, true, true, true, true, true, true, true, true, true, true, true, true, true, true]
abbrev e_z26z_1 (t0 t3 t9 t10 : AV) : List AV := [t0, .any, .any, t3, .any, .any, .any, .any, .any, t9, t10, .any, .any, .any, .any, .any, .any, .any, .any, .any, .any, .any, .any, .any, .any, .any, .any, .any, .any, .any, .any, .any, .any, .any, .any, .any, .any, .any, .any, .any, .any, .any, .any, .any, .any, .any, .any, .any, .any, .any, .any, .any, .any, .any, .any, .any, .any, .any, .any, .any, .any, .any, .any, .any, .any, .any, .any, .any, .any, .any, .any, .any, .any, .any, .any, .any, .any, .any, .any, .any, .any, .any, .any, .any, .any, .any]
def c_z26z_k2 : Cd := (.reg [⟨some 84, none, (.bin .add), [.t 10, .c (.int .i64 1)]⟩, ⟨some 10, none, .mv, [.t 84]⟩])
def wl_z26z_0 : Mk := ⟨[false, true, true, false, true, true, true, true, true, false, false, true, true, true, true, true, true, true, true, true, true, true, true, true, true, true, true, true, true, true, true, true, true, true, true, true, true, true, true, true, true, true, true, true, true, true, true, true, true, true, true, true, true, true, true, true, true, true, true, true, true, true, true, true, true, true, true, true, true, true, true, true, true, true, true, true, true, true, true, true, true, true, true, true, true, true], []⟩
abbrev s_z26z_0 (t0 t3 t9 t10 : AV) : List AV := [t0, .any, .any, t3, .any, .any, .any, .any, .any, t9, t10, .any, .any, .any, .any, .any, .any, .any, .any, .any, .any, .any, .any, .any, .any, .any, .any, .any, .any, .any, .any, .any, .any, .any, .any, .any, .any, .any, .any, .any, .any, .any, .any, .any, .any, .any, .any, .any, .any, .any, .any, .any, .any, .any, .any, .any, .any, .any, .any, .any, .any, .any, .any, .any, .any, .any, .any, .any, .any, .any, .any, .any, .any, .any, .any, .any, .any, .any, .any, .any, .any, .any, .any, .any, .any, .any]
def c_z26z_l0 : Cd := (.seq (.reg [⟨some 11, none, (.bin .lss), [.t 10, .t 9]⟩]) (.seq (.cond (.t 11) .skip (.exit 0)) (.seq (.blk 1 wb_z26z_1 (.seq (.reg [⟨some 12, none, .mv, [.t 10]⟩, ⟨some 4, none, .mv, [.t 12]⟩]) (.seq (.reg [⟨some 5, none, .mv, [.c (.bool true)]⟩]) (.seq (.seq (.reg [⟨some 13, none, .mv, [.t 0]⟩, ⟨some 14, none, .len, [.t 13]⟩, ⟨some 15, none, .mv, [.c (.int .i64 0)]⟩]) (.blk 2 wb_z26z_2 (.loop wl_z26z_2 c_z26z_l2))) c_z26z_k1)))) c_z26z_k2)))
def wb_z26z_0 : List Bool := [true, true, true, false, true, true, true, true, true, true, true, true, true, true, true, true, true, true, true, true, true, true, true, true, true, true, true, true, true, true, true, true, true, true, true, true, true, true, true, true, true, true, true, true, true, true, true, true, true, true, true, true, true, true, true, true, true, true, true, true, true, true, true, true, true, true, true, true, true, true, true, true, true, true, true, true, true, true, true, true, true, true, true, true, true, true]
abbrev e_z26z_0 (t3 : AV) : List AV := [.any, .any, .any, t3, .any, .any, .any, .any, .any, .any, .any, .any, .any, .any, .any, .any, .any, .any, .any, .any, .any, .any, .any, .any, .any, .any, .any, .any, .any, .any, .any, .any, .any, .any, .any, .any, .any, .any, .any, .any, .any, .any, .any, .any, .any, .any, .any, .any, .any, .any, .any, .any, .any, .any, .any, .any, .any, .any, .any, .any, .any, .any, .any, .any, .any, .any, .any, .any, .any, .any, .any, .any, .any, .any, .any, .any, .any, .any, .any, .any, .any, .any, .any, .any, .any, .any]
abbrev i_z26z_0 : List It := [.lp wl_z26z_0 c_z26z_l0, .blk 0 wb_z26z_0]
def c_z26z_k3 : Cd := (.seq (.reg [⟨some 85, none, .mv, [.t 3]⟩, ⟨some 2, none, .mv, [.t 85]⟩]) .ret)
def c_z26z : Cd := (.seq (.reg [⟨some 2, none, .mv, [.c .nils]⟩]) (.seq (.regf [⟨some 3, none, .mv, [.c .nils]⟩] [3]) (.seq (.seq (.reg [⟨some 8, none, .mv, [.t 0]⟩, ⟨some 9, none, .len, [.t 8]⟩, ⟨some 10, none, .mv, [.c (.int .i64 0)]⟩]) (.blk 0 wb_z26z_0 (.loop wl_z26z_0 c_z26z_l0))) c_z26z_k3)))
theorem comp_z26z : compF Try.prog (mset [] [69, 77, 78] []) (cset [] [] []) (wset [(2, wl_z26z_2, wb_z26z_2), (4, wl_z26z_4, wb_z26z_4), (1, ⟨[], []⟩, wb_z26z_1), (0, wl_z26z_0, wb_z26z_0)] [3]) Try.f47 = some c_z26z := by kernel_rfl
theorem ok_z26z : fnOk Try.prog F_z26z = true := by kernel_rfl
theorem calls_z26z {args : List AV} {r : AV} (h : RunsX Try.prog 0 (Gives [.t 2] r) [.c c_z26z] (args ++ List.replicate (86 - args.length) (.tup [])) [] zeroC) : PCalls Try.prog F_z26z args r :=
  pcallsF Try.checked.mixed Try.func47 ok_z26z comp_z26z rfl (rs := [.t 2]) (by kernel_rfl) h
theorem hcalls_z26z {args : List AV} {Hin Hout : Heap} {nx nx2 : Ctr} {r : AV} (φ : Nat) (ks : List (Nat × Nat)) (h : RunsX Try.prog φ (GivesH ks [.t 2] r Hout nx2) [.c c_z26z] (args ++ List.replicate (86 - args.length) (.tup [])) Hin nx) : HCalls Try.prog F_z26z args Hin nx r Hout nx2 :=
  hcallsF Try.checked.mixed Try.func47 ok_z26z comp_z26z rfl (rs := [.t 2]) (by kernel_rfl) φ ks h

/-- pedlar/pedlarref12.Siblings: parameters [78], results [.t 2], calls ref04_One, ref04_Merge, ref04_VSameAll -/
def c_ref12_Siblings : Cd := (.seq (.reg [⟨some 2, none, .mv, [.c (.bool false)]⟩]) (.seq (.reg [⟨some 3, none, .mv, [.t 0]⟩, ⟨some 4, none, (.call F_ref04_One 0), [.t 3]⟩, ⟨some 5, none, .mv, [.t 4]⟩, ⟨some 6, (some (5, true)), .mv, [.t 0]⟩, ⟨some 7, (some (5, true)), .len, [.t 6]⟩, ⟨some 8, (some (5, true)), (.bin .lss), [.t 7, .c (.int .i64 17)]⟩, ⟨some 9, none, .pick, [.t 5, .t 8, .c (.bool false)]⟩, ⟨some 10, none, .mv, [.t 9]⟩, ⟨some 11, (some (10, true)), .mv, [.t 0]⟩, ⟨some 12, (some (10, true)), (.call F_z26z 0), [.t 11]⟩, ⟨some 13, (some (10, true)), .mv, [.t 0]⟩, ⟨some 14, (some (10, true)), (.call F_z21z 0), [.t 12, .t 13]⟩, ⟨some 15, none, .pick, [.t 10, .t 14, .c (.bool false)]⟩, ⟨some 2, none, .mv, [.t 15]⟩]) .ret))
theorem comp_ref12_Siblings : compF Try.prog (mset [] [] []) (cset [] [] []) (wset [] []) Try.f49 = some c_ref12_Siblings := by kernel_rfl
theorem ok_ref12_Siblings : fnOk Try.prog F_ref12_Siblings = true := by kernel_rfl
theorem calls_ref12_Siblings {args : List AV} {r : AV} (h : RunsX Try.prog 0 (Gives [.t 2] r) [.c c_ref12_Siblings] (args ++ List.replicate (16 - args.length) (.tup [])) [] zeroC) : PCalls Try.prog F_ref12_Siblings args r :=
  pcallsF Try.checked.mixed Try.func49 ok_ref12_Siblings comp_ref12_Siblings rfl (rs := [.t 2]) (by kernel_rfl) h
theorem hcalls_ref12_Siblings {args : List AV} {Hin Hout : Heap} {nx nx2 : Ctr} {r : AV} (φ : Nat) (ks : List (Nat × Nat)) (h : RunsX Try.prog φ (GivesH ks [.t 2] r Hout nx2) [.c c_ref12_Siblings] (args ++ List.replicate (16 - args.length) (.tup [])) Hin nx) : HCalls Try.prog F_ref12_Siblings args Hin nx r Hout nx2 :=
  hcallsF Try.checked.mixed Try.func49 ok_ref12_Siblings comp_ref12_Siblings rfl (rs := [.t 2]) (by kernel_rfl) φ ks h

def tab_CdMergeR : List (Nat × Cd × Nat × List RS) := [(F_ref04_One, c_ref04_One, 28, [.t 2]), (F_ref04_less, c_ref04_less, 24, [.t 4]), (F_z26z, c_z26z, 86, [.t 2]), (F_ref12_Siblings, c_ref12_Siblings, 16, [.t 2])]
theorem tok_CdMergeR : TabOk Try.prog (tabOf tab_CdMergeR) := tab_cons calls_ref04_One hcalls_ref04_One (tab_cons calls_ref04_less hcalls_ref04_less (tab_cons calls_z26z hcalls_z26z (tab_cons calls_ref12_Siblings hcalls_ref12_Siblings (tab_nil))))
end Go.Proofs.Ytmokhopjnjecbac
/- The cells of versions, one behind the other. -/
-- short
namespace Go.Proofs.Ytmokhopjnjecbac
open Go.Ev
set_option linter.unusedVariables false
set_option linter.unusedSimpArgs false
/-- The cells of versions, one behind the other. -/
def qcat : List Ver → List AV
  | [] => []
  | v :: l => vcs v ++ qcat l
theorem qcat_cat : ∀ l : List Ver, catCells (l.map vv) = qcat l
  | [] => rfl
  | v :: l => by simp only [List.map_cons, catCells, cells, qcat, qcat_cat l]
theorem qcat_len : ∀ l : List Ver, (qcat l).length = l.length * 7
  | [] => rfl
  | v :: l => by simp only [qcat, List.length_append, qcat_len l, List.length_cons, List.length_nil]; omega
theorem qcat_app : ∀ a b : List Ver, qcat (a ++ b) = qcat a ++ qcat b
  | [], b => rfl
  | v :: a, b => by simp only [List.cons_append, qcat, qcat_app a b, List.append_assoc]
theorem frz_qcat {α : Type} (n : Nat) (H : Heap) : ∀ (l : List Ver) (ok : List AV → List (Nat × Nat) → α) (bd : α), mapK (frzK (n + 1) H) (qcat l) ok bd = ok (qcat l) []
  | [], ok, bd => rfl
  | v :: l, ok, bd => by
    simp only [qcat, List.cons_append, List.nil_append, mapK, frzK_int, frzK_str, frzK_bool, frzK_fz]
    rw [frz_qcat n H l]
theorem chunk_qcat (l : List Ver) : chunk 7 l.length (qcat l) = l.map vv := by
  have : ∀ l : List Ver, chunkN 7 l.length (qcat l) = l.map vv := by
    intro l
    induction l with
    | nil => rfl
    | cons v l ih => simp only [List.length_cons, qcat, chunkN, List.cons_append, List.nil_append, List.take_succ_cons, List.take_zero, List.drop_succ_cons, List.drop_zero, ih, List.map_cons]
  simp only [chunk]
  rw [if_neg (by omega)]
  exact this l
theorem qcat_take (l : List Ver) : (qcat l).take (l.length * 7) = qcat l := List.take_of_length_le (by rw [qcat_len]; omega)
abbrev qv (l : List Ver) : AV := .fz 7 (l.map vv) none
theorem qcat_free (H : Heap) : ∀ l : List Ver, (qcat l).all (nameFree 9 H) = true
  | [] => rfl
  | v :: l => by
    simp only [qcat, List.all_append, qcat_free H l, Bool.and_true]
    rfl
end Go.Proofs.Ytmokhopjnjecbac
/- Rows of counts, and the shortest event tree of a row: plain. -/
namespace Go.Ev
set_option linter.unusedVariables false
set_option linter.unnecessarySimpa false
set_option linter.unusedSimpArgs false

def rowE : Nat → E → List Nat
  | d, .lf n => List.replicate (2 ^ d) n
  | 0, .nd n _ _ => [n]
  | d + 1, .nd n l r => (rowE d l ++ rowE d r).map (n + ·)
theorem rowE_lf (d n : Nat) : rowE d (.lf n) = List.replicate (2 ^ d) n := by cases d <;> rfl
theorem rowE_len : ∀ (d : Nat) (e : E), (rowE d e).length = 2 ^ d
  | d, .lf n => by rw [rowE_lf]; simp
  | 0, .nd n l r => by simp [rowE]
  | d + 1, .nd n l r => by simp only [rowE, List.length_map, List.length_append, rowE_len, Nat.pow_succ]; omega
def E.lift (m : Nat) : E → E
  | .lf n => .lf (n + m)
  | .nd n l r => .nd (n + m) l r
def E.sub (m : Nat) : E → E
  | .lf n => .lf (n - m)
  | .nd n l r => .nd (n - m) l r
def E.half (k : Bool) : E → E
  | .lf n => .lf n
  | .nd n l r => if k then r.lift n else l.lift n
theorem E.lift_n (e : E) (m : Nat) : (e.lift m).n = e.n + m := by cases e <;> rfl
theorem E.sub_n (e : E) (m : Nat) : (e.sub m).n = e.n - m := by cases e <;> rfl
theorem E.lift_leaf (e : E) (m : Nat) : (e.lift m).leaf = e.leaf := by cases e <;> rfl
theorem E.sub_leaf (e : E) (m : Nat) : (e.sub m).leaf = e.leaf := by cases e <;> rfl
theorem E.lift_dep (e : E) (m : Nat) : (e.lift m).dep = e.dep := by cases e <;> rfl
theorem E.sub_dep (e : E) (m : Nat) : (e.sub m).dep = e.dep := by cases e <;> rfl
theorem E.lift_nodes (e : E) (m : Nat) : (e.lift m).nodes = e.nodes := by cases e <;> rfl
theorem E.sub_nodes (e : E) (m : Nat) : (e.sub m).nodes = e.nodes := by cases e <;> rfl
theorem E.lift_short (e : E) (m : Nat) : (e.lift m).short = e.short := by cases e <;> rfl
theorem E.sub_short (e : E) (m : Nat) : (e.sub m).short = e.short := by cases e <;> rfl
theorem E.sub_lift (e : E) (m : Nat) (h : m ≤ e.n) : (e.sub m).lift m = e := by
  cases e with
  | lf n => simp only [E.sub, E.lift]; congr 1; exact Nat.sub_add_cancel h
  | nd n l r => simp only [E.sub, E.lift]; congr 1; exact Nat.sub_add_cancel h
theorem E.lift_zero (e : E) : e.lift 0 = e := by cases e <;> rfl
theorem rowE_lift (d : Nat) (e : E) (m : Nat) : rowE d (e.lift m) = (rowE d e).map (m + ·) := by
  cases e with
  | lf n => simp only [E.lift, rowE_lf, List.map_replicate]; congr 1; omega
  | nd n l r =>
    cases d with
    | zero => simp only [E.lift, rowE, List.map_cons, List.map_nil]; congr 1; omega
    | succ d =>
      simp only [E.lift, rowE, List.map_map]
      congr 1; funext x; simp only [Function.comp]; omega
theorem rowE_split (d : Nat) (e : E) : rowE (d + 1) e = rowE d (e.half false) ++ rowE d (e.half true) := by
  cases e with
  | lf n =>
    simp only [E.half, rowE_lf]
    rw [List.replicate_append_replicate]
    congr 1
    rw [Nat.pow_succ]; omega
  | nd n l r => simp [E.half, rowE, rowE_lift]
theorem E.half_dep (e : E) (k : Bool) : (e.half k).dep ≤ max (e.dep - 1) 1 := by
  cases e with
  | lf n => simp [E.half, E.dep]
  | nd n l r =>
    have := l.dep_pos
    have := r.dep_pos
    cases k <;> simp [E.half, E.lift_dep, E.dep] <;> omega
theorem E.half_short (e : E) (k : Bool) (h : e.short = true) : (e.half k).short = true := by
  cases e with
  | lf n => simpa [E.half] using h
  | nd n l r =>
    simp only [E.short, Bool.and_eq_true] at h
    cases k <;> simp [E.half, E.lift_short, h.1.1.1, h.1.1.2]
/-- The greatest count. -/
def E.top : E → Nat
  | .lf n => n
  | .nd n l r => n + max l.top r.top
theorem E.top_n (e : E) : e.n ≤ e.top := by cases e <;> simp [E.n, E.top]
theorem E.lift_top (e : E) (m : Nat) : (e.lift m).top = e.top + m := by cases e <;> simp [E.lift, E.top]; omega
theorem E.half_top (e : E) (k : Bool) : (e.half k).top ≤ e.top := by
  cases e with
  | lf n => simp [E.half]
  | nd n l r => cases k <;> simp [E.half, E.lift_top, E.top] <;> omega
theorem E.top_small : ∀ {e : E}, e.small = true → e.top ≤ e.dep * 1099511627776
  | .lf n, h => by simp only [E.small, decide_eq_true_eq] at h; simp [E.top, E.dep]; omega
  | .nd n l r, h => by
    simp only [E.small, Bool.and_eq_true, decide_eq_true_eq] at h
    have a := E.top_small h.1.2
    have b := E.top_small h.2
    simp only [E.top, E.dep]
    have h1 : l.dep * 1099511627776 ≤ max l.dep r.dep * 1099511627776 := Nat.mul_le_mul_right _ (by omega)
    have h2 : r.dep * 1099511627776 ≤ max l.dep r.dep * 1099511627776 := Nat.mul_le_mul_right _ (by omega)
    rw [Nat.add_mul]
    omega
theorem rowE_top : ∀ (d : Nat) (e : E), ∀ x ∈ rowE d e, x ≤ e.top
  | d, .lf n, x, h => by rw [rowE_lf] at h; rw [List.eq_of_mem_replicate h]; simp [E.top]
  | 0, .nd n l r, x, h => by simp [rowE] at h; subst h; simp [E.top]
  | d + 1, .nd n l r, x, h => by
    simp only [rowE, List.mem_map, List.mem_append] at h
    obtain ⟨y, hy, rfl⟩ := h
    rcases hy with hy | hy
    · have := rowE_top d l y hy; simp only [E.top]; omega
    · have := rowE_top d r y hy; simp only [E.top]; omega

/-! ### comparing -/
def leqR : List Nat → List Nat → Bool
  | x :: xs, y :: ys => decide (x ≤ y) && leqR xs ys
  | _, _ => true
def eqR : List Nat → List Nat → Bool
  | x :: xs, y :: ys => decide (x = y) && eqR xs ys
  | _, _ => true
theorem leqR_append : ∀ (a b c d : List Nat), a.length = b.length → leqR (a ++ c) (b ++ d) = (leqR a b && leqR c d)
  | [], [], c, d, _ => by simp [leqR]
  | [], _ :: _, _, _, h => by simp at h
  | _ :: _, [], _, _, h => by simp at h
  | x :: a, y :: b, c, d, h => by simp only [List.cons_append, leqR, leqR_append a b c d (by simpa using h), Bool.and_assoc]
theorem leqR_replicate (m n : Nat) : ∀ k, 0 < k → leqR (List.replicate k m) (List.replicate k n) = decide (m ≤ n)
  | 1, _ => by simp [leqR]
  | k + 2, _ => by
    show leqR (m :: List.replicate (k + 1) m) (n :: List.replicate (k + 1) n) = _
    simp only [leqR]
    rw [leqR_replicate m n (k + 1) (by omega), Bool.and_self]
theorem eqR_true : ∀ {a b : List Nat}, a.length = b.length → (eqR a b = true ↔ a = b)
  | [], [], _ => by simp [eqR]
  | [], _ :: _, h => by simp at h
  | _ :: _, [], h => by simp at h
  | x :: a, y :: b, h => by simp only [eqR, Bool.and_eq_true, decide_eq_true_eq, eqR_true (show a.length = b.length by simpa using h), List.cons.injEq]

/-! ### joining -/
def nodeE (n : Nat) (l r : E) : E :=
  if l.leaf = true ∧ r.leaf = true ∧ l.n = r.n then .lf (n + min l.n r.n) else .nd (n + min l.n r.n) (l.sub (min l.n r.n)) (r.sub (min l.n r.n))
theorem E.leaf_lf {e : E} (h : e.leaf = true) : e = .lf e.n := by cases e <;> simp [E.leaf, E.n] at h ⊢
theorem rows_nodeE (d n : Nat) (l r : E) : rowE (d + 1) (nodeE n l r) = (rowE d l ++ rowE d r).map (n + ·) := by
  unfold nodeE
  split
  · rename_i h
    obtain ⟨h1, h2, h3⟩ := h
    rw [E.leaf_lf h1, E.leaf_lf h2, ← h3]
    simp only [rowE_lf, E.n, Nat.min_self, List.map_append, List.map_replicate, List.replicate_append_replicate]
    congr 1
    rw [Nat.pow_succ]; omega
  · have h1 : rowE d l = (rowE d (l.sub (min l.n r.n))).map (min l.n r.n + ·) := by rw [← rowE_lift, E.sub_lift _ _ (Nat.min_le_left _ _)]
    have h2 : rowE d r = (rowE d (r.sub (min l.n r.n))).map (min l.n r.n + ·) := by rw [← rowE_lift, E.sub_lift _ _ (Nat.min_le_right _ _)]
    rw [h1, h2, ← List.map_append, List.map_map]
    simp only [rowE]
    congr 1; funext x; simp only [Function.comp]; omega
theorem nodeE_short {n : Nat} {l r : E} (hl : l.short = true) (hr : r.short = true) : (nodeE n l r).short = true := by
  unfold nodeE
  split
  · rfl
  · rename_i h
    simp only [E.short, E.sub_short, hl, hr, E.sub_n, E.sub_leaf, Bool.true_and, Bool.and_eq_true, Bool.or_eq_true, decide_eq_true_eq, Bool.not_eq_true', Bool.and_eq_false_iff, decide_eq_false_iff_not]
    refine ⟨by omega, ?_⟩
    by_cases h1 : l.leaf = true
    · by_cases h2 : r.leaf = true
      · right
        intro h3
        exact h ⟨h1, h2, by omega⟩
      · left; right; simpa using h2
    · left; left; simpa using h1
theorem nodeE_dep (n : Nat) (l r : E) : (nodeE n l r).dep ≤ max l.dep r.dep + 1 := by
  unfold nodeE
  split
  · simp [E.dep]
  · simp [E.dep, E.sub_dep]
theorem nodeE_nodes (n : Nat) (l r : E) : (nodeE n l r).nodes ≤ 1 + l.nodes + r.nodes := by
  unfold nodeE
  split
  · simp [E.nodes]; omega
  · simp [E.nodes, E.sub_nodes]
def joinE : Nat → E → E → E
  | 0, a, b => .lf (max a.n b.n)
  | d + 1, a, b => if a.leaf = true ∧ b.leaf = true then .lf (max a.n b.n) else nodeE 0 (joinE d (a.half false) (b.half false)) (joinE d (a.half true) (b.half true))
theorem zip_replicate (m n : Nat) : ∀ k, List.zipWith max (List.replicate k m) (List.replicate k n) = List.replicate k (max m n)
  | 0 => rfl
  | k + 1 => by simp only [List.replicate_succ, List.zipWith_cons_cons, zip_replicate m n k]
theorem E.dep_one {e : E} (h : e.dep ≤ 1) : e.leaf = true := by
  cases e with
  | lf n => rfl
  | nd n l r => have := l.dep_pos; simp only [E.dep] at h; omega
theorem rows_joinE : ∀ (d : Nat) (a b : E), a.dep ≤ d + 1 → b.dep ≤ d + 1 → rowE d (joinE d a b) = List.zipWith max (rowE d a) (rowE d b)
  | 0, a, b, ha, hb => by
    rw [E.leaf_lf (E.dep_one ha), E.leaf_lf (E.dep_one hb)]
    simp only [joinE, rowE_lf, zip_replicate, E.n]
  | d + 1, a, b, ha, hb => by
    simp only [joinE]
    split
    · rename_i h
      rw [E.leaf_lf h.1, E.leaf_lf h.2]
      simp only [rowE_lf, zip_replicate, E.n]
    · have h1 := a.half_dep false
      have h2 := a.half_dep true
      have h3 := b.half_dep false
      have h4 := b.half_dep true
      rw [rows_nodeE, rows_joinE d _ _ (by omega) (by omega), rows_joinE d _ _ (by omega) (by omega), rowE_split d a, rowE_split d b, List.zipWith_append (by rw [rowE_len, rowE_len])]
      simp
theorem joinE_short : ∀ (d : Nat) {a b : E}, a.short = true → b.short = true → (joinE d a b).short = true
  | 0, _, _, _, _ => rfl
  | d + 1, a, b, ha, hb => by
    simp only [joinE]
    split
    · rfl
    · exact nodeE_short (joinE_short d (a.half_short _ ha) (b.half_short _ hb)) (joinE_short d (a.half_short _ ha) (b.half_short _ hb))
theorem joinE_dep : ∀ (d : Nat) (a b : E), (joinE d a b).dep ≤ d + 1
  | 0, _, _ => by simp [joinE, E.dep]
  | d + 1, a, b => by
    simp only [joinE]
    split
    · simp [E.dep]
    · have := nodeE_dep 0 (joinE d (a.half false) (b.half false)) (joinE d (a.half true) (b.half true))
      have := joinE_dep d (a.half false) (b.half false)
      have := joinE_dep d (a.half true) (b.half true)
      omega
theorem joinE_nodes : ∀ (d : Nat) (a b : E), (joinE d a b).nodes < 2 ^ (d + 1)
  | 0, _, _ => by simp [joinE, E.nodes]
  | d + 1, a, b => by
    simp only [joinE]
    split
    · have : 0 < 2 ^ (d + 1) := Nat.pow_pos (by omega)
      simp only [E.nodes]; rw [Nat.pow_succ]; omega
    · have := nodeE_nodes 0 (joinE d (a.half false) (b.half false)) (joinE d (a.half true) (b.half true))
      have := joinE_nodes d (a.half false) (b.half false)
      have := joinE_nodes d (a.half true) (b.half true)
      rw [Nat.pow_succ]; omega

/-! ### the shortest tree of a row -/
def leastR (row : List Nat) : Nat := row.foldl min (row.headD 0)
def mostR (row : List Nat) : Nat := row.foldl max (row.headD 0)
theorem foldl_min (l : List Nat) : ∀ a, (l.foldl min a ≤ a ∧ ∀ x ∈ l, l.foldl min a ≤ x) ∧ (l.foldl min a = a ∨ l.foldl min a ∈ l) := by
  induction l with
  | nil => intro a; simp
  | cons y l ih =>
    intro a
    obtain ⟨⟨h1, h2⟩, h3⟩ := ih (min a y)
    simp only [List.foldl_cons, List.mem_cons, forall_eq_or_imp]
    refine ⟨⟨by omega, by omega, h2⟩, ?_⟩
    rcases h3 with h3 | h3
    · rw [h3]
      rcases Nat.le_total a y with h | h
      · left; omega
      · right; left; omega
    · right; right; exact h3
theorem foldl_max (l : List Nat) : ∀ a, (a ≤ l.foldl max a ∧ ∀ x ∈ l, x ≤ l.foldl max a) ∧ (l.foldl max a = a ∨ l.foldl max a ∈ l) := by
  induction l with
  | nil => intro a; simp
  | cons y l ih =>
    intro a
    obtain ⟨⟨h1, h2⟩, h3⟩ := ih (max a y)
    simp only [List.foldl_cons, List.mem_cons, forall_eq_or_imp]
    refine ⟨⟨by omega, by omega, h2⟩, ?_⟩
    rcases h3 with h3 | h3
    · rw [h3]
      rcases Nat.le_total a y with h | h
      · right; left; omega
      · left; omega
    · right; right; exact h3
theorem leastR_le {row : List Nat} : ∀ x ∈ row, leastR row ≤ x := (foldl_min row _).1.2
theorem leastR_mem {row : List Nat} (h : row ≠ []) : leastR row ∈ row := by
  obtain ⟨y, l, rfl⟩ := List.exists_cons_of_ne_nil h
  rcases (foldl_min (y :: l) ((y :: l).headD 0)).2 with h1 | h1
  · show List.foldl min _ _ ∈ _
    rw [h1]; simp
  · exact h1
theorem mostR_ge {row : List Nat} : ∀ x ∈ row, x ≤ mostR row := (foldl_max row _).1.2
theorem mostR_mem {row : List Nat} (h : row ≠ []) : mostR row ∈ row := by
  obtain ⟨y, l, rfl⟩ := List.exists_cons_of_ne_nil h
  rcases (foldl_max (y :: l) ((y :: l).headD 0)).2 with h1 | h1
  · show List.foldl max _ _ ∈ _
    rw [h1]; simp
  · exact h1
theorem leastR_eq {row : List Nat} {n : Nat} (h1 : n ∈ row) (h2 : ∀ x ∈ row, n ≤ x) : leastR row = n := by
  have a := leastR_le n h1
  have b := h2 _ (leastR_mem (by intro h; rw [h] at h1; simp at h1))
  omega
theorem mostR_eq {row : List Nat} {n : Nat} (h1 : n ∈ row) (h2 : ∀ x ∈ row, x ≤ n) : mostR row = n := by
  have a := mostR_ge n h1
  have b := h2 _ (mostR_mem (by intro h; rw [h] at h1; simp at h1))
  omega
theorem rowE_ne (d : Nat) (e : E) : rowE d e ≠ [] := by
  intro h
  have := rowE_len d e
  rw [h] at this
  have : 0 < 2 ^ d := Nat.pow_pos (by omega)
  simp at *; omega
/-- A short tree's own number is its row's least. -/
theorem rowE_least : ∀ (d : Nat) (e : E), e.short = true → e.dep ≤ d + 1 → e.n ∈ rowE d e ∧ ∀ x ∈ rowE d e, e.n ≤ x
  | d, .lf n, _, _ => by
    rw [rowE_lf]
    have : 0 < 2 ^ d := Nat.pow_pos (by omega)
    exact ⟨List.mem_replicate.2 ⟨by omega, rfl⟩, fun x hx => by rw [List.eq_of_mem_replicate hx]; exact Nat.le_refl _⟩
  | 0, .nd n l r, _, hd => by have := l.dep_pos; simp only [E.dep] at hd; omega
  | d + 1, .nd n l r, hs, hd => by
    simp only [E.short, Bool.and_eq_true, Bool.or_eq_true, decide_eq_true_eq] at hs
    simp only [E.dep] at hd
    obtain ⟨a1, a2⟩ := rowE_least d l hs.1.1.1 (by omega)
    obtain ⟨b1, b2⟩ := rowE_least d r hs.1.1.2 (by omega)
    simp only [rowE, E.n, List.mem_map, List.mem_append]
    constructor
    · rcases hs.1.2 with h | h
      · exact ⟨0, .inl (h ▸ a1), by omega⟩
      · exact ⟨0, .inr (h ▸ b1), by omega⟩
    · rintro x ⟨y, _, rfl⟩; omega
theorem rowE_const : ∀ (d : Nat) (e : E), e.short = true → e.dep ≤ d + 1 → ∀ c, (∀ x ∈ rowE d e, x = c) → e = .lf c
  | d, .lf n, _, _, c, h => by
    rw [rowE_lf] at h
    have : 0 < 2 ^ d := Nat.pow_pos (by omega)
    rw [h n (List.mem_replicate.2 ⟨by omega, rfl⟩)]
  | 0, .nd n l r, _, hd, _, _ => by have := l.dep_pos; simp only [E.dep] at hd; omega
  | d + 1, .nd n l r, hs, hd, c, h => by
    have hs' := hs
    simp only [E.short, Bool.and_eq_true, Bool.or_eq_true, decide_eq_true_eq] at hs'
    simp only [E.dep] at hd
    simp only [rowE, List.mem_map, List.mem_append] at h
    have hl := rowE_const d l hs'.1.1.1 (by omega) (c - n) (fun x hx => by have := h (n + x) ⟨x, .inl hx, rfl⟩; omega)
    have hr := rowE_const d r hs'.1.1.2 (by omega) (c - n) (fun x hx => by have := h (n + x) ⟨x, .inr hx, rfl⟩; omega)
    subst hl hr
    simp [E.leaf, E.n] at hs'
def treeE : Nat → List Nat → Nat → E
  | 0, row, below => .lf (leastR row - below)
  | d + 1, row, below => if leastR row = mostR row then .lf (leastR row - below) else .nd (leastR row - below) (treeE d (row.take (2 ^ d)) (leastR row)) (treeE d (row.drop (2 ^ d)) (leastR row))
theorem treeE_lift : ∀ (d : Nat) (e : E) (b : Nat), e.short = true → e.dep ≤ d + 1 → treeE d (rowE d (e.lift b)) b = e
  | 0, e, b, hs, hd => by
    have hl := E.leaf_lf (E.dep_one hd)
    have := rowE_least 0 (e.lift b) (by rw [E.lift_short]; exact hs) (by rw [E.lift_dep]; exact hd)
    simp only [treeE]
    rw [leastR_eq this.1 this.2, E.lift_n, Nat.add_sub_cancel, ← hl]
  | d + 1, e, b, hs, hd => by
    have hr := rowE_least (d + 1) (e.lift b) (by rw [E.lift_short]; exact hs) (by rw [E.lift_dep]; exact hd)
    have hle := leastR_eq hr.1 hr.2
    simp only [treeE]
    rw [hle]
    split
    · rename_i hc
      have := rowE_const (d + 1) (e.lift b) (by rw [E.lift_short]; exact hs) (by rw [E.lift_dep]; exact hd) (e.lift b).n (fun x hx => by
        have h1 := hr.2 x hx
        have h2 := mostR_ge x hx
        omega)
      have h2 : e = .lf e.n := by
        cases e with
        | lf n => rfl
        | nd n l r => simp [E.lift] at this
      rw [E.lift_n, Nat.add_sub_cancel, ← h2]
    · rename_i hc
      cases e with
      | lf n =>
        exfalso; apply hc
        simp only [E.lift, E.n, rowE_lf]
        have : 0 < 2 ^ (d + 1) := Nat.pow_pos (by omega)
        rw [mostR_eq (n := n + b) (List.mem_replicate.2 ⟨by omega, rfl⟩) (fun x hx => by rw [List.eq_of_mem_replicate hx]; exact Nat.le_refl _)]
      | nd n l r =>
        simp only [E.short, Bool.and_eq_true] at hs
        simp only [E.dep] at hd
        have e1 : (rowE (d + 1) ((E.nd n l r).lift b)).take (2 ^ d) = rowE d (l.lift (n + b)) := by
          show (((rowE d l ++ rowE d r).map (n + b + ·))).take (2 ^ d) = _
          rw [List.map_append, List.take_append_of_le_length (by rw [List.length_map, rowE_len]; omega), List.take_of_length_le (by rw [List.length_map, rowE_len]; omega), rowE_lift]
        have e2 : (rowE (d + 1) ((E.nd n l r).lift b)).drop (2 ^ d) = rowE d (r.lift (n + b)) := by
          show (((rowE d l ++ rowE d r).map (n + b + ·))).drop (2 ^ d) = _
          rw [List.map_append, List.drop_append, List.length_map, rowE_len, Nat.sub_self, List.drop_zero, List.drop_of_length_le (by rw [List.length_map, rowE_len]; omega), List.nil_append, rowE_lift]
        rw [e1, e2]
        show E.nd (n + b - b) (treeE d _ (n + b)) (treeE d _ (n + b)) = _
        rw [Nat.add_sub_cancel, treeE_lift d l (n + b) hs.1.1.1 (by omega), treeE_lift d r (n + b) hs.1.1.2 (by omega)]
theorem treeE_row (d : Nat) (e : E) (hs : e.short = true) (hd : e.dep ≤ d + 1) : treeE d (rowE d e) 0 = e := by
  have := treeE_lift d e 0 hs hd
  rwa [E.lift_zero] at this
/-- The shortest tree of the greater counts is what join makes. -/
theorem tree_joinE (d : Nat) (a b : E) (ha : a.short = true) (hb : b.short = true) (da : a.dep ≤ d + 1) (db : b.dep ≤ d + 1) : treeE d (List.zipWith max (rowE d a) (rowE d b)) 0 = joinE d a b := by
  rw [← rows_joinE d a b da db]
  exact treeE_row d _ (joinE_short d ha hb) (joinE_dep d a b)

/-! ### a place's count -/
def valE : E → Nat → Nat → Nat
  | .lf n, _, _ => n
  | .nd n l r, p, b => n + (if p / b % 2 = 0 then valE l p (b / 2) else valE r p (b / 2))
theorem rowE_at : ∀ (d : Nat) (b : E) (p : Nat), b.dep ≤ d + 1 → (rowE d b)[p % 2 ^ d]? = some (valE b p (2 ^ d / 2))
  | d, .lf o, p, _ => by
    rw [rowE_lf, List.getElem?_replicate, if_pos (Nat.mod_lt _ (Nat.pow_pos (by omega)))]; rfl
  | 0, .nd n l r, p, hd => by
    have : 1 ≤ l.dep := l.dep_pos
    simp only [E.dep] at hd; omega
  | d + 1, .nd n l r, p, hd => by
    have e : 2 ^ (d + 1) / 2 = 2 ^ d := by rw [Nat.pow_succ]; omega
    simp only [E.dep] at hd
    have hl := rowE_at d l p (by omega)
    have hr := rowE_at d r p (by omega)
    have hpos : 0 < 2 ^ d := Nat.pow_pos (by omega)
    have hm : p % 2 ^ (d + 1) = p % 2 ^ d + 2 ^ d * (p / 2 ^ d % 2) := Nat.mod_pow_succ
    simp only [rowE, valE, e, List.getElem?_map]
    by_cases hz : p / 2 ^ d % 2 = 0
    · rw [if_pos hz, hm, hz, Nat.mul_zero, Nat.add_zero, List.getElem?_append_left (by rw [rowE_len]; exact Nat.mod_lt _ hpos), hl]; rfl
    · have h1 : p / 2 ^ d % 2 = 1 := by omega
      rw [if_neg hz, hm, h1, Nat.mul_one, List.getElem?_append_right (by rw [rowE_len]; omega), rowE_len, Nat.add_sub_cancel, hr]; rfl
theorem valE_top : ∀ (e : E) (p b : Nat), valE e p b ≤ e.top
  | .lf n, _, _ => by simp [valE, E.top]
  | .nd n l r, p, b => by
    simp only [valE, E.top]
    have := valE_top l p (b / 2)
    have := valE_top r p (b / 2)
    split <;> omega

/-! ### rows as values; rows that are filled -/
abbrev ivs (ns : List Nat) : List AV := ns.map fun n => .int .i64 (n : Nat)
theorem ivs_len (ns : List Nat) : (ivs ns).length = ns.length := by simp
theorem frz_ivs {α : Type} (n : Nat) (H : Heap) : ∀ (ns : List Nat) (ok : List AV → List (Nat × Nat) → α) (bd : α), mapK (frzK (n + 1) H) (ivs ns) ok bd = ok (ivs ns) []
  | [], ok, bd => by simp [mapK]
  | c :: cs, ok, bd => by
    show frzK (n + 1) H (.int .i64 (c : Nat)) (fun c' i => mapK (frzK (n + 1) H) (ivs cs) (fun cs' j => ok (c' :: cs') (i ++ j)) bd) bd = _
    rw [frzK_int, frz_ivs n H cs]; rfl
abbrev partR (L : List AV) (z : AV) (i : Nat) : List AV := L.take i ++ List.replicate (L.length - i) z
theorem partR_put (L : List AV) (z x : AV) (i : Nat) (h : L[i]? = some x) : (partR L z i).take i ++ [x] ++ (partR L z i).drop (i + 1) = partR L z (i + 1) := by
  have hi : i < L.length := (List.getElem?_eq_some_iff.1 h).1
  have h1 : (L.take i).length = i := by simp; omega
  have h2 : (partR L z i).take i = L.take i := by
    show List.take i (_ ++ _) = _
    rw [List.take_append_of_le_length (by omega), List.take_of_length_le (by omega)]
  have h3 : (partR L z i).drop (i + 1) = List.replicate (L.length - (i + 1)) z := by
    show List.drop (i + 1) (_ ++ _) = _
    rw [List.drop_append, List.drop_of_length_le (by omega), h1, show i + 1 - i = 1 by omega, List.drop_replicate, List.nil_append]
    congr 1
  rw [h2, h3]
  show _ = List.take (i + 1) L ++ _
  rw [List.take_add_one, h]; rfl
theorem partR_len (L : List AV) (z : AV) (i : Nat) (hi : i ≤ L.length) : (partR L z i).length = L.length := by simp; omega
theorem partR_all (L : List AV) (z : AV) : partR L z L.length = L := by
  show List.take _ _ ++ List.replicate _ _ = _
  rw [List.take_length, Nat.sub_self]; simp
end Go.Ev
/- The walk through comparing events, and the reference's rows. -/
-- short
namespace Go.Proofs.Ytmokhopjnjecbac
open Go.Ev
set_option linter.unusedVariables false
set_option linter.unusedSimpArgs false
set_option maxRecDepth 100000
variable {R : List AV → Heap → Ctr → Prop} {k : List It} {H : Heap} {nx : Ctr} {φ : Nat}

theorem xlift_calls (e : E) (m : Int) (n' : Nat) (hb : e.n < 2 ^ 60) (hm : (e.n : Int) + m = n') (hn : n' < 2 ^ 60) : PCalls Try.prog F_event_lift [xtv e.t, .int .i64 m] (.agg [.int .i64 n', .fz 2 (xtavs e.t.ps) none]) := by
  have w1 : IntKind.i64.wrap (e.t.n + m) = (n' : Int) := by rw [IntKind.wrap_i64, e.t_n]; omega
  refine calls_event_lift (walk0 100 trivial (fun A eA => ?_))
  simp (disch := first | omega | (simp only [avs_len, zz1, zz2, zz3, zz4, zz5, zz6]; omega) | (simp only [cells, scal1, allSz, zz1, zz3, zz2, zz6, zz7, zz8, avs_len, zz9, zz10, zz11, zz12, zz13, reduceCtorEq, *]; done) | fail) only [c_event_lift, go_sem, eA, scal1, List.all_cons, List.all_nil, Bool.and_self, w1]
  exact doneG rfl
theorem xtv_lift (e : E) (m : Nat) : xtv (e.lift m).t = .agg [.int .i64 ((e.n + m : Nat) : Int), .fz 2 (xtavs e.t.ps) none] := by cases e <;> rfl
theorem xtv_sub (e : E) (m : Nat) : xtv (e.sub m).t = .agg [.int .i64 ((e.n - m : Nat) : Int), .fz 2 (xtavs e.t.ps) none] := by cases e <;> rfl
theorem xhalf_calls (e : E) (ht : e.top < 2 ^ 60) (k : Bool) : PCalls Try.prog F_event_half [xtv e.t, .int .i64 (if k then 1 else 0)] (xtv (e.half k).t) := by
  refine calls_event_half (walk0 100 trivial (fun A eA => ?_))
  simp (disch := first | omega | (simp only [avs_len, zz1, zz2, zz3, zz4, zz5, zz6]; omega) | (simp only [cells, scal1, allSz, zz1, zz3, zz2, zz6, zz7, zz8, avs_len, zz9, zz10, zz11, zz12, zz13, reduceCtorEq, *]; done) | fail) only [c_event_half, go_sem, eA, scal1, List.all_cons, List.all_nil, Bool.and_self]
  refine call0 100 trivial trivial (xleaf_b e) (.inl rfl) (fun A eA => ?_)
  cases e with
  | lf n =>
    simp (disch := first | omega | (simp only [avs_len, zz1, zz2, zz3, zz4, zz5, zz6]; omega) | (simp only [cells, scal1, allSz, zz1, zz3, zz2, zz6, zz7, zz8, avs_len, zz9, zz10, zz11, zz12, zz13, reduceCtorEq, *]; done) | fail) only [c_event_half, go_sem, eA, scal1, List.all_cons, List.all_nil, Bool.and_self, E.leaf, E.half]
    exact doneG rfl
  | nd n l r =>
    have h0 : (E.nd n l r).t.ps = [l.t, r.t] := rfl
    have hnn : (E.nd n l r).t.n = (n : Int) := rfl
    have g0 : (xtavs [l.t, r.t])[0]? = some (xtv l.t) := by rw [xtavs_get]; rfl
    have g1 : (xtavs [l.t, r.t])[1]? = some (xtv r.t) := by rw [xtavs_get]; rfl
    simp only [E.top] at ht
    have hl := l.top_n
    have hr := r.top_n
    cases k with
    | false =>
      have c := xlift_calls l (n : Nat) (l.n + n) (by omega) (by omega) (by omega)
      rw [← xtv_lift] at c
      simp (disch := first | omega | (simp only [avs_len, zz1, zz2, zz3, zz4, zz5, zz6]; omega) | (simp only [cells, scal1, allSz, zz1, zz3, zz2, zz6, zz7, zz8, avs_len, zz9, zz10, zz11, zz12, zz13, reduceCtorEq, *]; done) | fail) only [c_event_half, go_sem, eA, scal1, List.all_cons, List.all_nil, Bool.and_self, E.leaf, E.half, h0, g0, hnn]
      refine call0 100 trivial trivial c (.inl rfl) (fun A eA => ?_)
      simp (disch := first | omega | (simp only [avs_len, zz1, zz2, zz3, zz4, zz5, zz6]; omega) | (simp only [cells, scal1, allSz, zz1, zz3, zz2, zz6, zz7, zz8, avs_len, zz9, zz10, zz11, zz12, zz13, reduceCtorEq, *]; done) | fail) only [c_event_half, go_sem, eA, scal1, List.all_cons, List.all_nil, Bool.and_self, E.leaf, E.half]
      exact doneG rfl
    | true =>
      have c := xlift_calls r (n : Nat) (r.n + n) (by omega) (by omega) (by omega)
      rw [← xtv_lift] at c
      simp (disch := first | omega | (simp only [avs_len, zz1, zz2, zz3, zz4, zz5, zz6]; omega) | (simp only [cells, scal1, allSz, zz1, zz3, zz2, zz6, zz7, zz8, avs_len, zz9, zz10, zz11, zz12, zz13, reduceCtorEq, *]; done) | fail) only [c_event_half, go_sem, eA, scal1, List.all_cons, List.all_nil, Bool.and_self, E.leaf, E.half, h0, g1, hnn]
      refine call0 100 trivial trivial c (.inl rfl) (fun A eA => ?_)
      simp (disch := first | omega | (simp only [avs_len, zz1, zz2, zz3, zz4, zz5, zz6]; omega) | (simp only [cells, scal1, allSz, zz1, zz3, zz2, zz6, zz7, zz8, avs_len, zz9, zz10, zz11, zz12, zz13, reduceCtorEq, *]; done) | fail) only [c_event_half, go_sem, eA, scal1, List.all_cons, List.all_nil, Bool.and_self, E.leaf, E.half]
      exact doneG rfl
theorem xleq_calls : ∀ (d : Nat) (a b : E), a.dep ≤ d + 1 → b.dep ≤ d + 1 → a.top < 2 ^ 60 → b.top < 2 ^ 60 → PCalls Try.prog F_event_leq [xtv a.t, xtv b.t] (.bool (leqR (rowE d a) (rowE d b))) := by
  have leafs : ∀ (d : Nat) (a b : E), a.leaf = true → b.leaf = true → PCalls Try.prog F_event_leq [xtv a.t, xtv b.t] (.bool (leqR (rowE d a) (rowE d b))) := by
    intro d a b ha hb
    have ca := xleaf_b a
    have cb := xleaf_b b
    rw [ha] at ca
    rw [hb] at cb
    have ea := a.t_n
    have eb := b.t_n
    have e : leqR (rowE d a) (rowE d b) = decide (a.t.n ≤ b.t.n) := by
      rw [ea, eb, E.leaf_lf ha, E.leaf_lf hb, rowE_lf, rowE_lf, leqR_replicate _ _ _ (Nat.pow_pos (by omega)), decide_eq_decide]
      simp only [E.n]; omega
    rw [e]
    refine calls_event_leq (walk0 100 trivial (fun A eA => ?_))
    simp (disch := first | omega | (simp only [avs_len, zz1, zz2, zz3, zz4, zz5, zz6]; omega) | (simp only [cells, scal1, allSz, zz1, zz3, zz2, zz6, zz7, zz8, avs_len, zz9, zz10, zz11, zz12, zz13, reduceCtorEq, *]; done) | fail) only [c_event_leq, go_sem, eA, scal1, List.all_cons, List.all_nil, Bool.and_self]
    repeat ((first | refine call0 100 trivial trivial (by first | exact ca | exact cb) (by first | exact .inl rfl | exact .inr rfl) (fun A eA => ?_) | refine call1 100 trivial trivial (by first | exact ca | exact cb) (fun A eA => ?_)); simp (disch := first | omega | (simp only [avs_len, zz1, zz2, zz3, zz4, zz5, zz6]; omega) | (simp only [cells, scal1, allSz, zz1, zz3, zz2, zz6, zz7, zz8, avs_len, zz9, zz10, zz11, zz12, zz13, reduceCtorEq, *]; done) | fail) only [c_event_leq, go_sem, eA, scal1, List.all_cons, List.all_nil, Bool.and_self])
    exact doneG rfl
  intro d
  induction d with
  | zero => intro a b ha hb _ _; exact leafs 0 a b (E.dep_one ha) (E.dep_one hb)
  | succ d ih =>
    intro a b ha hb ta tb
    by_cases hl : a.leaf = true ∧ b.leaf = true
    · exact leafs _ a b hl.1 hl.2
    · have h1 := a.half_dep false
      have h2 := a.half_dep true
      have h3 := b.half_dep false
      have h4 := b.half_dep true
      have t1 := a.half_top false
      have t2 := a.half_top true
      have t3 := b.half_top false
      have t4 := b.half_top true
      have c1 := xhalf_calls a ta false
      have c2 := xhalf_calls a ta true
      have c3 := xhalf_calls b tb false
      have c4 := xhalf_calls b tb true
      have k1 := ih (a.half false) (b.half false) (by omega) (by omega) (by omega) (by omega)
      have k2 := ih (a.half true) (b.half true) (by omega) (by omega) (by omega) (by omega)
      rw [rowE_split d a, rowE_split d b, leqR_append _ _ _ _ (by rw [rowE_len, rowE_len])]
      generalize leqR (rowE d (a.half false)) (rowE d (b.half false)) = q1 at k1 ⊢
      generalize leqR (rowE d (a.half true)) (rowE d (b.half true)) = q2 at k2 ⊢
      have ca := xleaf_b a
      have cb := xleaf_b b
      have fin : ∀ (x y : Bool), ¬ (x = true ∧ y = true) → PCalls Try.prog F_event_leaf [xtv a.t] (.bool x) → PCalls Try.prog F_event_leaf [xtv b.t] (.bool y) → PCalls Try.prog F_event_leq [xtv a.t, xtv b.t] (.bool (q1 && q2)) := by
        intro x y hxy ca cb
        refine calls_event_leq (walk0 100 trivial (fun A eA => ?_))
        simp only [Bool.false_eq_true, if_false, if_true] at c1 c2 c3 c4
        cases x <;> cases y <;> cases q1
        all_goals first
          | (exfalso; exact hxy ⟨rfl, rfl⟩)
          | (simp (disch := first | omega | (simp only [avs_len, zz1, zz2, zz3, zz4, zz5, zz6]; omega) | (simp only [cells, scal1, allSz, zz1, zz3, zz2, zz6, zz7, zz8, avs_len, zz9, zz10, zz11, zz12, zz13, reduceCtorEq, *]; done) | fail) only [c_event_leq, go_sem, eA, scal1, List.all_cons, List.all_nil, Bool.and_self]
             repeat ((first | refine call0 100 trivial trivial (by first | exact ca | exact cb | exact c1 | exact c3 | exact k1 | exact c2 | exact c4 | exact k2) (by first | exact .inl rfl | exact .inr rfl) (fun A eA => ?_) | refine call1 100 trivial trivial (by first | exact ca | exact cb | exact c1 | exact c3 | exact k1 | exact c2 | exact c4 | exact k2) (fun A eA => ?_)); simp (disch := first | omega | (simp only [avs_len, zz1, zz2, zz3, zz4, zz5, zz6]; omega) | (simp only [cells, scal1, allSz, zz1, zz3, zz2, zz6, zz7, zz8, avs_len, zz9, zz10, zz11, zz12, zz13, reduceCtorEq, *]; done) | fail) only [c_event_leq, go_sem, eA, scal1, List.all_cons, List.all_nil, Bool.and_self, Bool.false_and, Bool.true_and])
             exact doneG rfl)
      exact fin _ _ hl ca cb
theorem xtop_rt {b : E} (h1 : b.dep ≤ 8) (h2 : b.small = true) : b.top < 2 ^ 60 := by
  have := E.top_small h2
  have : b.dep * 1099511627776 ≤ 8 * 1099511627776 := Nat.mul_le_mul_right _ h1
  omega
/-- Is it at most that one, at each place; both right. -/
noncomputable def xleqT (a b : ET) : Bool := @dite _ (XRt a ∧ XRt b) (Classical.propDecidable _) (fun h => leqR (rowE 7 h.1.choose) (rowE 7 h.2.choose)) (fun _ => false)
theorem xleqT_no {a b : ET} (h : ¬ (XRt a ∧ XRt b)) : xleqT a b = false := by simp only [xleqT]; rw [dif_neg h]
theorem xleqT_b {a b : E} (ha : XRt a.t) (hb : XRt b.t) : xleqT a.t b.t = leqR (rowE 7 a) (rowE 7 b) := by
  have h : XRt a.t ∧ XRt b.t := ⟨ha, hb⟩
  have e : xleqT a.t b.t = leqR (rowE 7 h.1.choose) (rowE 7 h.2.choose) := by simp only [xleqT]; rw [dif_pos h]
  have e1 := E.inj h.1.choose_spec.1
  have e2 := E.inj h.2.choose_spec.1
  rw [e, ← e1, ← e2]
theorem xLeq_calls (a b : ET) : PCalls Try.prog F_event_Leq [xtv a, xtv b] (.bool (xleqT a b)) := by
  have ca := xright_calls a
  have cb := xright_calls b
  refine calls_event_Leq (walk0 100 trivial (fun A eA => ?_))
  by_cases ha : XRt a
  · rw [xrtb_true.2 ha] at ca
    by_cases hb : XRt b
    · rw [xrtb_true.2 hb] at cb
      obtain ⟨x, rfl, x1, x2, x3, x4⟩ := id ha
      obtain ⟨y, rfl, y1, y2, y3, y4⟩ := id hb
      have c := xleq_calls 7 x y (by omega) (by omega) (xtop_rt x1 x4) (xtop_rt y1 y4)
      rw [xleqT_b ha hb]
      simp (disch := first | omega | (simp only [avs_len, zz1, zz2, zz3, zz4, zz5, zz6]; omega) | (simp only [cells, scal1, allSz, zz1, zz3, zz2, zz6, zz7, zz8, avs_len, zz9, zz10, zz11, zz12, zz13, reduceCtorEq, *]; done) | fail) only [c_event_Leq, go_sem, eA, scal1, List.all_cons, List.all_nil, Bool.and_self]
      repeat ((first | refine call0 100 trivial trivial (by first | exact ca | exact cb | exact c) (by first | exact .inl rfl | exact .inr rfl) (fun A eA => ?_) | refine call1 100 trivial trivial (by first | exact ca | exact cb | exact c) (fun A eA => ?_)); simp (disch := first | omega | (simp only [avs_len, zz1, zz2, zz3, zz4, zz5, zz6]; omega) | (simp only [cells, scal1, allSz, zz1, zz3, zz2, zz6, zz7, zz8, avs_len, zz9, zz10, zz11, zz12, zz13, reduceCtorEq, *]; done) | fail) only [c_event_Leq, go_sem, eA, scal1, List.all_cons, List.all_nil, Bool.and_self])
      exact doneG rfl
    · rw [show xrtb b = false by rw [Bool.eq_false_iff, ne_eq, xrtb_true]; exact hb] at cb
      rw [xleqT_no (fun h => hb h.2)]
      simp (disch := first | omega | (simp only [avs_len, zz1, zz2, zz3, zz4, zz5, zz6]; omega) | (simp only [cells, scal1, allSz, zz1, zz3, zz2, zz6, zz7, zz8, avs_len, zz9, zz10, zz11, zz12, zz13, reduceCtorEq, *]; done) | fail) only [c_event_Leq, go_sem, eA, scal1, List.all_cons, List.all_nil, Bool.and_self]
      repeat ((first | refine call0 100 trivial trivial (by first | exact ca | exact cb) (by first | exact .inl rfl | exact .inr rfl) (fun A eA => ?_) | refine call1 100 trivial trivial (by first | exact ca | exact cb) (fun A eA => ?_)); simp (disch := first | omega | (simp only [avs_len, zz1, zz2, zz3, zz4, zz5, zz6]; omega) | (simp only [cells, scal1, allSz, zz1, zz3, zz2, zz6, zz7, zz8, avs_len, zz9, zz10, zz11, zz12, zz13, reduceCtorEq, *]; done) | fail) only [c_event_Leq, go_sem, eA, scal1, List.all_cons, List.all_nil, Bool.and_self])
      exact doneG rfl
  · rw [show xrtb a = false by rw [Bool.eq_false_iff, ne_eq, xrtb_true]; exact ha] at ca
    rw [xleqT_no (fun h => ha h.1)]
    simp (disch := first | omega | (simp only [avs_len, zz1, zz2, zz3, zz4, zz5, zz6]; omega) | (simp only [cells, scal1, allSz, zz1, zz3, zz2, zz6, zz7, zz8, avs_len, zz9, zz10, zz11, zz12, zz13, reduceCtorEq, *]; done) | fail) only [c_event_Leq, go_sem, eA, scal1, List.all_cons, List.all_nil, Bool.and_self]
    repeat ((first | refine call0 100 trivial trivial (by first | exact ca | exact cb) (by first | exact .inl rfl | exact .inr rfl) (fun A eA => ?_) | refine call1 100 trivial trivial (by first | exact ca | exact cb) (fun A eA => ?_)); simp (disch := first | omega | (simp only [avs_len, zz1, zz2, zz3, zz4, zz5, zz6]; omega) | (simp only [cells, scal1, allSz, zz1, zz3, zz2, zz6, zz7, zz8, avs_len, zz9, zz10, zz11, zz12, zz13, reduceCtorEq, *]; done) | fail) only [c_event_Leq, go_sem, eA, scal1, List.all_cons, List.all_nil, Bool.and_self])
    exact doneG rfl
theorem refLeq_calls (p q : List Nat) (hl : p.length = q.length) (hs : p.length < 2 ^ 60) : PCalls Try.prog F_ref04_Leq [.fz 1 (ivs p) none, .fz 1 (ivs q) none] (.bool (leqR p q)) := by
  have key : ∀ (p2 q2 p1 q1 : List Nat), p = p1 ++ p2 → q = q1 ++ q2 → p1.length = q1.length → ∀ nx : Ctr, RunsX Try.prog 0 (Gives [.t 4] (.bool (leqR p2 q2))) (i_ref04_Leq_0 ++ [.c c_ref04_Leq_k0]) (s_ref04_Leq_0 (.fz 1 (ivs p) none) (.fz 1 (ivs q) none) (.int .i64 (p.length : Nat)) (.int .i64 (p1.length : Nat))) [] nx := by
    intro p2
    induction p2 with
    | nil =>
      intro q2 p1 q1 h1 h2 h3 nx
      have h5 : p.length = p1.length := by rw [h1]; simp
      refine round (its := [.blk 0 wb_ref04_Leq_0]) (k0 := [.c c_ref04_Leq_k0]) 100 trivial trivial (fun A eA => ?_)
      simp (disch := first | omega | (simp only [avs_len, zz1, zz2, zz3, zz4, zz5, zz6]; omega) | (simp only [cells, scal1, allSz, zz1, zz3, zz2, zz6, zz7, zz8, avs_len, zz9, zz10, zz11, zz12, zz13, reduceCtorEq, *]; done) | fail) only [c_ref04_Leq, wl_ref04_Leq_0, s_ref04_Leq_0, c_ref04_Leq_l0, wb_ref04_Leq_0, c_ref04_Leq_k0, go_sem, eA]
      refine walk0 (its := [.c c_ref04_Leq_k0]) 100 trivial (fun A eA => ?_)
      simp (disch := first | omega | (simp only [avs_len, zz1, zz2, zz3, zz4, zz5, zz6]; omega) | (simp only [cells, scal1, allSz, zz1, zz3, zz2, zz6, zz7, zz8, avs_len, zz9, zz10, zz11, zz12, zz13, reduceCtorEq, *]; done) | fail) only [c_ref04_Leq, wl_ref04_Leq_0, s_ref04_Leq_0, c_ref04_Leq_l0, wb_ref04_Leq_0, c_ref04_Leq_k0, go_sem, eA, leqR]
      exact doneG rfl
    | cons x p2 ih =>
      intro q2 p1 q1 h1 h2 h3 nx
      cases q2 with
      | nil => have := congrArg List.length h1; have := congrArg List.length h2; simp at *; omega
      | cons y q2 =>
        have hlt : p1.length < p.length := by rw [h1]; simp
        have g0 : (ivs p)[p1.length]? = some (.int .i64 (x : Nat)) := by rw [List.getElem?_map, h1]; simp
        have g1 : (ivs q)[p1.length]? = some (.int .i64 (y : Nat)) := by rw [List.getElem?_map, h2, h3]; simp
        have w1 : IntKind.i64.wrap ((p1.length : Int) + 1) = ((p1.length + 1 : Nat) : Int) := by rw [IntKind.wrap_i64]; omega
        refine round (its := [.blk 0 wb_ref04_Leq_0]) (k0 := [.c c_ref04_Leq_k0]) 100 trivial trivial (fun A eA => ?_)
        simp only [leqR]
        by_cases h : x ≤ y
        · rw [decide_eq_true h, Bool.true_and]
          simp (disch := first | omega | (simp only [avs_len, zz1, zz2, zz3, zz4, zz5, zz6]; omega) | (simp only [cells, scal1, allSz, zz1, zz3, zz2, zz6, zz7, zz8, avs_len, zz9, zz10, zz11, zz12, zz13, reduceCtorEq, *]; done) | fail) only [c_ref04_Leq, wl_ref04_Leq_0, s_ref04_Leq_0, c_ref04_Leq_l0, wb_ref04_Leq_0, c_ref04_Leq_k0, go_sem, eA, zz16, g0, g1, w1]
          have hih := ih q2 (p1 ++ [x]) (q1 ++ [y]) (by rw [h1]; simp) (by rw [h2]; simp) (by simp [h3]) nx
          rw [show (p1 ++ [x]).length = p1.length + 1 by simp] at hih
          exact hih
        · rw [decide_eq_false h, Bool.false_and]
          simp (disch := first | omega | (simp only [avs_len, zz1, zz2, zz3, zz4, zz5, zz6]; omega) | (simp only [cells, scal1, allSz, zz1, zz3, zz2, zz6, zz7, zz8, avs_len, zz9, zz10, zz11, zz12, zz13, reduceCtorEq, *]; done) | fail) only [c_ref04_Leq, wl_ref04_Leq_0, s_ref04_Leq_0, c_ref04_Leq_l0, wb_ref04_Leq_0, c_ref04_Leq_k0, go_sem, eA, zz16, g0, g1, w1]
          exact doneG rfl
  refine calls_ref04_Leq (walk0 100 trivial (fun A eA => ?_))
  simp (disch := first | omega | (simp only [avs_len, zz1, zz2, zz3, zz4, zz5, zz6]; omega) | (simp only [cells, scal1, allSz, zz1, zz3, zz2, zz6, zz7, zz8, avs_len, zz9, zz10, zz11, zz12, zz13, reduceCtorEq, *]; done) | fail) only [c_ref04_Leq, wl_ref04_Leq_0, s_ref04_Leq_0, c_ref04_Leq_l0, wb_ref04_Leq_0, c_ref04_Leq_k0, go_sem, eA, ivs_len]
  exact key p q [] [] rfl rfl rfl zeroC
theorem refEqual_calls (p q : List Nat) (hl : p.length = q.length) (hs : p.length < 2 ^ 60) : PCalls Try.prog F_z30z [.fz 1 (ivs p) none, .fz 1 (ivs q) none] (.bool (eqR p q)) := by
  have key : ∀ (p2 q2 p1 q1 : List Nat), p = p1 ++ p2 → q = q1 ++ q2 → p1.length = q1.length → ∀ nx : Ctr, RunsX Try.prog 0 (Gives [.t 4] (.bool (eqR p2 q2))) (i_z30z_0 ++ [.c c_z30z_k0]) (s_z30z_0 (.fz 1 (ivs p) none) (.fz 1 (ivs q) none) (.int .i64 (p.length : Nat)) (.int .i64 (p1.length : Nat))) [] nx := by
    intro p2
    induction p2 with
    | nil =>
      intro q2 p1 q1 h1 h2 h3 nx
      have h5 : p.length = p1.length := by rw [h1]; simp
      refine round (its := [.blk 0 wb_z30z_0]) (k0 := [.c c_z30z_k0]) 100 trivial trivial (fun A eA => ?_)
      simp (disch := first | omega | (simp only [avs_len, zz1, zz2, zz3, zz4, zz5, zz6]; omega) | (simp only [cells, scal1, allSz, zz1, zz3, zz2, zz6, zz7, zz8, avs_len, zz9, zz10, zz11, zz12, zz13, reduceCtorEq, *]; done) | fail) only [c_z30z, wl_z30z_0, s_z30z_0, c_z30z_l0, wb_z30z_0, c_z30z_k0, go_sem, eA]
      refine walk0 (its := [.c c_z30z_k0]) 100 trivial (fun A eA => ?_)
      simp (disch := first | omega | (simp only [avs_len, zz1, zz2, zz3, zz4, zz5, zz6]; omega) | (simp only [cells, scal1, allSz, zz1, zz3, zz2, zz6, zz7, zz8, avs_len, zz9, zz10, zz11, zz12, zz13, reduceCtorEq, *]; done) | fail) only [c_z30z, wl_z30z_0, s_z30z_0, c_z30z_l0, wb_z30z_0, c_z30z_k0, go_sem, eA, eqR]
      exact doneG rfl
    | cons x p2 ih =>
      intro q2 p1 q1 h1 h2 h3 nx
      cases q2 with
      | nil => have := congrArg List.length h1; have := congrArg List.length h2; simp at *; omega
      | cons y q2 =>
        have hlt : p1.length < p.length := by rw [h1]; simp
        have g0 : (ivs p)[p1.length]? = some (.int .i64 (x : Nat)) := by rw [List.getElem?_map, h1]; simp
        have g1 : (ivs q)[p1.length]? = some (.int .i64 (y : Nat)) := by rw [List.getElem?_map, h2, h3]; simp
        have w1 : IntKind.i64.wrap ((p1.length : Int) + 1) = ((p1.length + 1 : Nat) : Int) := by rw [IntKind.wrap_i64]; omega
        refine round (its := [.blk 0 wb_z30z_0]) (k0 := [.c c_z30z_k0]) 100 trivial trivial (fun A eA => ?_)
        simp only [eqR]
        by_cases h : x = y
        · rw [decide_eq_true h, Bool.true_and]
          simp (disch := first | omega | (simp only [avs_len, zz1, zz2, zz3, zz4, zz5, zz6]; omega) | (simp only [cells, scal1, allSz, zz1, zz3, zz2, zz6, zz7, zz8, avs_len, zz9, zz10, zz11, zz12, zz13, reduceCtorEq, *]; done) | fail) only [c_z30z, wl_z30z_0, s_z30z_0, c_z30z_l0, wb_z30z_0, c_z30z_k0, go_sem, eA, zz16, g0, g1, w1]
          have hih := ih q2 (p1 ++ [x]) (q1 ++ [y]) (by rw [h1]; simp) (by rw [h2]; simp) (by simp [h3]) nx
          rw [show (p1 ++ [x]).length = p1.length + 1 by simp] at hih
          exact hih
        · rw [decide_eq_false h, Bool.false_and]
          simp (disch := first | omega | (simp only [avs_len, zz1, zz2, zz3, zz4, zz5, zz6]; omega) | (simp only [cells, scal1, allSz, zz1, zz3, zz2, zz6, zz7, zz8, avs_len, zz9, zz10, zz11, zz12, zz13, reduceCtorEq, *]; done) | fail) only [c_z30z, wl_z30z_0, s_z30z_0, c_z30z_l0, wb_z30z_0, c_z30z_k0, go_sem, eA, zz16, g0, g1, w1]
          exact doneG rfl
  refine calls_z30z (walk0 100 trivial (fun A eA => ?_))
  simp (disch := first | omega | (simp only [avs_len, zz1, zz2, zz3, zz4, zz5, zz6]; omega) | (simp only [cells, scal1, allSz, zz1, zz3, zz2, zz6, zz7, zz8, avs_len, zz9, zz10, zz11, zz12, zz13, reduceCtorEq, *]; done) | fail) only [c_z30z, wl_z30z_0, s_z30z_0, c_z30z_l0, wb_z30z_0, c_z30z_k0, go_sem, eA, ivs_len]
  exact key p q [] [] rfl rfl rfl zeroC
end Go.Proofs.Ytmokhopjnjecbac
/- The walk through the reference's rows of events. -/
-- short
namespace Go.Proofs.Ytmokhopjnjecbac
open Go.Ev
set_option linter.unusedVariables false
set_option linter.unusedSimpArgs false
set_option maxRecDepth 100000
variable {R : List AV → Heap → Ctr → Prop} {k : List It} {H : Heap} {nx : Ctr} {φ : Nat}

theorem erow_inner (p : Nat) (hp : p < 128) (t1 t3 t10 t11 : AV) (g8 : Nat) (cs : List AV) (hk : flat k) (g5 : Nat) (nx : Ctr) : ∀ (b : E) (i Z : Nat), i + b.dep ≤ 8 → Z + b.top < 2 ^ 60 →
    (∀ x y : AV, RunsX Try.prog φ R k (e_z34z_2 t1 t3 (.int .i64 (p : Nat)) (.int .i64 ((Z + valE b p (64 / 2 ^ i) : Nat) : Int)) t10 t11) [(φ, 5, g5, some [x, y]), (φ, 8, g8, some cs)] nx) →
    RunsX Try.prog φ R (i_z34z_2 ++ k) (s_z34z_2 t1 t3 (.int .i64 (p : Nat)) (.ptr φ 5 g5 0) (.int .i64 ((Z + b.n : Nat) : Int)) (.int .i64 ((64 / 2 ^ i : Nat) : Int)) t10 t11) [(φ, 5, g5, some [.int .i64 b.t.n, .fz 2 (xtavs b.t.ps) none]), (φ, 8, g8, some cs)] nx := by
  intro b
  induction b with
  | lf o =>
    intro i Z hi hA h
    have h0 : (E.lf o).t.ps.length = 0 := rfl
    refine round (its := [.blk 2 wb_z34z_2]) 100 hk trivial (fun A eA => ?_)
    simp (disch := first | omega | (simp only [avs_len, zz1, zz2, zz3, zz4, zz5, zz6]; omega) | (simp only [cells, scal1, allSz, zz1, zz3, zz2, zz6, zz7, zz8, avs_len, zz9, zz10, zz11, zz12, zz13, reduceCtorEq, *]; done) | fail) only [c_z34z, wl_z34z_2, s_z34z_2, c_z34z_l2, wb_z34z_2, c_z34z_k0, wb_z34z_1, c_z34z_k1, wl_z34z_0, s_z34z_0, c_z34z_l0, wb_z34z_0, c_z34z_k2, go_sem, eA, xtavs_len]
    exact h _ _
  | nd n l r ihl ihr =>
    intro i Z hi hA h
    have h0 : (E.nd n l r).t.ps = [l.t, r.t] := rfl
    have g0 : (xtavs [l.t, r.t])[0]? = some (xtv l.t) := by rw [xtavs_get]; rfl
    have g1 : (xtavs [l.t, r.t])[1]? = some (xtv r.t) := by rw [xtavs_get]; rfl
    simp only [E.dep] at hi
    simp only [E.top] at hA
    have htl := l.top_n
    have htr := r.top_n
    have hi6 : i ≤ 6 := by have : 1 ≤ l.dep := l.dep_pos
                           omega
    have hpow : 64 / 2 ^ i = 2 ^ (6 - i) := by
      match i, hi6 with
      | 0, _ => rfl
      | 1, _ => rfl
      | 2, _ => rfl
      | 3, _ => rfl
      | 4, _ => rfl
      | 5, _ => rfl
      | 6, _ => rfl
    have hpos : 0 < 2 ^ (6 - i) := Nat.pow_pos (by omega)
    have hle : 64 / 2 ^ i ≤ 64 := Nat.div_le_self _ _
    obtain ⟨q, hq⟩ : ∃ q, q = 64 / 2 ^ i := ⟨_, rfl⟩
    rw [← hpow] at hpos
    rw [← hq] at hpos hle h ⊢
    have hq2 : q / 2 = 64 / 2 ^ (i + 1) := by rw [hq, Nat.div_div_eq_div_mul, Nat.pow_succ]
    have hpq : p / q ≤ p := Nat.div_le_self _ _
    simp only [valE] at h
    have e1 : (p : Int).tdiv (q : Int) = ((p / q : Nat) : Int) := by rw [Int.tdiv_eq_ediv_of_nonneg (by omega)]; simp
    generalize p / q = m at h e1 hpq
    have e2 : IntKind.i64.wrap (m : Int) = (m : Int) := by rw [IntKind.wrap_i64]; omega
    have e3 : (m : Int).tmod 2 = ((m % 2 : Nat) : Int) := by rw [Int.tmod_eq_emod_of_nonneg (by omega)]; omega
    have e4 : (q : Int).tdiv 2 = ((q / 2 : Nat) : Int) := by rw [Int.tdiv_eq_ediv_of_nonneg (by omega)]; omega
    have e5 : IntKind.i64.wrap ((q / 2 : Nat) : Int) = ((q / 2 : Nat) : Int) := by rw [IntKind.wrap_i64]; omega
    have hnn : (E.nd n l r).n = n := rfl
    refine round (its := [.blk 2 wb_z34z_2]) 100 hk trivial (fun A eA => ?_)
    by_cases hz : m % 2 = 0
    · rw [if_pos hz, hq2] at h
      have e6 : IntKind.i64.wrap (((Z + n : Nat) : Int) + l.t.n) = ((Z + n + l.n : Nat) : Int) := by rw [IntKind.wrap_i64, l.t_n]; omega
      simp (disch := first | omega | (simp only [avs_len, zz1, zz2, zz3, zz4, zz5, zz6]; omega) | (simp only [cells, scal1, allSz, zz1, zz3, zz2, zz6, zz7, zz8, avs_len, zz9, zz10, zz11, zz12, zz13, reduceCtorEq, *]; done) | fail) only [c_z34z, wl_z34z_2, s_z34z_2, c_z34z_l2, wb_z34z_2, c_z34z_k0, wb_z34z_1, c_z34z_k1, wl_z34z_0, s_z34z_0, c_z34z_l0, wb_z34z_0, c_z34z_k2, go_sem, eA, xtavs_len, h0, hnn, e1, e2, e3, hz, e4, e5, e6, zz16, g0, scal1, List.all_cons, List.all_nil, Bool.and_self]
      rw [hq2]
      exact ihl (i + 1) (Z + n) (by omega) (by omega) (fun x y => by have := h x y; rwa [← Nat.add_assoc] at this)
    · rw [if_neg hz, hq2] at h
      have hz1 : m % 2 = 1 := by omega
      have e6 : IntKind.i64.wrap (((Z + n : Nat) : Int) + r.t.n) = ((Z + n + r.n : Nat) : Int) := by rw [IntKind.wrap_i64, r.t_n]; omega
      simp (disch := first | omega | (simp only [avs_len, zz1, zz2, zz3, zz4, zz5, zz6]; omega) | (simp only [cells, scal1, allSz, zz1, zz3, zz2, zz6, zz7, zz8, avs_len, zz9, zz10, zz11, zz12, zz13, reduceCtorEq, *]; done) | fail) only [c_z34z, wl_z34z_2, s_z34z_2, c_z34z_l2, wb_z34z_2, c_z34z_k0, wb_z34z_1, c_z34z_k1, wl_z34z_0, s_z34z_0, c_z34z_l0, wb_z34z_0, c_z34z_k2, go_sem, eA, xtavs_len, h0, hnn, e1, e2, e3, hz1, e4, e5, e6, zz16, g1, scal1, List.all_cons, List.all_nil, Bool.and_self]
      rw [hq2]
      exact ihr (i + 1) (Z + n) (by omega) (by omega) (fun x y => by have := h x y; rwa [← Nat.add_assoc] at this)
theorem erow_loop (e : E) (hd : e.dep ≤ 8) (ht : e.top < 2 ^ 60) : ∀ (n i : Nat), i + n = 128 → ∀ cs0 : List AV, cs0 = partR (ivs (rowE 7 e)) (.int .i64 0) i → ∀ nx : Ctr,
    RunsX Try.prog 0 (Gives [.t 2] (.fz 1 (ivs (rowE 7 e)) none)) (i_z34z_0 ++ [.c c_z34z_k2]) (s_z34z_0 (.ro [.int .i64 e.t.n, .fz 2 (xtavs e.t.ps) none]) (.sl 0 8 0 1 0 128) (.int .i64 128) (.int .i64 (i : Nat))) [(0, 8, 0, some cs0)] nx := by
  have hL : (ivs (rowE 7 e)).length = 128 := by rw [ivs_len, rowE_len]
  intro n
  induction n with
  | zero =>
    intro i hi cs0 hcs0 nx
    obtain rfl : i = 128 := by omega
    have e0 : cs0 = ivs (rowE 7 e) := by rw [hcs0]; have := partR_all (ivs (rowE 7 e)) (.int .i64 0); rwa [hL] at this
    subst e0
    refine round (its := [.blk 0 wb_z34z_0]) (k0 := [.c c_z34z_k2]) 100 trivial trivial (fun A eA => ?_)
    simp (disch := first | omega | (simp only [avs_len, zz1, zz2, zz3, zz4, zz5, zz6]; omega) | (simp only [cells, scal1, allSz, zz1, zz3, zz2, zz6, zz7, zz8, avs_len, zz9, zz10, zz11, zz12, zz13, reduceCtorEq, *]; done) | fail) only [c_z34z, wl_z34z_2, s_z34z_2, c_z34z_l2, wb_z34z_2, c_z34z_k0, wb_z34z_1, c_z34z_k1, wl_z34z_0, s_z34z_0, c_z34z_l0, wb_z34z_0, c_z34z_k2, go_sem, eA]
    refine walk0 (its := [.c c_z34z_k2]) 100 trivial (fun A eA => ?_)
    simp (disch := first | omega | (simp only [avs_len, zz1, zz2, zz3, zz4, zz5, zz6]; omega) | (simp only [cells, scal1, allSz, zz1, zz3, zz2, zz6, zz7, zz8, avs_len, zz9, zz10, zz11, zz12, zz13, reduceCtorEq, *]; done) | fail) only [c_z34z, wl_z34z_2, s_z34z_2, c_z34z_l2, wb_z34z_2, c_z34z_k0, wb_z34z_1, c_z34z_k1, wl_z34z_0, s_z34z_0, c_z34z_l0, wb_z34z_0, c_z34z_k2, go_sem, eA]
    refine doneG ?_
    have ht : List.take 128 (ivs (rowE 7 e)) = ivs (rowE 7 e) := List.take_of_length_le (by omega)
    simp (disch := first | omega | (simp only [avs_len, zz1, zz2, zz3, zz4, zz5, zz6]; omega) | (simp only [cells, scal1, allSz, zz1, zz3, zz2, zz6, zz7, zz8, avs_len, zz9, zz10, zz11, zz12, zz13, reduceCtorEq, *]; done) | fail) only [go_sem, ht, hL, ↓frz_ivs, chunk]
  | succ n ih =>
    intro i hi cs0 hcs0 nx
    have hat := rowE_at 7 e i (by omega)
    rw [show (2 : Nat) ^ 7 = 128 from rfl, Nat.mod_eq_of_lt (by omega)] at hat
    have hat2 : (ivs (rowE 7 e))[i]? = some (.int .i64 ((valE e i 64 : Nat) : Int)) := by rw [List.getElem?_map, hat]; rfl
    have hput := partR_put (ivs (rowE 7 e)) (.int .i64 0) _ i hat2
    have hlen := partR_len (ivs (rowE 7 e)) (.int .i64 0) i (by omega)
    rw [← hcs0] at hput hlen
    have w1 : IntKind.i64.wrap ((i : Int) + 1) = ((i + 1 : Nat) : Int) := by rw [IntKind.wrap_i64]; omega
    have hih := ih (i + 1) (by omega) _ hput
    have htn := e.t_n
    refine round (its := [.blk 0 wb_z34z_0]) (k0 := [.c c_z34z_k2]) 100 trivial trivial (fun A eA => ?_)
    simp (disch := first | omega | (simp only [avs_len, zz1, zz2, zz3, zz4, zz5, zz6]; omega) | (simp only [cells, scal1, allSz, zz1, zz3, zz2, zz6, zz7, zz8, avs_len, zz9, zz10, zz11, zz12, zz13, reduceCtorEq, *]; done) | fail) only [c_z34z, wl_z34z_2, s_z34z_2, c_z34z_l2, wb_z34z_2, c_z34z_k0, wb_z34z_1, c_z34z_k1, wl_z34z_0, s_z34z_0, c_z34z_l0, wb_z34z_0, c_z34z_k2, go_sem, eA, scal1, List.all_cons, List.all_nil, Bool.and_self]
    have hin := fun hh => erow_inner (φ := 0) (R := Gives [.t 2] (.fz 1 (ivs (rowE 7 e)) none)) i (by omega) (.ro [.int .i64 e.t.n, .fz 2 (xtavs e.t.ps) none]) (.sl 0 8 0 1 0 128) (.int .i64 128) (.int .i64 (i : Nat)) 0 cs0 (k := [.c c_z34z_k0, .blk 1 wb_z34z_1, .c c_z34z_k1, .lp wl_z34z_0 c_z34z_l0, .blk 0 wb_z34z_0, .c c_z34z_k2]) trivial (nx 5) (bump nx 5) e 0 0 (by omega) (by omega) hh
    simp only [Nat.zero_add, ← e.t_n] at hin
    refine hin (fun x y => ?_)
    refine walk 100 (its := [.c c_z34z_k0, .blk 1 wb_z34z_1, .c c_z34z_k1, .lp wl_z34z_0 c_z34z_l0, .blk 0 wb_z34z_0]) (k0 := [.c c_z34z_k2]) trivial trivial (fun A eA => ?_)
    have hcs : cs0.length = 128 := by omega
    simp (disch := first | omega | (simp only [avs_len, zz1, zz2, zz3, zz4, zz5, zz6]; omega) | (simp only [cells, scal1, allSz, zz1, zz3, zz2, zz6, zz7, zz8, avs_len, zz9, zz10, zz11, zz12, zz13, reduceCtorEq, *]; done) | fail) only [c_z34z, wl_z34z_2, s_z34z_2, c_z34z_l2, wb_z34z_2, c_z34z_k0, wb_z34z_1, c_z34z_k1, wl_z34z_0, s_z34z_0, c_z34z_l0, wb_z34z_0, c_z34z_k2, go_sem, eA, scal1, List.all_cons, List.all_nil, Bool.and_self, zz16, w1, hcs, Nat.pow_zero, Nat.div_one]
    exact hih _
theorem ERow_calls (e : E) (hd : e.dep ≤ 8) (ht : e.top < 2 ^ 60) : PCalls Try.prog F_z34z [xtv e.t] (.fz 1 (ivs (rowE 7 e)) none) := by
  have hp0 : List.replicate 128 (AV.int .i64 0) = partR (ivs (rowE 7 e)) (.int .i64 0) 0 := by
    show _ = List.take 0 _ ++ List.replicate (_ - 0) _
    rw [ivs_len, rowE_len]; rfl
  refine calls_z34z ?_
  simp only [List.replicate, List.length_cons, List.length_nil, Nat.reduceAdd, Nat.reduceSub, List.cons_append, List.nil_append]
  refine walk0 100 trivial (fun A eA => ?_)
  simp (disch := first | omega | (simp only [avs_len, zz1, zz2, zz3, zz4, zz5, zz6]; omega) | (simp only [cells, scal1, allSz, zz1, zz3, zz2, zz6, zz7, zz8, avs_len, zz9, zz10, zz11, zz12, zz13, reduceCtorEq, *]; done) | fail) only [c_z34z, wl_z34z_2, s_z34z_2, c_z34z_l2, wb_z34z_2, c_z34z_k0, wb_z34z_1, c_z34z_k1, wl_z34z_0, s_z34z_0, c_z34z_l0, wb_z34z_0, c_z34z_k2, go_sem, eA, scal1, List.all_cons, List.all_nil, Bool.and_self]
  exact erow_loop e hd ht 128 0 rfl _ hp0 (bump zeroC 8)
end Go.Proofs.Ytmokhopjnjecbac
/- The walk through versions, on: behind, alike. -/
-- short
-- fuel 300
namespace Go.Proofs.Ytmokhopjnjecbac
open Go.Ev
set_option linter.unusedVariables false
set_option linter.unusedSimpArgs false
set_option maxRecDepth 100000
set_option maxHeartbeats 3200000
variable {R : List AV → Heap → Ctr → Prop} {k : List It} {H : Heap} {nx : Ctr} {φ : Nat}

theorem vbehind_calls (a b : Ver) (ha : XRt a.event) : PCalls Try.prog F_version_behind [vv a, vv b] (.bool (xleqT b.event a.event && !xteq a.event b.event)) := by
  have c1 := xLeq_calls b.event a.event
  have c2 := xSame4_calls a.event b.event (by have := xrt_size ha; omega)
  rw [xsm_self _ ha] at c2
  refine calls_version_behind (walk0 300 trivial (fun A eA => ?_))
  generalize xteq a.event b.event = q at c2 ⊢
  cases hq : xleqT b.event a.event with
  | false =>
    rw [hq] at c1
    simp (disch := first | omega | (simp only [avs_len, zz1, zz2, zz3, zz4, zz5, zz6]; omega) | (simp only [cells, scal1, allSz, zz1, zz3, zz2, zz6, zz7, zz8, avs_len, zz9, zz10, zz11, zz12, zz13, reduceCtorEq, *]; done) | fail) only [c_version_behind, go_sem, eA, scal1, List.all_cons, List.all_nil, Bool.and_self]
    repeat ((first | refine call0 300 trivial trivial (by first | exact c1 | exact c2) (by first | exact .inl rfl | exact .inr rfl) (fun A eA => ?_) | refine call1 300 trivial trivial (by first | exact c1 | exact c2) (fun A eA => ?_)); simp (disch := first | omega | (simp only [avs_len, zz1, zz2, zz3, zz4, zz5, zz6]; omega) | (simp only [cells, scal1, allSz, zz1, zz3, zz2, zz6, zz7, zz8, avs_len, zz9, zz10, zz11, zz12, zz13, reduceCtorEq, *]; done) | fail) only [c_version_behind, go_sem, eA, scal1, List.all_cons, List.all_nil, Bool.and_self, Bool.false_and])
    exact doneG rfl
  | true =>
    rw [hq] at c1
    simp (disch := first | omega | (simp only [avs_len, zz1, zz2, zz3, zz4, zz5, zz6]; omega) | (simp only [cells, scal1, allSz, zz1, zz3, zz2, zz6, zz7, zz8, avs_len, zz9, zz10, zz11, zz12, zz13, reduceCtorEq, *]; done) | fail) only [c_version_behind, go_sem, eA, scal1, List.all_cons, List.all_nil, Bool.and_self]
    repeat ((first | refine call0 300 trivial trivial (by first | exact c1 | exact c2) (by first | exact .inl rfl | exact .inr rfl) (fun A eA => ?_) | refine call1 300 trivial trivial (by first | exact c1 | exact c2) (fun A eA => ?_)); simp (disch := first | omega | (simp only [avs_len, zz1, zz2, zz3, zz4, zz5, zz6]; omega) | (simp only [cells, scal1, allSz, zz1, zz3, zz2, zz6, zz7, zz8, avs_len, zz9, zz10, zz11, zz12, zz13, reduceCtorEq, *]; done) | fail) only [c_version_behind, go_sem, eA, scal1, List.all_cons, List.all_nil, Bool.and_self, Bool.true_and])
    exact doneG rfl
theorem vSame_calls (a b : Ver) (hs : a.event.size < 2 ^ 60) : PCalls Try.prog F_version_Same [vv a, vv b] (.bool (vhead a b && xsm 8 a.event b.event)) := by
  have c := xSame4_calls a.event b.event hs
  generalize xsm 8 a.event b.event = q at c ⊢
  have no : ¬ (a.client = b.client ∧ a.token = b.token ∧ a.key = b.key ∧ a.value = b.value ∧ a.gone = b.gone) → (vhead a b && q) = false := fun h => by simp only [vhead, cdec_f h, Bool.false_and]
  refine calls_version_Same (walk0 300 trivial (fun A eA => ?_))
  by_cases h1 : a.client = b.client
  case neg =>
    rw [no (fun h => h1 h.1)]
    simp (disch := first | omega | (simp only [avs_len, zz1, zz2, zz3, zz4, zz5, zz6]; omega) | (simp only [cells, scal1, allSz, zz1, zz3, zz2, zz6, zz7, zz8, avs_len, zz9, zz10, zz11, zz12, zz13, reduceCtorEq, *]; done) | fail) only [c_version_Same, go_sem, eA, scal1, List.all_cons, List.all_nil, Bool.and_self]
    exact doneG rfl
  by_cases h2 : a.token = b.token
  case neg =>
    rw [no (fun h => h2 h.2.1)]
    simp (disch := first | omega | (simp only [avs_len, zz1, zz2, zz3, zz4, zz5, zz6]; omega) | (simp only [cells, scal1, allSz, zz1, zz3, zz2, zz6, zz7, zz8, avs_len, zz9, zz10, zz11, zz12, zz13, reduceCtorEq, *]; done) | fail) only [c_version_Same, go_sem, eA, scal1, List.all_cons, List.all_nil, Bool.and_self]
    exact doneG rfl
  by_cases h3 : a.key = b.key
  case neg =>
    have e3 := str_beq_false h3
    rw [no (fun h => h3 h.2.2.1)]
    simp (disch := first | omega | (simp only [avs_len, zz1, zz2, zz3, zz4, zz5, zz6]; omega) | (simp only [cells, scal1, allSz, zz1, zz3, zz2, zz6, zz7, zz8, avs_len, zz9, zz10, zz11, zz12, zz13, reduceCtorEq, *]; done) | fail) only [c_version_Same, go_sem, eA, scal1, List.all_cons, List.all_nil, Bool.and_self, e3]
    exact doneG rfl
  have e3 := str_beq_true h3
  by_cases h4 : a.value = b.value
  case neg =>
    have e4 := str_beq_false h4
    rw [no (fun h => h4 h.2.2.2.1)]
    simp (disch := first | omega | (simp only [avs_len, zz1, zz2, zz3, zz4, zz5, zz6]; omega) | (simp only [cells, scal1, allSz, zz1, zz3, zz2, zz6, zz7, zz8, avs_len, zz9, zz10, zz11, zz12, zz13, reduceCtorEq, *]; done) | fail) only [c_version_Same, go_sem, eA, scal1, List.all_cons, List.all_nil, Bool.and_self, e3, e4]
    exact doneG rfl
  have e4 := str_beq_true h4
  by_cases h5 : a.gone = b.gone
  case neg =>
    have e5 : (a.gone == b.gone) = false := by simpa using h5
    rw [no (fun h => h5 h.2.2.2.2)]
    simp (disch := first | omega | (simp only [avs_len, zz1, zz2, zz3, zz4, zz5, zz6]; omega) | (simp only [cells, scal1, allSz, zz1, zz3, zz2, zz6, zz7, zz8, avs_len, zz9, zz10, zz11, zz12, zz13, reduceCtorEq, *]; done) | fail) only [c_version_Same, go_sem, eA, scal1, List.all_cons, List.all_nil, Bool.and_self, e3, e4, e5]
    exact doneG rfl
  have e5 : (a.gone == b.gone) = true := by simpa using h5
  rw [show vhead a b = true from cdec_t ⟨h1, h2, h3, h4, h5⟩, Bool.true_and]
  simp (disch := first | omega | (simp only [avs_len, zz1, zz2, zz3, zz4, zz5, zz6]; omega) | (simp only [cells, scal1, allSz, zz1, zz3, zz2, zz6, zz7, zz8, avs_len, zz9, zz10, zz11, zz12, zz13, reduceCtorEq, *]; done) | fail) only [c_version_Same, go_sem, eA, scal1, List.all_cons, List.all_nil, Bool.and_self, e3, e4, e5]
  repeat ((first | refine call0 300 trivial trivial (by first | exact c) (by first | exact .inl rfl | exact .inr rfl) (fun A eA => ?_) | refine call1 300 trivial trivial (by first | exact c) (fun A eA => ?_)); simp (disch := first | omega | (simp only [avs_len, zz1, zz2, zz3, zz4, zz5, zz6]; omega) | (simp only [cells, scal1, allSz, zz1, zz3, zz2, zz6, zz7, zz8, avs_len, zz9, zz10, zz11, zz12, zz13, reduceCtorEq, *]; done) | fail) only [c_version_Same, go_sem, eA, scal1, List.all_cons, List.all_nil, Bool.and_self])
  exact doneG rfl
theorem refVBehind_calls (a b : Ver) (ha : XRt a.event) (hb : XRt b.event) : PCalls Try.prog F_ref04_VBehind [vv a, vv b] (.bool (xleqT b.event a.event && !xteq a.event b.event)) := by
  obtain ⟨x, hx, x1, x2, x3, x4⟩ := id ha
  obtain ⟨y, hy, y1, y2, y3, y4⟩ := id hb
  have tx := xtop_rt x1 x4
  have ty := xtop_rt y1 y4
  have c1 := ERow_calls x x1 tx
  have c2 := ERow_calls y y1 ty
  rw [← hx] at c1
  rw [← hy] at c2
  have c3 := refLeq_calls (rowE 7 y) (rowE 7 x) (by rw [rowE_len, rowE_len]) (by rw [rowE_len]; omega)
  have c4 := refEqual_calls (rowE 7 x) (rowE 7 y) (by rw [rowE_len, rowE_len]) (by rw [rowE_len]; omega)
  have e1 : xleqT b.event a.event = leqR (rowE 7 y) (rowE 7 x) := by rw [hx, hy]; exact xleqT_b (hy ▸ hb) (hx ▸ ha)
  have e2 : eqR (rowE 7 x) (rowE 7 y) = xteq a.event b.event := by
    rw [Bool.eq_iff_iff, eqR_true (by rw [rowE_len, rowE_len]), xteq_true, hx, hy]
    constructor
    · intro h
      have h1 := treeE_row 7 x x3 (by omega)
      have h2 := treeE_row 7 y y3 (by omega)
      rw [← h1, ← h2, h]
    · intro h; rw [E.inj h]
  rw [e2] at c4
  rw [← e1] at c3
  generalize xteq a.event b.event = q at c4 ⊢
  refine calls_ref04_VBehind (walk0 300 trivial (fun A eA => ?_))
  cases hq : xleqT b.event a.event with
  | false =>
    rw [hq] at c3
    simp (disch := first | omega | (simp only [avs_len, zz1, zz2, zz3, zz4, zz5, zz6]; omega) | (simp only [cells, scal1, allSz, zz1, zz3, zz2, zz6, zz7, zz8, avs_len, zz9, zz10, zz11, zz12, zz13, reduceCtorEq, *]; done) | fail) only [c_ref04_VBehind, go_sem, eA, scal1, List.all_cons, List.all_nil, Bool.and_self]
    repeat ((first | refine call0 300 trivial trivial (by first | exact c1 | exact c2 | exact c3 | exact c4) (by first | exact .inl rfl | exact .inr rfl) (fun A eA => ?_) | refine call1 300 trivial trivial (by first | exact c1 | exact c2 | exact c3 | exact c4) (fun A eA => ?_)); simp (disch := first | omega | (simp only [avs_len, zz1, zz2, zz3, zz4, zz5, zz6]; omega) | (simp only [cells, scal1, allSz, zz1, zz3, zz2, zz6, zz7, zz8, avs_len, zz9, zz10, zz11, zz12, zz13, reduceCtorEq, *]; done) | fail) only [c_ref04_VBehind, go_sem, eA, scal1, List.all_cons, List.all_nil, Bool.and_self, Bool.false_and])
    exact doneG rfl
  | true =>
    rw [hq] at c3
    simp (disch := first | omega | (simp only [avs_len, zz1, zz2, zz3, zz4, zz5, zz6]; omega) | (simp only [cells, scal1, allSz, zz1, zz3, zz2, zz6, zz7, zz8, avs_len, zz9, zz10, zz11, zz12, zz13, reduceCtorEq, *]; done) | fail) only [c_ref04_VBehind, go_sem, eA, scal1, List.all_cons, List.all_nil, Bool.and_self]
    repeat ((first | refine call0 300 trivial trivial (by first | exact c1 | exact c2 | exact c3 | exact c4) (by first | exact .inl rfl | exact .inr rfl) (fun A eA => ?_) | refine call1 300 trivial trivial (by first | exact c1 | exact c2 | exact c3 | exact c4) (fun A eA => ?_)); simp (disch := first | omega | (simp only [avs_len, zz1, zz2, zz3, zz4, zz5, zz6]; omega) | (simp only [cells, scal1, allSz, zz1, zz3, zz2, zz6, zz7, zz8, avs_len, zz9, zz10, zz11, zz12, zz13, reduceCtorEq, *]; done) | fail) only [c_ref04_VBehind, go_sem, eA, scal1, List.all_cons, List.all_nil, Bool.and_self, Bool.true_and])
    exact doneG rfl
end Go.Proofs.Ytmokhopjnjecbac
/- Versions, all right and of one key; what is asked of each. -/
-- short
-- fuel 300
namespace Go.Proofs.Ytmokhopjnjecbac
open Go.Ev
set_option linter.unusedVariables false
set_option linter.unusedSimpArgs false
set_option maxRecDepth 100000
set_option maxHeartbeats 3200000
theorem frz_ro1 {cs : List AV} (h : ∀ (k : Nat) (H : Heap) (ok : List AV → List (Nat × Nat) → Out) (bd : Out), mapK (frzK (k + 1) H) cs ok bd = ok cs []) :
    ∀ n, 7 ≤ n → ∀ (H : Heap) (ok : List AV → List (Nat × Nat) → Out) (bd : Out), mapK (frzK n H) [.ro cs] ok bd = ok [.ro cs] [] := by
  intro n hn H ok bd
  obtain ⟨k, rfl⟩ : ∃ k, n = k + 2 := ⟨n - 2, by omega⟩
  simp only [mapK, frzK_ro, h]; rfl
noncomputable def okV (k0 : ByteArray) (v : Ver) : Bool := vrtb v && (v.key.toList == k0.toList)
/-- All right, and of one key? -/
noncomputable def oneB : List Ver → Bool
  | [] => true
  | v0 :: l => (v0 :: l).all (okV v0.key)
theorem one1_calls (v v0 : Ver) (l : List Ver) : PCalls Try.prog F_version_one_1 (vv v :: [.ro [qv (v0 :: l)]]) (.bool (!okV v0.key v)) := by
  have c1 := vRight_calls v
  have g0 : ((v0 :: l).map vv)[((0 : Int)).toNat]? = some (vv v0) := rfl
  unfold okV
  cases hr : vrtb v with
  | false =>
    rw [hr] at c1
    refine calls_version_one_1 (walk0 300 trivial (fun A eA => ?_))
    simp (disch := first | omega | (simp only [avs_len, zz1, zz2, zz3, zz4, zz5, zz6]; omega) | (simp only [cells, scal1, allSz, zz1, zz3, zz2, zz6, zz7, zz8, avs_len, zz9, zz10, zz11, zz12, zz13, reduceCtorEq, *]; done) | fail) only [c_version_one_1, go_sem, eA, scal1, List.all_cons, List.all_nil, ↓optI_of g0]
    refine call0 300 trivial trivial c1 (.inl rfl) (fun A eA => ?_)
    simp (disch := first | omega | (simp only [avs_len, zz1, zz2, zz3, zz4, zz5, zz6]; omega) | (simp only [cells, scal1, allSz, zz1, zz3, zz2, zz6, zz7, zz8, avs_len, zz9, zz10, zz11, zz12, zz13, reduceCtorEq, *]; done) | fail) only [c_version_one_1, go_sem, eA, scal1, List.all_cons, List.all_nil, ↓optI_of g0]
    exact doneG rfl
  | true =>
    rw [hr] at c1
    refine calls_version_one_1 (walk0 300 trivial (fun A eA => ?_))
    simp (disch := first | omega | (simp only [avs_len, zz1, zz2, zz3, zz4, zz5, zz6]; omega) | (simp only [cells, scal1, allSz, zz1, zz3, zz2, zz6, zz7, zz8, avs_len, zz9, zz10, zz11, zz12, zz13, reduceCtorEq, *]; done) | fail) only [c_version_one_1, go_sem, eA, scal1, List.all_cons, List.all_nil, ↓optI_of g0]
    refine call0 300 trivial trivial c1 (.inl rfl) (fun A eA => ?_)
    simp (disch := first | omega | (simp only [avs_len, zz1, zz2, zz3, zz4, zz5, zz6]; omega) | (simp only [cells, scal1, allSz, zz1, zz3, zz2, zz6, zz7, zz8, avs_len, zz9, zz10, zz11, zz12, zz13, reduceCtorEq, *]; done) | fail) only [c_version_one_1, go_sem, eA, scal1, List.all_cons, List.all_nil, ↓optI_of g0]
    exact doneG (by simp (disch := first | omega | (simp only [avs_len, zz1, zz2, zz3, zz4, zz5, zz6]; omega) | (simp only [cells, scal1, allSz, zz1, zz3, zz2, zz6, zz7, zz8, avs_len, zz9, zz10, zz11, zz12, zz13, reduceCtorEq, *]; done) | fail) only [go_sem, Bool.true_and])
theorem one_calls (l : List Ver) (hl : l.length ≤ 100000) : PCalls Try.prog F_version_one [qv l] (.bool (oneB l)) := by
  have hc : ∀ n, 7 ≤ n → ∀ (H : Heap) (ok : List AV → List (Nat × Nat) → Out) (bd : Out), mapK (frzK n H) [.ro [qv l]] ok bd = ok [.ro [qv l]] [] := frz_ro1 (fun k H ok bd => rfl)
  have c1 : PCalls Try.prog F_z13z [qv l, .func F_version_one_1 [.ro [qv l]]] (.bool (!oneB l)) := by
    cases l with
    | nil => exact vany_calls F_version_one_1 [.ro [qv []]] (fun _ => false) [] none hl (fun v hv => by cases hv) hc
    | cons v0 l =>
      have := vany_calls F_version_one_1 [.ro [qv (v0 :: l)]] (fun v => !okV v0.key v) (v0 :: l) none hl (fun v _ => one1_calls v v0 l) hc
      rw [show ((v0 :: l).any fun v => !okV v0.key v) = !oneB (v0 :: l) by rw [oneB, List.not_all_eq_any_not]] at this
      exact this
  generalize oneB l = b at *
  refine calls_version_one (walk0 300 trivial (fun A eA => ?_))
  simp (disch := first | omega | (simp only [avs_len, zz1, zz2, zz3, zz4, zz5, zz6]; omega) | (simp only [cells, scal1, allSz, zz1, zz3, zz2, zz6, zz7, zz8, avs_len, zz9, zz10, zz11, zz12, zz13, reduceCtorEq, *]; done) | fail) only [c_version_one, go_sem, eA, scal1]
  refine call0 300 trivial trivial c1 (.inl rfl) (fun A eA => ?_)
  simp (disch := first | omega | (simp only [avs_len, zz1, zz2, zz3, zz4, zz5, zz6]; omega) | (simp only [cells, scal1, allSz, zz1, zz3, zz2, zz6, zz7, zz8, avs_len, zz9, zz10, zz11, zz12, zz13, reduceCtorEq, *]; done) | fail) only [c_version_one, go_sem, eA, scal1]
  exact doneG (by cases b <;> rfl)
/-- Is it behind that one: does it know all that, and more? -/
noncomputable def bhB (b a : Ver) : Bool := xleqT a.event b.event && !xteq b.event a.event
theorem frz_vcs (a : Ver) : ∀ n, 7 ≤ n → ∀ (H : Heap) (ok : List AV → List (Nat × Nat) → Out) (bd : Out), mapK (frzK n H) [.ro (vcs a)] ok bd = ok [.ro (vcs a)] [] := frz_ro1 (fun k H ok bd => rfl)
theorem mrg1_calls (b a : Ver) : PCalls Try.prog F_z22z_1 (vv b :: [.ro (vcs a)]) (.bool (decide (ordZ a b = 0))) := by
  have c1 := named_calls a b
  refine calls_z22z_1 (walk0 300 trivial (fun A eA => ?_))
  simp (disch := first | omega | (simp only [avs_len, zz1, zz2, zz3, zz4, zz5, zz6]; omega) | (simp only [cells, scal1, allSz, zz1, zz3, zz2, zz6, zz7, zz8, avs_len, zz9, zz10, zz11, zz12, zz13, reduceCtorEq, *]; done) | fail) only [c_z22z_1, go_sem, eA, scal1, List.all_cons, List.all_nil]
  refine call0 300 trivial trivial c1 (.inl rfl) (fun A eA => ?_)
  simp (disch := first | omega | (simp only [avs_len, zz1, zz2, zz3, zz4, zz5, zz6]; omega) | (simp only [cells, scal1, allSz, zz1, zz3, zz2, zz6, zz7, zz8, avs_len, zz9, zz10, zz11, zz12, zz13, reduceCtorEq, *]; done) | fail) only [c_z22z_1, go_sem, eA, scal1]
  exact doneG rfl
theorem mrg2_calls (b a : Ver) (hb : XRt b.event) : PCalls Try.prog F_z22z_2 (vv b :: [.ro (vcs a)]) (.bool (bhB b a)) := by
  have c1 := vbehind_calls b a hb
  unfold bhB
  refine calls_z22z_2 (walk0 300 trivial (fun A eA => ?_))
  simp (disch := first | omega | (simp only [avs_len, zz1, zz2, zz3, zz4, zz5, zz6]; omega) | (simp only [cells, scal1, allSz, zz1, zz3, zz2, zz6, zz7, zz8, avs_len, zz9, zz10, zz11, zz12, zz13, reduceCtorEq, *]; done) | fail) only [c_z22z_2, go_sem, eA, scal1, List.all_cons, List.all_nil]
  refine call0 300 trivial trivial c1 (.inl rfl) (fun A eA => ?_)
  simp (disch := first | omega | (simp only [avs_len, zz1, zz2, zz3, zz4, zz5, zz6]; omega) | (simp only [cells, scal1, allSz, zz1, zz3, zz2, zz6, zz7, zz8, avs_len, zz9, zz10, zz11, zz12, zz13, reduceCtorEq, *]; done) | fail) only [c_z22z_2, go_sem, eA, scal1]
  exact doneG rfl
theorem sib1_calls (b a : Ver) (hb : XRt b.event) : PCalls Try.prog F_z20z_1 (vv b :: [.ro (vcs a)]) (.bool (bhB b a)) := by
  have c1 := vbehind_calls b a hb
  unfold bhB
  refine calls_z20z_1 (walk0 300 trivial (fun A eA => ?_))
  simp (disch := first | omega | (simp only [avs_len, zz1, zz2, zz3, zz4, zz5, zz6]; omega) | (simp only [cells, scal1, allSz, zz1, zz3, zz2, zz6, zz7, zz8, avs_len, zz9, zz10, zz11, zz12, zz13, reduceCtorEq, *]; done) | fail) only [c_z20z_1, go_sem, eA, scal1, List.all_cons, List.all_nil]
  refine call0 300 trivial trivial c1 (.inl rfl) (fun A eA => ?_)
  simp (disch := first | omega | (simp only [avs_len, zz1, zz2, zz3, zz4, zz5, zz6]; omega) | (simp only [cells, scal1, allSz, zz1, zz3, zz2, zz6, zz7, zz8, avs_len, zz9, zz10, zz11, zz12, zz13, reduceCtorEq, *]; done) | fail) only [c_z20z_1, go_sem, eA, scal1]
  exact doneG rfl
theorem less_calls (a b : Ver) : PCalls Try.prog F_ref04_less [vv a, vv b] (.bool (ltV a b)) := by
  by_cases h1 : a.client < b.client
  · rw [(ltV_iff a b).2 (.inl h1)]
    refine calls_ref04_less (walk0 300 trivial (fun A eA => ?_))
    simp (disch := first | omega | (simp only [avs_len, zz1, zz2, zz3, zz4, zz5, zz6]; omega) | (simp only [cells, scal1, allSz, zz1, zz3, zz2, zz6, zz7, zz8, avs_len, zz9, zz10, zz11, zz12, zz13, reduceCtorEq, *]; done) | fail) only [c_ref04_less, go_sem, eA, scal1, List.all_cons, List.all_nil]
    exact doneG rfl
  · by_cases h2 : a.client = b.client
    · by_cases h3 : a.token < b.token
      · rw [(ltV_iff a b).2 (.inr ⟨h2, h3⟩)]
        refine calls_ref04_less (walk0 300 trivial (fun A eA => ?_))
        simp (disch := first | omega | (simp only [avs_len, zz1, zz2, zz3, zz4, zz5, zz6]; omega) | (simp only [cells, scal1, allSz, zz1, zz3, zz2, zz6, zz7, zz8, avs_len, zz9, zz10, zz11, zz12, zz13, reduceCtorEq, *]; done) | fail) only [c_ref04_less, go_sem, eA, scal1, List.all_cons, List.all_nil]
        exact doneG rfl
      · rw [show ltV a b = false by rw [Bool.eq_false_iff, ne_eq, ltV_iff]; omega]
        refine calls_ref04_less (walk0 300 trivial (fun A eA => ?_))
        simp (disch := first | omega | (simp only [avs_len, zz1, zz2, zz3, zz4, zz5, zz6]; omega) | (simp only [cells, scal1, allSz, zz1, zz3, zz2, zz6, zz7, zz8, avs_len, zz9, zz10, zz11, zz12, zz13, reduceCtorEq, *]; done) | fail) only [c_ref04_less, go_sem, eA, scal1, List.all_cons, List.all_nil]
        exact doneG rfl
    · rw [show ltV a b = false by rw [Bool.eq_false_iff, ne_eq, ltV_iff]; omega]
      refine calls_ref04_less (walk0 300 trivial (fun A eA => ?_))
      simp (disch := first | omega | (simp only [avs_len, zz1, zz2, zz3, zz4, zz5, zz6]; omega) | (simp only [cells, scal1, allSz, zz1, zz3, zz2, zz6, zz7, zz8, avs_len, zz9, zz10, zz11, zz12, zz13, reduceCtorEq, *]; done) | fail) only [c_ref04_less, go_sem, eA, scal1, List.all_cons, List.all_nil]
      exact doneG rfl
end Go.Proofs.Ytmokhopjnjecbac
/- The functions' bodies, compiled; printed by a program of mine (gen.py); that they are is checked here. -/
namespace Go.Proofs.Ytmokhopjnjecbac
open Go.Ev
set_option maxRecDepth 100000

/-- slices.order2CmpFunc[pedlar/api.Version]: parameters [78, 3, 3, 272, 174], results [.t 10, .t 11], calls  -/
def c_z12z : Cd := (.seq (.reg [⟨some 10, none, .mv, [.c (.int .i64 0)]⟩, ⟨some 11, none, .mv, [.c (.int .i64 0)]⟩]) (.seq (.seq (.reg [⟨some 12, none, .mv, [.t 4]⟩, ⟨some 13, none, .mv, [.t 0]⟩, ⟨some 14, none, .mv, [.t 2]⟩, ⟨some 15, none, (.ixS 7), [.t 13, .t 14]⟩, ⟨some 16, none, (.ldn 7), [.t 15]⟩, ⟨some 17, none, .mv, [.t 0]⟩, ⟨some 18, none, .mv, [.t 1]⟩, ⟨some 19, none, (.ixS 7), [.t 17, .t 18]⟩, ⟨some 20, none, (.ldn 7), [.t 19]⟩, ⟨some 21, none, (.callv 0), [.t 12, .t 16, .t 20]⟩, ⟨some 22, none, (.bin .lss), [.t 21, .c (.int .i64 0)]⟩]) (.cond (.t 22) (.seq (.reg [⟨some 23, none, .mv, [.t 3]⟩, ⟨some 24, none, .nck, [.t 23]⟩, ⟨some 25, none, .ld1, [.t 24]⟩, ⟨some 26, none, (.bin .add), [.t 25, .c (.int .i64 1)]⟩, ⟨some 27, none, .nck, [.t 23]⟩, ⟨none, none, (.st 1), [.t 27, .t 26]⟩]) (.seq (.reg [⟨some 28, none, .mv, [.t 2]⟩, ⟨some 29, none, .mv, [.t 1]⟩, ⟨some 10, none, .mv, [.t 28]⟩, ⟨some 11, none, .mv, [.t 29]⟩]) .ret)) .skip)) (.seq (.reg [⟨some 30, none, .mv, [.t 1]⟩, ⟨some 31, none, .mv, [.t 2]⟩, ⟨some 10, none, .mv, [.t 30]⟩, ⟨some 11, none, .mv, [.t 31]⟩]) .ret)))
theorem comp_z12z : compF Try.prog (mset [] [] []) (cset [] [] []) (wset [] []) Try.f242 = some c_z12z := by kernel_rfl
theorem ok_z12z : fnOk Try.prog F_z12z = true := by kernel_rfl
theorem calls_z12z {args : List AV} {r : AV} (h : RunsX Try.prog 0 (Gives [.t 10, .t 11] r) [.c c_z12z] (args ++ List.replicate (32 - args.length) (.tup [])) [] zeroC) : PCalls Try.prog F_z12z args r :=
  pcallsF Try.checked.mixed Try.func242 ok_z12z comp_z12z rfl (rs := [.t 10, .t 11]) (by kernel_rfl) h
theorem hcalls_z12z {args : List AV} {Hin Hout : Heap} {nx nx2 : Ctr} {r : AV} (φ : Nat) (ks : List (Nat × Nat)) (h : RunsX Try.prog φ (GivesH ks [.t 10, .t 11] r Hout nx2) [.c c_z12z] (args ++ List.replicate (32 - args.length) (.tup [])) Hin nx) : HCalls Try.prog F_z12z args Hin nx r Hout nx2 :=
  hcallsF Try.checked.mixed Try.func242 ok_z12z comp_z12z rfl (rs := [.t 10, .t 11]) (by kernel_rfl) φ ks h

/-- slices.medianCmpFunc[pedlar/api.Version]: parameters [78, 3, 3, 3, 272, 174], results [.t 12], calls slices_order2CmpFunc_api_Version -/
def c_z11z : Cd := (.seq (.reg [⟨some 12, none, .mv, [.c (.int .i64 0)]⟩]) (.seq (.reg [⟨some 14, none, .mv, [.t 0]⟩, ⟨some 15, none, .mv, [.t 1]⟩, ⟨some 16, none, .mv, [.t 2]⟩, ⟨some 17, none, .mv, [.t 4]⟩, ⟨some 18, none, .mv, [.t 5]⟩, ⟨some 19, none, (.call F_z12z 2), [.t 14, .t 15, .t 16, .t 17, .t 18]⟩, ⟨some 13, none, .mv, [.t 19]⟩, ⟨some 20, none, (.ext 0), [.t 13]⟩, ⟨some 21, none, (.ext 1), [.t 13]⟩, ⟨some 1, none, .mv, [.t 20]⟩, ⟨some 2, none, .mv, [.t 21]⟩]) (.seq (.reg [⟨some 23, none, .mv, [.t 0]⟩, ⟨some 24, none, .mv, [.t 2]⟩, ⟨some 25, none, .mv, [.t 3]⟩, ⟨some 26, none, .mv, [.t 4]⟩, ⟨some 27, none, .mv, [.t 5]⟩, ⟨some 28, none, (.call F_z12z 2), [.t 23, .t 24, .t 25, .t 26, .t 27]⟩, ⟨some 22, none, .mv, [.t 28]⟩, ⟨some 29, none, (.ext 0), [.t 22]⟩, ⟨some 30, none, (.ext 1), [.t 22]⟩, ⟨some 2, none, .mv, [.t 29]⟩, ⟨some 3, none, .mv, [.t 30]⟩]) (.seq (.reg [⟨some 32, none, .mv, [.t 0]⟩, ⟨some 33, none, .mv, [.t 1]⟩, ⟨some 34, none, .mv, [.t 2]⟩, ⟨some 35, none, .mv, [.t 4]⟩, ⟨some 36, none, .mv, [.t 5]⟩, ⟨some 37, none, (.call F_z12z 2), [.t 32, .t 33, .t 34, .t 35, .t 36]⟩, ⟨some 31, none, .mv, [.t 37]⟩, ⟨some 38, none, (.ext 0), [.t 31]⟩, ⟨some 39, none, (.ext 1), [.t 31]⟩, ⟨some 1, none, .mv, [.t 38]⟩, ⟨some 2, none, .mv, [.t 39]⟩]) (.seq (.reg [⟨some 40, none, .mv, [.t 2]⟩, ⟨some 12, none, .mv, [.t 40]⟩]) .ret)))))
theorem comp_z11z : compF Try.prog (mset [] [] []) (cset [] [F_z12z] []) (wset [] []) Try.f232 = some c_z11z := by kernel_rfl
theorem ok_z11z : fnOk Try.prog F_z11z = true := by kernel_rfl
theorem calls_z11z {args : List AV} {r : AV} (h : RunsX Try.prog 0 (Gives [.t 12] r) [.c c_z11z] (args ++ List.replicate (41 - args.length) (.tup [])) [] zeroC) : PCalls Try.prog F_z11z args r :=
  pcallsF Try.checked.mixed Try.func232 ok_z11z comp_z11z rfl (rs := [.t 12]) (by kernel_rfl) h
theorem hcalls_z11z {args : List AV} {Hin Hout : Heap} {nx nx2 : Ctr} {r : AV} (φ : Nat) (ks : List (Nat × Nat)) (h : RunsX Try.prog φ (GivesH ks [.t 12] r Hout nx2) [.c c_z11z] (args ++ List.replicate (41 - args.length) (.tup [])) Hin nx) : HCalls Try.prog F_z11z args Hin nx r Hout nx2 :=
  hcallsF Try.checked.mixed Try.func232 ok_z11z comp_z11z rfl (rs := [.t 12]) (by kernel_rfl) φ ks h

/-- slices.medianAdjacentCmpFunc[pedlar/api.Version]: parameters [78, 3, 272, 174], results [.t 8], calls slices_medianCmpFunc_api_Version -/
def c_z2z : Cd := (.seq (.reg [⟨some 8, none, .mv, [.c (.int .i64 0)]⟩]) (.seq (.reg [⟨some 9, none, .mv, [.t 0]⟩, ⟨some 10, none, .mv, [.t 1]⟩, ⟨some 11, none, (.bin .sub), [.t 10, .c (.int .i64 1)]⟩, ⟨some 12, none, .mv, [.t 1]⟩, ⟨some 13, none, .mv, [.t 1]⟩, ⟨some 14, none, (.bin .add), [.t 13, .c (.int .i64 1)]⟩, ⟨some 15, none, .mv, [.t 2]⟩, ⟨some 16, none, .mv, [.t 3]⟩, ⟨some 17, none, (.call F_z11z 2), [.t 9, .t 11, .t 12, .t 14, .t 15, .t 16]⟩, ⟨some 8, none, .mv, [.t 17]⟩]) .ret))
theorem comp_z2z : compF Try.prog (mset [] [] []) (cset [] [F_z11z] []) (wset [] []) Try.f231 = some c_z2z := by kernel_rfl
theorem ok_z2z : fnOk Try.prog F_z2z = true := by kernel_rfl
theorem calls_z2z {args : List AV} {r : AV} (h : RunsX Try.prog 0 (Gives [.t 8] r) [.c c_z2z] (args ++ List.replicate (18 - args.length) (.tup [])) [] zeroC) : PCalls Try.prog F_z2z args r :=
  pcallsF Try.checked.mixed Try.func231 ok_z2z comp_z2z rfl (rs := [.t 8]) (by kernel_rfl) h
theorem hcalls_z2z {args : List AV} {Hin Hout : Heap} {nx nx2 : Ctr} {r : AV} (φ : Nat) (ks : List (Nat × Nat)) (h : RunsX Try.prog φ (GivesH ks [.t 8] r Hout nx2) [.c c_z2z] (args ++ List.replicate (18 - args.length) (.tup [])) Hin nx) : HCalls Try.prog F_z2z args Hin nx r Hout nx2 :=
  hcallsF Try.checked.mixed Try.func231 ok_z2z comp_z2z rfl (rs := [.t 8]) (by kernel_rfl) φ ks h

/-- slices.choosePivotCmpFunc[pedlar/api.Version]: parameters [78, 3, 3, 174], results [.t 8, .t 9], calls slices_medianAdjacentCmpFunc_api_Version, slices_medianCmpFunc_api_Version -/
def c_z6z : Cd := (.seq (.reg [⟨some 8, none, .mv, [.c (.int .i64 0)]⟩, ⟨some 9, none, .mv, [.c (.int .i64 0)]⟩]) (.seq (.reg [⟨some 15, none, .mv, [.t 2]⟩, ⟨some 16, none, .mv, [.t 1]⟩, ⟨some 17, none, (.bin .sub), [.t 15, .t 16]⟩, ⟨some 10, none, .mv, [.t 17]⟩]) (.seq (.reg [⟨some 11, none, (.new [(.int .i64 0)] 11), []⟩]) (.seq (.reg [⟨some 18, none, .mv, [.t 1]⟩, ⟨some 19, none, .mv, [.t 10]⟩, ⟨some 20, none, (.bin .quo), [.t 19, .c (.int .i64 4)]⟩, ⟨some 21, none, (.bin .mul), [.t 20, .c (.int .i64 1)]⟩, ⟨some 22, none, (.bin .add), [.t 18, .t 21]⟩, ⟨some 12, none, .mv, [.t 22]⟩]) (.seq (.reg [⟨some 23, none, .mv, [.t 1]⟩, ⟨some 24, none, .mv, [.t 10]⟩, ⟨some 25, none, (.bin .quo), [.t 24, .c (.int .i64 4)]⟩, ⟨some 26, none, (.bin .mul), [.t 25, .c (.int .i64 2)]⟩, ⟨some 27, none, (.bin .add), [.t 23, .t 26]⟩, ⟨some 13, none, .mv, [.t 27]⟩]) (.seq (.reg [⟨some 28, none, .mv, [.t 1]⟩, ⟨some 29, none, .mv, [.t 10]⟩, ⟨some 30, none, (.bin .quo), [.t 29, .c (.int .i64 4)]⟩, ⟨some 31, none, (.bin .mul), [.t 30, .c (.int .i64 3)]⟩, ⟨some 32, none, (.bin .add), [.t 28, .t 31]⟩, ⟨some 14, none, .mv, [.t 32]⟩]) (.seq (.seq (.reg [⟨some 33, none, .mv, [.t 10]⟩, ⟨some 34, none, (.bin .geq), [.t 33, .c (.int .i64 8)]⟩]) (.cond (.t 34) (.seq (.seq (.reg [⟨some 35, none, .mv, [.t 10]⟩, ⟨some 36, none, (.bin .geq), [.t 35, .c (.int .i64 50)]⟩]) (.cond (.t 36) (.seq (.reg [⟨some 37, none, .mv, [.t 0]⟩, ⟨some 38, none, .mv, [.t 12]⟩, ⟨some 39, none, .mv, [.t 3]⟩, ⟨some 40, none, (.call F_z2z 2), [.t 37, .t 38, .t 11, .t 39]⟩, ⟨some 12, none, .mv, [.t 40]⟩]) (.seq (.reg [⟨some 41, none, .mv, [.t 0]⟩, ⟨some 42, none, .mv, [.t 13]⟩, ⟨some 43, none, .mv, [.t 3]⟩, ⟨some 44, none, (.call F_z2z 2), [.t 41, .t 42, .t 11, .t 43]⟩, ⟨some 13, none, .mv, [.t 44]⟩]) (.reg [⟨some 45, none, .mv, [.t 0]⟩, ⟨some 46, none, .mv, [.t 14]⟩, ⟨some 47, none, .mv, [.t 3]⟩, ⟨some 48, none, (.call F_z2z 2), [.t 45, .t 46, .t 11, .t 47]⟩, ⟨some 14, none, .mv, [.t 48]⟩]))) .skip)) (.reg [⟨some 49, none, .mv, [.t 0]⟩, ⟨some 50, none, .mv, [.t 12]⟩, ⟨some 51, none, .mv, [.t 13]⟩, ⟨some 52, none, .mv, [.t 14]⟩, ⟨some 53, none, .mv, [.t 3]⟩, ⟨some 54, none, (.call F_z11z 2), [.t 49, .t 50, .t 51, .t 52, .t 11, .t 53]⟩, ⟨some 13, none, .mv, [.t 54]⟩])) .skip)) (.seq (.reg [⟨some 55, none, .ld1, [.t 11]⟩]) (.blk 0 [] (.seq (.reg [⟨some 58, none, (.bin .eql), [.t 55, .c (.int .i64 0)]⟩, ⟨some 57, none, .mv, [.t 58]⟩]) (.cond (.t 57) (.seq (.reg [⟨some 59, none, .mv, [.t 13]⟩, ⟨some 8, none, .mv, [.t 59]⟩, ⟨some 9, none, .mv, [.c (.int .i64 1)]⟩]) .ret) (.seq (.reg [⟨some 61, none, (.bin .eql), [.t 55, .c (.int .i64 12)]⟩, ⟨some 60, none, .mv, [.t 61]⟩]) (.cond (.t 60) (.seq (.reg [⟨some 62, none, .mv, [.t 13]⟩, ⟨some 8, none, .mv, [.t 62]⟩, ⟨some 9, none, .mv, [.c (.int .i64 2)]⟩]) .ret) (.seq (.reg [⟨some 56, none, .mv, [.t 13]⟩, ⟨some 8, none, .mv, [.t 56]⟩, ⟨some 9, none, .mv, [.c (.int .i64 0)]⟩]) .ret))))))))))))))
theorem comp_z6z : compF Try.prog (mset [] [] []) (cset [] [F_z11z, F_z2z] []) (wset [] []) Try.f213 = some c_z6z := by kernel_rfl
theorem ok_z6z : fnOk Try.prog F_z6z = true := by kernel_rfl
theorem calls_z6z {args : List AV} {r : AV} (h : RunsX Try.prog 0 (Gives [.t 8, .t 9] r) [.c c_z6z] (args ++ List.replicate (63 - args.length) (.tup [])) [] zeroC) : PCalls Try.prog F_z6z args r :=
  pcallsF Try.checked.mixed Try.func213 ok_z6z comp_z6z rfl (rs := [.t 8, .t 9]) (by kernel_rfl) h
theorem hcalls_z6z {args : List AV} {Hin Hout : Heap} {nx nx2 : Ctr} {r : AV} (φ : Nat) (ks : List (Nat × Nat)) (h : RunsX Try.prog φ (GivesH ks [.t 8, .t 9] r Hout nx2) [.c c_z6z] (args ++ List.replicate (63 - args.length) (.tup [])) Hin nx) : HCalls Try.prog F_z6z args Hin nx r Hout nx2 :=
  hcallsF Try.checked.mixed Try.func213 ok_z6z comp_z6z rfl (rs := [.t 8, .t 9]) (by kernel_rfl) φ ks h

/-- slices.insertionSortCmpFunc[pedlar/api.Version]: parameters [78, 3, 3, 174], results [], calls  -/
def wl_z3z_2 : Mk := ⟨[false, false, false, false, true, true, true, true, false, false, true, true, true, true, true, true, true, true, true, true, true, true, true, true, true, true, true, true, true, true, true, true, true, true, true, true, true, true, true, true, true, true, true, true, true, true, true, true, true, true, true, true, true], []⟩
abbrev s_z3z_2 (t0 t1 t2 t3 t8 t9 : AV) : List AV := [t0, t1, t2, t3, .any, .any, .any, .any, t8, t9, .any, .any, .any, .any, .any, .any, .any, .any, .any, .any, .any, .any, .any, .any, .any, .any, .any, .any, .any, .any, .any, .any, .any, .any, .any, .any, .any, .any, .any, .any, .any, .any, .any, .any, .any, .any, .any, .any, .any, .any, .any, .any, .any]
def c_z3z_l2 : Cd := (.seq (.seq (.reg [⟨some 18, none, .mv, [.t 9]⟩, ⟨some 19, none, .mv, [.t 1]⟩, ⟨some 20, none, (.bin .gtr), [.t 18, .t 19]⟩, ⟨some 21, none, .mv, [.t 20]⟩, ⟨some 22, (some (21, true)), .mv, [.t 3]⟩, ⟨some 23, (some (21, true)), .mv, [.t 0]⟩, ⟨some 24, (some (21, true)), .mv, [.t 9]⟩, ⟨some 25, (some (21, true)), (.ixS 7), [.t 23, .t 24]⟩, ⟨some 26, (some (21, true)), (.ldn 7), [.t 25]⟩, ⟨some 27, (some (21, true)), .mv, [.t 0]⟩, ⟨some 28, (some (21, true)), .mv, [.t 9]⟩, ⟨some 29, (some (21, true)), (.bin .sub), [.t 28, .c (.int .i64 1)]⟩, ⟨some 30, (some (21, true)), (.ixS 7), [.t 27, .t 29]⟩, ⟨some 31, (some (21, true)), (.ldn 7), [.t 30]⟩, ⟨some 32, (some (21, true)), (.callv 0), [.t 22, .t 26, .t 31]⟩, ⟨some 33, (some (21, true)), (.bin .lss), [.t 32, .c (.int .i64 0)]⟩, ⟨some 34, none, .pick, [.t 21, .t 33, .c (.bool false)]⟩]) (.cond (.t 34) .skip (.exit 2))) (.seq (.blk 3 [] (.reg [⟨some 37, none, .mv, [.t 0]⟩, ⟨some 38, none, .mv, [.t 9]⟩, ⟨some 39, none, .mv, [.t 0]⟩, ⟨some 40, none, .mv, [.t 9]⟩, ⟨some 41, none, (.bin .sub), [.t 40, .c (.int .i64 1)]⟩, ⟨some 42, none, .mv, [.t 0]⟩, ⟨some 43, none, .mv, [.t 9]⟩, ⟨some 44, none, (.bin .sub), [.t 43, .c (.int .i64 1)]⟩, ⟨some 45, none, (.ixS 7), [.t 42, .t 44]⟩, ⟨some 46, none, (.ldn 7), [.t 45]⟩, ⟨some 47, none, .mv, [.t 0]⟩, ⟨some 48, none, .mv, [.t 9]⟩, ⟨some 49, none, (.ixS 7), [.t 47, .t 48]⟩, ⟨some 50, none, (.ldn 7), [.t 49]⟩, ⟨some 51, none, (.ixS 7), [.t 37, .t 38]⟩, ⟨none, none, (.st 7), [.t 51, .t 46]⟩, ⟨some 52, none, (.ixS 7), [.t 39, .t 41]⟩, ⟨none, none, (.st 7), [.t 52, .t 50]⟩])) (.reg [⟨some 35, none, .mv, [.t 9]⟩, ⟨some 36, none, (.bin .sub), [.t 35, .c (.int .i64 1)]⟩, ⟨some 9, none, .mv, [.t 36]⟩])))
def wb_z3z_2 : List Bool := [false, false, false, false, true, true, true, true, false, true, true, true, true, true, true, true, true, true, true, true, true, true, true, true, true, true, true, true, true, true, true, true, true, true, true, true, true, true, true, true, true, true, true, true, true, true, true, true, true, true, true, true, true]
abbrev e_z3z_2 (t0 t1 t2 t3 t8 : AV) : List AV := [t0, t1, t2, t3, .any, .any, .any, .any, t8, .any, .any, .any, .any, .any, .any, .any, .any, .any, .any, .any, .any, .any, .any, .any, .any, .any, .any, .any, .any, .any, .any, .any, .any, .any, .any, .any, .any, .any, .any, .any, .any, .any, .any, .any, .any, .any, .any, .any, .any, .any, .any, .any, .any]
abbrev i_z3z_2 : List It := [.lp wl_z3z_2 c_z3z_l2, .blk 2 wb_z3z_2]
def wb_z3z_1 : List Bool := [false, false, false, false, true, true, true, true, false, true, true, true, true, true, true, true, true, true, true, true, true, true, true, true, true, true, true, true, true, true, true, true, true, true, true, true, true, true, true, true, true, true, true, true, true, true, true, true, true, true, true, true, true]
abbrev e_z3z_1 (t0 t1 t2 t3 t8 : AV) : List AV := [t0, t1, t2, t3, .any, .any, .any, .any, t8, .any, .any, .any, .any, .any, .any, .any, .any, .any, .any, .any, .any, .any, .any, .any, .any, .any, .any, .any, .any, .any, .any, .any, .any, .any, .any, .any, .any, .any, .any, .any, .any, .any, .any, .any, .any, .any, .any, .any, .any, .any, .any, .any, .any]
def c_z3z_k0 : Cd := (.reg [⟨some 15, none, .mv, [.t 8]⟩, ⟨some 16, none, (.bin .add), [.t 15, .c (.int .i64 1)]⟩, ⟨some 8, none, .mv, [.t 16]⟩])
def wl_z3z_0 : Mk := ⟨[false, false, false, false, true, true, true, true, false, true, true, true, true, true, true, true, true, true, true, true, true, true, true, true, true, true, true, true, true, true, true, true, true, true, true, true, true, true, true, true, true, true, true, true, true, true, true, true, true, true, true, true, true], []⟩
abbrev s_z3z_0 (t0 t1 t2 t3 t8 : AV) : List AV := [t0, t1, t2, t3, .any, .any, .any, .any, t8, .any, .any, .any, .any, .any, .any, .any, .any, .any, .any, .any, .any, .any, .any, .any, .any, .any, .any, .any, .any, .any, .any, .any, .any, .any, .any, .any, .any, .any, .any, .any, .any, .any, .any, .any, .any, .any, .any, .any, .any, .any, .any, .any, .any]
def c_z3z_l0 : Cd := (.seq (.seq (.reg [⟨some 12, none, .mv, [.t 8]⟩, ⟨some 13, none, .mv, [.t 2]⟩, ⟨some 14, none, (.bin .lss), [.t 12, .t 13]⟩]) (.cond (.t 14) .skip (.exit 0))) (.seq (.blk 1 wb_z3z_1 (.seq (.reg [⟨some 17, none, .mv, [.t 8]⟩, ⟨some 9, none, .mv, [.t 17]⟩]) (.blk 2 wb_z3z_2 (.loop wl_z3z_2 c_z3z_l2)))) c_z3z_k0))
def wb_z3z_0 : List Bool := [true, true, true, true, true, true, true, true, true, true, true, true, true, true, true, true, true, true, true, true, true, true, true, true, true, true, true, true, true, true, true, true, true, true, true, true, true, true, true, true, true, true, true, true, true, true, true, true, true, true, true, true, true]
abbrev e_z3z_0 : List AV := [.any, .any, .any, .any, .any, .any, .any, .any, .any, .any, .any, .any, .any, .any, .any, .any, .any, .any, .any, .any, .any, .any, .any, .any, .any, .any, .any, .any, .any, .any, .any, .any, .any, .any, .any, .any, .any, .any, .any, .any, .any, .any, .any, .any, .any, .any, .any, .any, .any, .any, .any, .any, .any]
abbrev i_z3z_0 : List It := [.lp wl_z3z_0 c_z3z_l0, .blk 0 wb_z3z_0]
def c_z3z : Cd := (.seq (.reg [⟨some 10, none, .mv, [.t 1]⟩, ⟨some 11, none, (.bin .add), [.t 10, .c (.int .i64 1)]⟩, ⟨some 8, none, .mv, [.t 11]⟩]) (.blk 0 wb_z3z_0 (.loop wl_z3z_0 c_z3z_l0)))
theorem comp_z3z : compF Try.prog (mset [] [] []) (cset [] [] []) (wset [(2, wl_z3z_2, wb_z3z_2), (1, ⟨[], []⟩, wb_z3z_1), (0, wl_z3z_0, wb_z3z_0)] []) Try.f210 = some c_z3z := by kernel_rfl
theorem ok_z3z : fnOk Try.prog F_z3z = true := by kernel_rfl
theorem calls_z3z {args : List AV} {r : AV} (h : RunsX Try.prog 0 (Gives [] r) [.c c_z3z] (args ++ List.replicate (53 - args.length) (.tup [])) [] zeroC) : PCalls Try.prog F_z3z args r :=
  pcallsF Try.checked.mixed Try.func210 ok_z3z comp_z3z rfl (rs := []) (by kernel_rfl) h
theorem hcalls_z3z {args : List AV} {Hin Hout : Heap} {nx nx2 : Ctr} {r : AV} (φ : Nat) (ks : List (Nat × Nat)) (h : RunsX Try.prog φ (GivesH ks [] r Hout nx2) [.c c_z3z] (args ++ List.replicate (53 - args.length) (.tup [])) Hin nx) : HCalls Try.prog F_z3z args Hin nx r Hout nx2 :=
  hcallsF Try.checked.mixed Try.func210 ok_z3z comp_z3z rfl (rs := []) (by kernel_rfl) φ ks h

/-- slices.siftDownCmpFunc[pedlar/api.Version]: parameters [78, 3, 3, 3, 174], results [], calls  -/
def wl_z9z_0 : Mk := ⟨[false, true, false, false, false, true, true, true, true, true, false, true, true, true, true, true, true, true, true, true, true, true, true, true, true, true, true, true, true, true, true, true, true, true, true, true, true, true, true, true, true, true, true, true, true, true, true, true, true, true, true, true, true, true, true, true, true, true, true, true, true, true, true, true, true, true, true, true, true, true, true, true, true, true, true, true, true, true, true, true, true, true], []⟩
abbrev s_z9z_0 (t0 t2 t3 t4 t10 : AV) : List AV := [t0, .any, t2, t3, t4, .any, .any, .any, .any, .any, t10, .any, .any, .any, .any, .any, .any, .any, .any, .any, .any, .any, .any, .any, .any, .any, .any, .any, .any, .any, .any, .any, .any, .any, .any, .any, .any, .any, .any, .any, .any, .any, .any, .any, .any, .any, .any, .any, .any, .any, .any, .any, .any, .any, .any, .any, .any, .any, .any, .any, .any, .any, .any, .any, .any, .any, .any, .any, .any, .any, .any, .any, .any, .any, .any, .any, .any, .any, .any, .any, .any, .any]
def c_z9z_l0 : Cd := (.blk 1 [] (.seq (.reg [⟨some 13, none, .mv, [.t 10]⟩, ⟨some 14, none, (.bin .mul), [.c (.int .i64 2), .t 13]⟩, ⟨some 15, none, (.bin .add), [.t 14, .c (.int .i64 1)]⟩, ⟨some 11, none, .mv, [.t 15]⟩]) (.seq (.seq (.reg [⟨some 16, none, .mv, [.t 11]⟩, ⟨some 17, none, .mv, [.t 2]⟩, ⟨some 18, none, (.bin .geq), [.t 16, .t 17]⟩]) (.cond (.t 18) (.exit 0) .skip)) (.seq (.seq (.reg [⟨some 19, none, .mv, [.t 11]⟩, ⟨some 20, none, (.bin .add), [.t 19, .c (.int .i64 1)]⟩, ⟨some 21, none, .mv, [.t 2]⟩, ⟨some 22, none, (.bin .lss), [.t 20, .t 21]⟩, ⟨some 23, none, .mv, [.t 22]⟩, ⟨some 24, (some (23, true)), .mv, [.t 4]⟩, ⟨some 25, (some (23, true)), .mv, [.t 0]⟩, ⟨some 26, (some (23, true)), .mv, [.t 3]⟩, ⟨some 27, (some (23, true)), .mv, [.t 11]⟩, ⟨some 28, (some (23, true)), (.bin .add), [.t 26, .t 27]⟩, ⟨some 29, (some (23, true)), (.ixS 7), [.t 25, .t 28]⟩, ⟨some 30, (some (23, true)), (.ldn 7), [.t 29]⟩, ⟨some 31, (some (23, true)), .mv, [.t 0]⟩, ⟨some 32, (some (23, true)), .mv, [.t 3]⟩, ⟨some 33, (some (23, true)), .mv, [.t 11]⟩, ⟨some 34, (some (23, true)), (.bin .add), [.t 32, .t 33]⟩, ⟨some 35, (some (23, true)), (.bin .add), [.t 34, .c (.int .i64 1)]⟩, ⟨some 36, (some (23, true)), (.ixS 7), [.t 31, .t 35]⟩, ⟨some 37, (some (23, true)), (.ldn 7), [.t 36]⟩, ⟨some 38, (some (23, true)), (.callv 0), [.t 24, .t 30, .t 37]⟩, ⟨some 39, (some (23, true)), (.bin .lss), [.t 38, .c (.int .i64 0)]⟩, ⟨some 40, none, .pick, [.t 23, .t 39, .c (.bool false)]⟩]) (.cond (.t 40) (.reg [⟨some 41, none, .mv, [.t 11]⟩, ⟨some 42, none, (.bin .add), [.t 41, .c (.int .i64 1)]⟩, ⟨some 11, none, .mv, [.t 42]⟩]) .skip)) (.seq (.seq (.reg [⟨some 43, none, .mv, [.t 4]⟩, ⟨some 44, none, .mv, [.t 0]⟩, ⟨some 45, none, .mv, [.t 3]⟩, ⟨some 46, none, .mv, [.t 10]⟩, ⟨some 47, none, (.bin .add), [.t 45, .t 46]⟩, ⟨some 48, none, (.ixS 7), [.t 44, .t 47]⟩, ⟨some 49, none, (.ldn 7), [.t 48]⟩, ⟨some 50, none, .mv, [.t 0]⟩, ⟨some 51, none, .mv, [.t 3]⟩, ⟨some 52, none, .mv, [.t 11]⟩, ⟨some 53, none, (.bin .add), [.t 51, .t 52]⟩, ⟨some 54, none, (.ixS 7), [.t 50, .t 53]⟩, ⟨some 55, none, (.ldn 7), [.t 54]⟩, ⟨some 56, none, (.callv 0), [.t 43, .t 49, .t 55]⟩, ⟨some 57, none, (.bin .lss), [.t 56, .c (.int .i64 0)]⟩, ⟨some 58, none, .not, [.t 57]⟩]) (.cond (.t 58) .ret .skip)) (.seq (.reg [⟨some 59, none, .mv, [.t 0]⟩, ⟨some 60, none, .mv, [.t 3]⟩, ⟨some 61, none, .mv, [.t 10]⟩, ⟨some 62, none, (.bin .add), [.t 60, .t 61]⟩, ⟨some 63, none, .mv, [.t 0]⟩, ⟨some 64, none, .mv, [.t 3]⟩, ⟨some 65, none, .mv, [.t 11]⟩, ⟨some 66, none, (.bin .add), [.t 64, .t 65]⟩, ⟨some 67, none, .mv, [.t 0]⟩, ⟨some 68, none, .mv, [.t 3]⟩, ⟨some 69, none, .mv, [.t 11]⟩, ⟨some 70, none, (.bin .add), [.t 68, .t 69]⟩, ⟨some 71, none, (.ixS 7), [.t 67, .t 70]⟩, ⟨some 72, none, (.ldn 7), [.t 71]⟩, ⟨some 73, none, .mv, [.t 0]⟩, ⟨some 74, none, .mv, [.t 3]⟩, ⟨some 75, none, .mv, [.t 10]⟩, ⟨some 76, none, (.bin .add), [.t 74, .t 75]⟩, ⟨some 77, none, (.ixS 7), [.t 73, .t 76]⟩, ⟨some 78, none, (.ldn 7), [.t 77]⟩, ⟨some 79, none, (.ixS 7), [.t 59, .t 62]⟩, ⟨none, none, (.st 7), [.t 79, .t 72]⟩, ⟨some 80, none, (.ixS 7), [.t 63, .t 66]⟩, ⟨none, none, (.st 7), [.t 80, .t 78]⟩]) (.reg [⟨some 81, none, .mv, [.t 11]⟩, ⟨some 10, none, .mv, [.t 81]⟩])))))))
def wb_z9z_0 : List Bool := [true, true, true, true, true, true, true, true, true, true, true, true, true, true, true, true, true, true, true, true, true, true, true, true, true, true, true, true, true, true, true, true, true, true, true, true, true, true, true, true, true, true, true, true, true, true, true, true, true, true, true, true, true, true, true, true, true, true, true, true, true, true, true, true, true, true, true, true, true, true, true, true, true, true, true, true, true, true, true, true, true, true]
abbrev e_z9z_0 : List AV := [.any, .any, .any, .any, .any, .any, .any, .any, .any, .any, .any, .any, .any, .any, .any, .any, .any, .any, .any, .any, .any, .any, .any, .any, .any, .any, .any, .any, .any, .any, .any, .any, .any, .any, .any, .any, .any, .any, .any, .any, .any, .any, .any, .any, .any, .any, .any, .any, .any, .any, .any, .any, .any, .any, .any, .any, .any, .any, .any, .any, .any, .any, .any, .any, .any, .any, .any, .any, .any, .any, .any, .any, .any, .any, .any, .any, .any, .any, .any, .any, .any, .any]
abbrev i_z9z_0 : List It := [.lp wl_z9z_0 c_z9z_l0, .blk 0 wb_z9z_0]
def c_z9z : Cd := (.seq (.reg [⟨some 12, none, .mv, [.t 1]⟩, ⟨some 10, none, .mv, [.t 12]⟩]) (.blk 0 wb_z9z_0 (.loop wl_z9z_0 c_z9z_l0)))
theorem comp_z9z : compF Try.prog (mset [] [] []) (cset [] [] []) (wset [(0, wl_z9z_0, wb_z9z_0)] []) Try.f228 = some c_z9z := by kernel_rfl
theorem ok_z9z : fnOk Try.prog F_z9z = true := by kernel_rfl
theorem calls_z9z {args : List AV} {r : AV} (h : RunsX Try.prog 0 (Gives [] r) [.c c_z9z] (args ++ List.replicate (82 - args.length) (.tup [])) [] zeroC) : PCalls Try.prog F_z9z args r :=
  pcallsF Try.checked.mixed Try.func228 ok_z9z comp_z9z rfl (rs := []) (by kernel_rfl) h
theorem hcalls_z9z {args : List AV} {Hin Hout : Heap} {nx nx2 : Ctr} {r : AV} (φ : Nat) (ks : List (Nat × Nat)) (h : RunsX Try.prog φ (GivesH ks [] r Hout nx2) [.c c_z9z] (args ++ List.replicate (82 - args.length) (.tup [])) Hin nx) : HCalls Try.prog F_z9z args Hin nx r Hout nx2 :=
  hcallsF Try.checked.mixed Try.func228 ok_z9z comp_z9z rfl (rs := []) (by kernel_rfl) φ ks h

/-- slices.heapSortCmpFunc[pedlar/api.Version]: parameters [78, 3, 3, 174], results [], calls slices_siftDownCmpFunc_api_Version -/
def wl_z8z_0 : Mk := ⟨[false, true, true, false, true, true, true, true, false, false, false, false, true, true, true, true, true, true, true, true, true, true, true, true, true, true, true, true, true, true, true, true, true, true, true, true, true, true, true, true, true, true, true, true, true, true, true, true, true, true, true, true, true, true, true, true, true, true, true, true], []⟩
abbrev s_z8z_0 (t0 t3 t8 t9 t10 t11 : AV) : List AV := [t0, .any, .any, t3, .any, .any, .any, .any, t8, t9, t10, t11, .any, .any, .any, .any, .any, .any, .any, .any, .any, .any, .any, .any, .any, .any, .any, .any, .any, .any, .any, .any, .any, .any, .any, .any, .any, .any, .any, .any, .any, .any, .any, .any, .any, .any, .any, .any, .any, .any, .any, .any, .any, .any, .any, .any, .any, .any, .any, .any]
def c_z8z_l0 : Cd := (.seq (.seq (.reg [⟨some 20, none, .mv, [.t 11]⟩, ⟨some 21, none, (.bin .geq), [.t 20, .c (.int .i64 0)]⟩]) (.cond (.t 21) .skip (.exit 0))) (.seq (.blk 1 [] (.reg [⟨some 24, none, .mv, [.t 0]⟩, ⟨some 25, none, .mv, [.t 11]⟩, ⟨some 26, none, .mv, [.t 10]⟩, ⟨some 27, none, .mv, [.t 8]⟩, ⟨some 28, none, .mv, [.t 3]⟩, ⟨some 29, none, (.call F_z9z 2), [.t 24, .t 25, .t 26, .t 27, .t 28]⟩])) (.reg [⟨some 22, none, .mv, [.t 11]⟩, ⟨some 23, none, (.bin .sub), [.t 22, .c (.int .i64 1)]⟩, ⟨some 11, none, .mv, [.t 23]⟩])))
def wb_z8z_0 : List Bool := [false, true, true, false, true, true, true, true, false, false, false, true, true, true, true, true, true, true, true, true, true, true, true, true, true, true, true, true, true, true, true, true, true, true, true, true, true, true, true, true, true, true, true, true, true, true, true, true, true, true, true, true, true, true, true, true, true, true, true, true]
abbrev e_z8z_0 (t0 t3 t8 t9 t10 : AV) : List AV := [t0, .any, .any, t3, .any, .any, .any, .any, t8, t9, t10, .any, .any, .any, .any, .any, .any, .any, .any, .any, .any, .any, .any, .any, .any, .any, .any, .any, .any, .any, .any, .any, .any, .any, .any, .any, .any, .any, .any, .any, .any, .any, .any, .any, .any, .any, .any, .any, .any, .any, .any, .any, .any, .any, .any, .any, .any, .any, .any, .any]
abbrev i_z8z_0 : List It := [.lp wl_z8z_0 c_z8z_l0, .blk 0 wb_z8z_0]
def wl_z8z_2 : Mk := ⟨[false, true, true, false, true, true, true, true, false, false, true, true, false, true, true, true, true, true, true, true, true, true, true, true, true, true, true, true, true, true, true, true, true, true, true, true, true, true, true, true, true, true, true, true, true, true, true, true, true, true, true, true, true, true, true, true, true, true, true, true], []⟩
abbrev s_z8z_2 (t0 t3 t8 t9 t12 : AV) : List AV := [t0, .any, .any, t3, .any, .any, .any, .any, t8, t9, .any, .any, t12, .any, .any, .any, .any, .any, .any, .any, .any, .any, .any, .any, .any, .any, .any, .any, .any, .any, .any, .any, .any, .any, .any, .any, .any, .any, .any, .any, .any, .any, .any, .any, .any, .any, .any, .any, .any, .any, .any, .any, .any, .any, .any, .any, .any, .any, .any, .any]
def c_z8z_l2 : Cd := (.seq (.seq (.reg [⟨some 32, none, .mv, [.t 12]⟩, ⟨some 33, none, (.bin .geq), [.t 32, .c (.int .i64 0)]⟩]) (.cond (.t 33) .skip (.exit 2))) (.seq (.blk 3 [] (.seq (.reg [⟨some 36, none, .mv, [.t 0]⟩, ⟨some 37, none, .mv, [.t 8]⟩, ⟨some 38, none, .mv, [.t 0]⟩, ⟨some 39, none, .mv, [.t 8]⟩, ⟨some 40, none, .mv, [.t 12]⟩, ⟨some 41, none, (.bin .add), [.t 39, .t 40]⟩, ⟨some 42, none, .mv, [.t 0]⟩, ⟨some 43, none, .mv, [.t 8]⟩, ⟨some 44, none, .mv, [.t 12]⟩, ⟨some 45, none, (.bin .add), [.t 43, .t 44]⟩, ⟨some 46, none, (.ixS 7), [.t 42, .t 45]⟩, ⟨some 47, none, (.ldn 7), [.t 46]⟩, ⟨some 48, none, .mv, [.t 0]⟩, ⟨some 49, none, .mv, [.t 8]⟩, ⟨some 50, none, (.ixS 7), [.t 48, .t 49]⟩, ⟨some 51, none, (.ldn 7), [.t 50]⟩, ⟨some 52, none, (.ixS 7), [.t 36, .t 37]⟩, ⟨none, none, (.st 7), [.t 52, .t 47]⟩, ⟨some 53, none, (.ixS 7), [.t 38, .t 41]⟩, ⟨none, none, (.st 7), [.t 53, .t 51]⟩]) (.reg [⟨some 54, none, .mv, [.t 0]⟩, ⟨some 55, none, .mv, [.t 9]⟩, ⟨some 56, none, .mv, [.t 12]⟩, ⟨some 57, none, .mv, [.t 8]⟩, ⟨some 58, none, .mv, [.t 3]⟩, ⟨some 59, none, (.call F_z9z 2), [.t 54, .t 55, .t 56, .t 57, .t 58]⟩]))) (.reg [⟨some 34, none, .mv, [.t 12]⟩, ⟨some 35, none, (.bin .sub), [.t 34, .c (.int .i64 1)]⟩, ⟨some 12, none, .mv, [.t 35]⟩])))
def wb_z8z_2 : List Bool := [true, true, true, true, true, true, true, true, true, true, true, true, true, true, true, true, true, true, true, true, true, true, true, true, true, true, true, true, true, true, true, true, true, true, true, true, true, true, true, true, true, true, true, true, true, true, true, true, true, true, true, true, true, true, true, true, true, true, true, true]
abbrev e_z8z_2 : List AV := [.any, .any, .any, .any, .any, .any, .any, .any, .any, .any, .any, .any, .any, .any, .any, .any, .any, .any, .any, .any, .any, .any, .any, .any, .any, .any, .any, .any, .any, .any, .any, .any, .any, .any, .any, .any, .any, .any, .any, .any, .any, .any, .any, .any, .any, .any, .any, .any, .any, .any, .any, .any, .any, .any, .any, .any, .any, .any, .any, .any]
abbrev i_z8z_2 : List It := [.lp wl_z8z_2 c_z8z_l2, .blk 2 wb_z8z_2]
def c_z8z_k0 : Cd := (.seq (.reg [⟨some 30, none, .mv, [.t 10]⟩, ⟨some 31, none, (.bin .sub), [.t 30, .c (.int .i64 1)]⟩, ⟨some 12, none, .mv, [.t 31]⟩]) (.blk 2 wb_z8z_2 (.loop wl_z8z_2 c_z8z_l2)))
def c_z8z : Cd := (.seq (.reg [⟨some 13, none, .mv, [.t 1]⟩, ⟨some 8, none, .mv, [.t 13]⟩]) (.seq (.reg [⟨some 9, none, .mv, [.c (.int .i64 0)]⟩]) (.seq (.reg [⟨some 14, none, .mv, [.t 2]⟩, ⟨some 15, none, .mv, [.t 1]⟩, ⟨some 16, none, (.bin .sub), [.t 14, .t 15]⟩, ⟨some 10, none, .mv, [.t 16]⟩]) (.seq (.seq (.reg [⟨some 17, none, .mv, [.t 10]⟩, ⟨some 18, none, (.bin .sub), [.t 17, .c (.int .i64 1)]⟩, ⟨some 19, none, (.bin .quo), [.t 18, .c (.int .i64 2)]⟩, ⟨some 11, none, .mv, [.t 19]⟩]) (.blk 0 wb_z8z_0 (.loop wl_z8z_0 c_z8z_l0))) c_z8z_k0))))
theorem comp_z8z : compF Try.prog (mset [] [] []) (cset [] [F_z9z] []) (wset [(0, wl_z8z_0, wb_z8z_0), (2, wl_z8z_2, wb_z8z_2)] []) Try.f211 = some c_z8z := by kernel_rfl
theorem ok_z8z : fnOk Try.prog F_z8z = true := by kernel_rfl
theorem calls_z8z {args : List AV} {r : AV} (h : RunsX Try.prog 0 (Gives [] r) [.c c_z8z] (args ++ List.replicate (60 - args.length) (.tup [])) [] zeroC) : PCalls Try.prog F_z8z args r :=
  pcallsF Try.checked.mixed Try.func211 ok_z8z comp_z8z rfl (rs := []) (by kernel_rfl) h
theorem hcalls_z8z {args : List AV} {Hin Hout : Heap} {nx nx2 : Ctr} {r : AV} (φ : Nat) (ks : List (Nat × Nat)) (h : RunsX Try.prog φ (GivesH ks [] r Hout nx2) [.c c_z8z] (args ++ List.replicate (60 - args.length) (.tup [])) Hin nx) : HCalls Try.prog F_z8z args Hin nx r Hout nx2 :=
  hcallsF Try.checked.mixed Try.func211 ok_z8z comp_z8z rfl (rs := []) (by kernel_rfl) φ ks h

/-- (*slices.xorshift).Next: parameters [280], results [.t 2], calls  -/
def c_slices_xorshift_Next : Cd := (.seq (.reg [⟨some 2, none, .mv, [.c (.int .u64 0)]⟩]) (.seq (.reg [⟨some 3, none, .mv, [.t 0]⟩, ⟨some 4, none, .nck, [.t 3]⟩, ⟨some 5, none, .ld1, [.t 4]⟩, ⟨some 6, none, .mv, [.t 0]⟩, ⟨some 7, none, .nck, [.t 6]⟩, ⟨some 8, none, .ld1, [.t 7]⟩, ⟨some 9, none, (.bin .shl), [.t 8, .c (.int .u64 13)]⟩, ⟨some 10, none, (.bin .xor), [.t 5, .t 9]⟩, ⟨some 11, none, .nck, [.t 3]⟩, ⟨none, none, (.st 1), [.t 11, .t 10]⟩]) (.seq (.reg [⟨some 12, none, .mv, [.t 0]⟩, ⟨some 13, none, .nck, [.t 12]⟩, ⟨some 14, none, .ld1, [.t 13]⟩, ⟨some 15, none, .mv, [.t 0]⟩, ⟨some 16, none, .nck, [.t 15]⟩, ⟨some 17, none, .ld1, [.t 16]⟩, ⟨some 18, none, (.bin .shr), [.t 17, .c (.int .u64 7)]⟩, ⟨some 19, none, (.bin .xor), [.t 14, .t 18]⟩, ⟨some 20, none, .nck, [.t 12]⟩, ⟨none, none, (.st 1), [.t 20, .t 19]⟩]) (.seq (.reg [⟨some 21, none, .mv, [.t 0]⟩, ⟨some 22, none, .nck, [.t 21]⟩, ⟨some 23, none, .ld1, [.t 22]⟩, ⟨some 24, none, .mv, [.t 0]⟩, ⟨some 25, none, .nck, [.t 24]⟩, ⟨some 26, none, .ld1, [.t 25]⟩, ⟨some 27, none, (.bin .shl), [.t 26, .c (.int .u64 17)]⟩, ⟨some 28, none, (.bin .xor), [.t 23, .t 27]⟩, ⟨some 29, none, .nck, [.t 21]⟩, ⟨none, none, (.st 1), [.t 29, .t 28]⟩]) (.seq (.reg [⟨some 30, none, .mv, [.t 0]⟩, ⟨some 31, none, .nck, [.t 30]⟩, ⟨some 32, none, .ld1, [.t 31]⟩, ⟨some 2, none, .mv, [.t 32]⟩]) .ret)))))
theorem comp_slices_xorshift_Next : compF Try.prog (mset [] [] []) (cset [] [] []) (wset [] []) Try.f230 = some c_slices_xorshift_Next := by kernel_rfl
theorem ok_slices_xorshift_Next : fnOk Try.prog F_slices_xorshift_Next = true := by kernel_rfl
theorem calls_slices_xorshift_Next {args : List AV} {r : AV} (h : RunsX Try.prog 0 (Gives [.t 2] r) [.c c_slices_xorshift_Next] (args ++ List.replicate (33 - args.length) (.tup [])) [] zeroC) : PCalls Try.prog F_slices_xorshift_Next args r :=
  pcallsF Try.checked.mixed Try.func230 ok_slices_xorshift_Next comp_slices_xorshift_Next rfl (rs := [.t 2]) (by kernel_rfl) h
theorem hcalls_slices_xorshift_Next {args : List AV} {Hin Hout : Heap} {nx nx2 : Ctr} {r : AV} (φ : Nat) (ks : List (Nat × Nat)) (h : RunsX Try.prog φ (GivesH ks [.t 2] r Hout nx2) [.c c_slices_xorshift_Next] (args ++ List.replicate (33 - args.length) (.tup [])) Hin nx) : HCalls Try.prog F_slices_xorshift_Next args Hin nx r Hout nx2 :=
  hcallsF Try.checked.mixed Try.func230 ok_slices_xorshift_Next comp_slices_xorshift_Next rfl (rs := [.t 2]) (by kernel_rfl) φ ks h

/-- slices.nextPowerOfTwo: parameters [3], results [.t 2], calls math_bits_Len -/
def c_z17z : Cd := (.seq (.reg [⟨some 2, none, .mv, [.c (.int .u64 0)]⟩]) (.seq (.reg [⟨some 3, none, .mv, [.t 0]⟩, ⟨some 4, none, (.conv .u64), [.t 3]⟩, ⟨some 5, none, (.call F_math_bits_Len 0), [.t 4]⟩, ⟨some 6, none, (.bin .shl), [.c (.int .u64 1), .t 5]⟩, ⟨some 2, none, .mv, [.t 6]⟩]) .ret))
theorem comp_z17z : compF Try.prog (mset [] [] []) (cset [] [] []) (wset [] []) Try.f229 = some c_z17z := by kernel_rfl
theorem ok_z17z : fnOk Try.prog F_z17z = true := by kernel_rfl
theorem calls_z17z {args : List AV} {r : AV} (h : RunsX Try.prog 0 (Gives [.t 2] r) [.c c_z17z] (args ++ List.replicate (7 - args.length) (.tup [])) [] zeroC) : PCalls Try.prog F_z17z args r :=
  pcallsF Try.checked.mixed Try.func229 ok_z17z comp_z17z rfl (rs := [.t 2]) (by kernel_rfl) h
theorem hcalls_z17z {args : List AV} {Hin Hout : Heap} {nx nx2 : Ctr} {r : AV} (φ : Nat) (ks : List (Nat × Nat)) (h : RunsX Try.prog φ (GivesH ks [.t 2] r Hout nx2) [.c c_z17z] (args ++ List.replicate (7 - args.length) (.tup [])) Hin nx) : HCalls Try.prog F_z17z args Hin nx r Hout nx2 :=
  hcallsF Try.checked.mixed Try.func229 ok_z17z comp_z17z rfl (rs := [.t 2]) (by kernel_rfl) φ ks h

/-- math/bits.Len: parameters [212], results [.t 2], calls math_bits_Len32, math_bits_Len64 -/
def c_math_bits_Len : Cd := (.seq (.reg [⟨some 2, none, .mv, [.c (.int .i64 0)]⟩]) (.seq (.cond (.c (.bool false)) (.seq (.reg [⟨some 3, none, .mv, [.t 0]⟩, ⟨some 4, none, (.conv .u32), [.t 3]⟩, ⟨some 5, none, (.call F_math_bits_Len32 0), [.t 4]⟩, ⟨some 2, none, .mv, [.t 5]⟩]) .ret) .skip) (.seq (.reg [⟨some 6, none, .mv, [.t 0]⟩, ⟨some 7, none, (.call F_math_bits_Len64 0), [.t 6]⟩, ⟨some 2, none, .mv, [.t 7]⟩]) .ret)))
theorem comp_math_bits_Len : compF Try.prog (mset [] [] []) (cset [] [] []) (wset [] []) Try.f172 = some c_math_bits_Len := by kernel_rfl
theorem ok_math_bits_Len : fnOk Try.prog F_math_bits_Len = true := by kernel_rfl
theorem calls_math_bits_Len {args : List AV} {r : AV} (h : RunsX Try.prog 0 (Gives [.t 2] r) [.c c_math_bits_Len] (args ++ List.replicate (8 - args.length) (.tup [])) [] zeroC) : PCalls Try.prog F_math_bits_Len args r :=
  pcallsF Try.checked.mixed Try.func172 ok_math_bits_Len comp_math_bits_Len rfl (rs := [.t 2]) (by kernel_rfl) h
theorem hcalls_math_bits_Len {args : List AV} {Hin Hout : Heap} {nx nx2 : Ctr} {r : AV} (φ : Nat) (ks : List (Nat × Nat)) (h : RunsX Try.prog φ (GivesH ks [.t 2] r Hout nx2) [.c c_math_bits_Len] (args ++ List.replicate (8 - args.length) (.tup [])) Hin nx) : HCalls Try.prog F_math_bits_Len args Hin nx r Hout nx2 :=
  hcallsF Try.checked.mixed Try.func172 ok_math_bits_Len comp_math_bits_Len rfl (rs := [.t 2]) (by kernel_rfl) φ ks h

/-- math/bits.Len32: parameters [81], results [.t 2], calls  -/
def c_math_bits_Len32 : Cd := (.seq (.reg [⟨some 2, none, .mv, [.c (.int .i64 0)]⟩]) (.seq (.seq (.reg [⟨some 3, none, .mv, [.t 0]⟩, ⟨some 4, none, (.bin .geq), [.t 3, .c (.int .u32 65536)]⟩]) (.cond (.t 4) (.seq (.reg [⟨some 5, none, .mv, [.t 0]⟩, ⟨some 6, none, (.bin .shr), [.t 5, .c (.int .u64 16)]⟩, ⟨some 0, none, .mv, [.t 6]⟩]) (.reg [⟨some 2, none, .mv, [.c (.int .i64 16)]⟩])) .skip)) (.seq (.seq (.reg [⟨some 7, none, .mv, [.t 0]⟩, ⟨some 8, none, (.bin .geq), [.t 7, .c (.int .u32 256)]⟩]) (.cond (.t 8) (.seq (.reg [⟨some 9, none, .mv, [.t 0]⟩, ⟨some 10, none, (.bin .shr), [.t 9, .c (.int .u64 8)]⟩, ⟨some 0, none, .mv, [.t 10]⟩]) (.reg [⟨some 11, none, .mv, [.t 2]⟩, ⟨some 12, none, (.bin .add), [.t 11, .c (.int .i64 8)]⟩, ⟨some 2, none, .mv, [.t 12]⟩])) .skip)) (.seq (.reg [⟨some 13, none, .mv, [.t 2]⟩, ⟨some 14, none, .mv, [.t 0]⟩, ⟨some 15, none, (.conv .u8), [.t 14]⟩, ⟨some 16, none, .ixT, [.c (.str ⟨#[0, 1, 2, 2, 3, 3, 3, 3, 4, 4, 4, 4, 4, 4, 4, 4, 5, 5, 5, 5, 5, 5, 5, 5, 5, 5, 5, 5, 5, 5, 5, 5, 6, 6, 6, 6, 6, 6, 6, 6, 6, 6, 6, 6, 6, 6, 6, 6, 6, 6, 6, 6, 6, 6, 6, 6, 6, 6, 6, 6, 6, 6, 6, 6, 7, 7, 7, 7, 7, 7, 7, 7, 7, 7, 7, 7, 7, 7, 7, 7, 7, 7, 7, 7, 7, 7, 7, 7, 7, 7, 7, 7, 7, 7, 7, 7, 7, 7, 7, 7, 7, 7, 7, 7, 7, 7, 7, 7, 7, 7, 7, 7, 7, 7, 7, 7, 7, 7, 7, 7, 7, 7, 7, 7, 7, 7, 7, 7, 8, 8, 8, 8, 8, 8, 8, 8, 8, 8, 8, 8, 8, 8, 8, 8, 8, 8, 8, 8, 8, 8, 8, 8, 8, 8, 8, 8, 8, 8, 8, 8, 8, 8, 8, 8, 8, 8, 8, 8, 8, 8, 8, 8, 8, 8, 8, 8, 8, 8, 8, 8, 8, 8, 8, 8, 8, 8, 8, 8, 8, 8, 8, 8, 8, 8, 8, 8, 8, 8, 8, 8, 8, 8, 8, 8, 8, 8, 8, 8, 8, 8, 8, 8, 8, 8, 8, 8, 8, 8, 8, 8, 8, 8, 8, 8, 8, 8, 8, 8, 8, 8, 8, 8, 8, 8, 8, 8, 8, 8, 8, 8, 8, 8, 8, 8, 8, 8, 8, 8, 8, 8, 8, 8, 8, 8, 8, 8]⟩), .t 15]⟩, ⟨some 17, none, (.conv .i64), [.t 16]⟩, ⟨some 18, none, (.bin .add), [.t 13, .t 17]⟩, ⟨some 2, none, .mv, [.t 18]⟩]) .ret))))
theorem comp_math_bits_Len32 : compF Try.prog (mset [] [] []) (cset [] [] []) (wset [] []) Try.f218 = some c_math_bits_Len32 := by kernel_rfl
theorem ok_math_bits_Len32 : fnOk Try.prog F_math_bits_Len32 = true := by kernel_rfl
theorem calls_math_bits_Len32 {args : List AV} {r : AV} (h : RunsX Try.prog 0 (Gives [.t 2] r) [.c c_math_bits_Len32] (args ++ List.replicate (19 - args.length) (.tup [])) [] zeroC) : PCalls Try.prog F_math_bits_Len32 args r :=
  pcallsF Try.checked.mixed Try.func218 ok_math_bits_Len32 comp_math_bits_Len32 rfl (rs := [.t 2]) (by kernel_rfl) h
theorem hcalls_math_bits_Len32 {args : List AV} {Hin Hout : Heap} {nx nx2 : Ctr} {r : AV} (φ : Nat) (ks : List (Nat × Nat)) (h : RunsX Try.prog φ (GivesH ks [.t 2] r Hout nx2) [.c c_math_bits_Len32] (args ++ List.replicate (19 - args.length) (.tup [])) Hin nx) : HCalls Try.prog F_math_bits_Len32 args Hin nx r Hout nx2 :=
  hcallsF Try.checked.mixed Try.func218 ok_math_bits_Len32 comp_math_bits_Len32 rfl (rs := [.t 2]) (by kernel_rfl) φ ks h

/-- math/bits.Len64: parameters [151], results [.t 2], calls  -/
def c_math_bits_Len64 : Cd := (.seq (.reg [⟨some 2, none, .mv, [.c (.int .i64 0)]⟩]) (.seq (.seq (.reg [⟨some 3, none, .mv, [.t 0]⟩, ⟨some 4, none, (.bin .geq), [.t 3, .c (.int .u64 4294967296)]⟩]) (.cond (.t 4) (.seq (.reg [⟨some 5, none, .mv, [.t 0]⟩, ⟨some 6, none, (.bin .shr), [.t 5, .c (.int .u64 32)]⟩, ⟨some 0, none, .mv, [.t 6]⟩]) (.reg [⟨some 2, none, .mv, [.c (.int .i64 32)]⟩])) .skip)) (.seq (.seq (.reg [⟨some 7, none, .mv, [.t 0]⟩, ⟨some 8, none, (.bin .geq), [.t 7, .c (.int .u64 65536)]⟩]) (.cond (.t 8) (.seq (.reg [⟨some 9, none, .mv, [.t 0]⟩, ⟨some 10, none, (.bin .shr), [.t 9, .c (.int .u64 16)]⟩, ⟨some 0, none, .mv, [.t 10]⟩]) (.reg [⟨some 11, none, .mv, [.t 2]⟩, ⟨some 12, none, (.bin .add), [.t 11, .c (.int .i64 16)]⟩, ⟨some 2, none, .mv, [.t 12]⟩])) .skip)) (.seq (.seq (.reg [⟨some 13, none, .mv, [.t 0]⟩, ⟨some 14, none, (.bin .geq), [.t 13, .c (.int .u64 256)]⟩]) (.cond (.t 14) (.seq (.reg [⟨some 15, none, .mv, [.t 0]⟩, ⟨some 16, none, (.bin .shr), [.t 15, .c (.int .u64 8)]⟩, ⟨some 0, none, .mv, [.t 16]⟩]) (.reg [⟨some 17, none, .mv, [.t 2]⟩, ⟨some 18, none, (.bin .add), [.t 17, .c (.int .i64 8)]⟩, ⟨some 2, none, .mv, [.t 18]⟩])) .skip)) (.seq (.reg [⟨some 19, none, .mv, [.t 2]⟩, ⟨some 20, none, .mv, [.t 0]⟩, ⟨some 21, none, (.conv .u8), [.t 20]⟩, ⟨some 22, none, .ixT, [.c (.str ⟨#[0, 1, 2, 2, 3, 3, 3, 3, 4, 4, 4, 4, 4, 4, 4, 4, 5, 5, 5, 5, 5, 5, 5, 5, 5, 5, 5, 5, 5, 5, 5, 5, 6, 6, 6, 6, 6, 6, 6, 6, 6, 6, 6, 6, 6, 6, 6, 6, 6, 6, 6, 6, 6, 6, 6, 6, 6, 6, 6, 6, 6, 6, 6, 6, 7, 7, 7, 7, 7, 7, 7, 7, 7, 7, 7, 7, 7, 7, 7, 7, 7, 7, 7, 7, 7, 7, 7, 7, 7, 7, 7, 7, 7, 7, 7, 7, 7, 7, 7, 7, 7, 7, 7, 7, 7, 7, 7, 7, 7, 7, 7, 7, 7, 7, 7, 7, 7, 7, 7, 7, 7, 7, 7, 7, 7, 7, 7, 7, 8, 8, 8, 8, 8, 8, 8, 8, 8, 8, 8, 8, 8, 8, 8, 8, 8, 8, 8, 8, 8, 8, 8, 8, 8, 8, 8, 8, 8, 8, 8, 8, 8, 8, 8, 8, 8, 8, 8, 8, 8, 8, 8, 8, 8, 8, 8, 8, 8, 8, 8, 8, 8, 8, 8, 8, 8, 8, 8, 8, 8, 8, 8, 8, 8, 8, 8, 8, 8, 8, 8, 8, 8, 8, 8, 8, 8, 8, 8, 8, 8, 8, 8, 8, 8, 8, 8, 8, 8, 8, 8, 8, 8, 8, 8, 8, 8, 8, 8, 8, 8, 8, 8, 8, 8, 8, 8, 8, 8, 8, 8, 8, 8, 8, 8, 8, 8, 8, 8, 8, 8, 8, 8, 8, 8, 8, 8, 8]⟩), .t 21]⟩, ⟨some 23, none, (.conv .i64), [.t 22]⟩, ⟨some 24, none, (.bin .add), [.t 19, .t 23]⟩, ⟨some 2, none, .mv, [.t 24]⟩]) .ret)))))
theorem comp_math_bits_Len64 : compF Try.prog (mset [] [] []) (cset [] [] []) (wset [] []) Try.f219 = some c_math_bits_Len64 := by kernel_rfl
theorem ok_math_bits_Len64 : fnOk Try.prog F_math_bits_Len64 = true := by kernel_rfl
theorem calls_math_bits_Len64 {args : List AV} {r : AV} (h : RunsX Try.prog 0 (Gives [.t 2] r) [.c c_math_bits_Len64] (args ++ List.replicate (25 - args.length) (.tup [])) [] zeroC) : PCalls Try.prog F_math_bits_Len64 args r :=
  pcallsF Try.checked.mixed Try.func219 ok_math_bits_Len64 comp_math_bits_Len64 rfl (rs := [.t 2]) (by kernel_rfl) h
theorem hcalls_math_bits_Len64 {args : List AV} {Hin Hout : Heap} {nx nx2 : Ctr} {r : AV} (φ : Nat) (ks : List (Nat × Nat)) (h : RunsX Try.prog φ (GivesH ks [.t 2] r Hout nx2) [.c c_math_bits_Len64] (args ++ List.replicate (25 - args.length) (.tup [])) Hin nx) : HCalls Try.prog F_math_bits_Len64 args Hin nx r Hout nx2 :=
  hcallsF Try.checked.mixed Try.func219 ok_math_bits_Len64 comp_math_bits_Len64 rfl (rs := [.t 2]) (by kernel_rfl) φ ks h

/-- slices.breakPatternsCmpFunc[pedlar/api.Version]: parameters [78, 3, 3, 174], results [], calls slices_nextPowerOfTwo, slices_xorshift_Next -/
def wl_z4z_0 : Mk := ⟨[false, false, true, true, true, true, true, true, false, false, false, false, true, true, true, true, true, true, true, true, true, true, true, true, true, true, true, true, true, true, true, true, true, true, true, true, true, true, true, true, true, true, true, true, true, true, true, true, true, true, true, true, true, true, true, true, true, true, true, true, true, true, true, true, true, true, true], []⟩
abbrev s_z4z_0 (t0 t1 t8 t9 t10 t11 : AV) : List AV := [t0, t1, .any, .any, .any, .any, .any, .any, t8, t9, t10, t11, .any, .any, .any, .any, .any, .any, .any, .any, .any, .any, .any, .any, .any, .any, .any, .any, .any, .any, .any, .any, .any, .any, .any, .any, .any, .any, .any, .any, .any, .any, .any, .any, .any, .any, .any, .any, .any, .any, .any, .any, .any, .any, .any, .any, .any, .any, .any, .any, .any, .any, .any, .any, .any, .any, .any]
def c_z4z_l0 : Cd := (.seq (.seq (.reg [⟨some 28, none, .mv, [.t 11]⟩, ⟨some 29, none, .mv, [.t 1]⟩, ⟨some 30, none, .mv, [.t 8]⟩, ⟨some 31, none, (.bin .quo), [.t 30, .c (.int .i64 4)]⟩, ⟨some 32, none, (.bin .mul), [.t 31, .c (.int .i64 2)]⟩, ⟨some 33, none, (.bin .add), [.t 29, .t 32]⟩, ⟨some 34, none, (.bin .add), [.t 33, .c (.int .i64 1)]⟩, ⟨some 35, none, (.bin .leq), [.t 28, .t 34]⟩]) (.cond (.t 35) .skip (.exit 0))) (.seq (.blk 1 [] (.seq (.reg [⟨some 38, none, (.call F_slices_xorshift_Next 2), [.t 9]⟩, ⟨some 39, none, .mv, [.t 10]⟩, ⟨some 40, none, (.bin .sub), [.t 39, .c (.int .u64 1)]⟩, ⟨some 41, none, (.bin .and), [.t 38, .t 40]⟩, ⟨some 42, none, (.conv .i64), [.t 41]⟩, ⟨some 12, none, .mv, [.t 42]⟩]) (.seq (.seq (.reg [⟨some 43, none, .mv, [.t 12]⟩, ⟨some 44, none, .mv, [.t 8]⟩, ⟨some 45, none, (.bin .geq), [.t 43, .t 44]⟩]) (.cond (.t 45) (.reg [⟨some 46, none, .mv, [.t 12]⟩, ⟨some 47, none, .mv, [.t 8]⟩, ⟨some 48, none, (.bin .sub), [.t 46, .t 47]⟩, ⟨some 12, none, .mv, [.t 48]⟩]) .skip)) (.reg [⟨some 49, none, .mv, [.t 0]⟩, ⟨some 50, none, .mv, [.t 11]⟩, ⟨some 51, none, .mv, [.t 0]⟩, ⟨some 52, none, .mv, [.t 1]⟩, ⟨some 53, none, .mv, [.t 12]⟩, ⟨some 54, none, (.bin .add), [.t 52, .t 53]⟩, ⟨some 55, none, .mv, [.t 0]⟩, ⟨some 56, none, .mv, [.t 1]⟩, ⟨some 57, none, .mv, [.t 12]⟩, ⟨some 58, none, (.bin .add), [.t 56, .t 57]⟩, ⟨some 59, none, (.ixS 7), [.t 55, .t 58]⟩, ⟨some 60, none, (.ldn 7), [.t 59]⟩, ⟨some 61, none, .mv, [.t 0]⟩, ⟨some 62, none, .mv, [.t 11]⟩, ⟨some 63, none, (.ixS 7), [.t 61, .t 62]⟩, ⟨some 64, none, (.ldn 7), [.t 63]⟩, ⟨some 65, none, (.ixS 7), [.t 49, .t 50]⟩, ⟨none, none, (.st 7), [.t 65, .t 60]⟩, ⟨some 66, none, (.ixS 7), [.t 51, .t 54]⟩, ⟨none, none, (.st 7), [.t 66, .t 64]⟩])))) (.reg [⟨some 36, none, .mv, [.t 11]⟩, ⟨some 37, none, (.bin .add), [.t 36, .c (.int .i64 1)]⟩, ⟨some 11, none, .mv, [.t 37]⟩])))
def wb_z4z_0 : List Bool := [true, true, true, true, true, true, true, true, true, true, true, true, true, true, true, true, true, true, true, true, true, true, true, true, true, true, true, true, true, true, true, true, true, true, true, true, true, true, true, true, true, true, true, true, true, true, true, true, true, true, true, true, true, true, true, true, true, true, true, true, true, true, true, true, true, true, true]
abbrev e_z4z_0 : List AV := [.any, .any, .any, .any, .any, .any, .any, .any, .any, .any, .any, .any, .any, .any, .any, .any, .any, .any, .any, .any, .any, .any, .any, .any, .any, .any, .any, .any, .any, .any, .any, .any, .any, .any, .any, .any, .any, .any, .any, .any, .any, .any, .any, .any, .any, .any, .any, .any, .any, .any, .any, .any, .any, .any, .any, .any, .any, .any, .any, .any, .any, .any, .any, .any, .any, .any, .any]
abbrev i_z4z_0 : List It := [.lp wl_z4z_0 c_z4z_l0, .blk 0 wb_z4z_0]
def c_z4z : Cd := (.seq (.reg [⟨some 13, none, .mv, [.t 2]⟩, ⟨some 14, none, .mv, [.t 1]⟩, ⟨some 15, none, (.bin .sub), [.t 13, .t 14]⟩, ⟨some 8, none, .mv, [.t 15]⟩]) (.seq (.reg [⟨some 16, none, .mv, [.t 8]⟩, ⟨some 17, none, (.bin .geq), [.t 16, .c (.int .i64 8)]⟩]) (.cond (.t 17) (.seq (.reg [⟨some 18, none, .mv, [.t 8]⟩, ⟨some 19, none, (.conv .u64), [.t 18]⟩, ⟨some 9, none, (.new [(.int .u64 0)] 9), []⟩, ⟨none, none, (.st 1), [.t 9, .t 19]⟩]) (.seq (.reg [⟨some 20, none, .mv, [.t 8]⟩, ⟨some 21, none, (.call F_z17z 0), [.t 20]⟩, ⟨some 10, none, .mv, [.t 21]⟩]) (.seq (.reg [⟨some 22, none, .mv, [.t 1]⟩, ⟨some 23, none, .mv, [.t 8]⟩, ⟨some 24, none, (.bin .quo), [.t 23, .c (.int .i64 4)]⟩, ⟨some 25, none, (.bin .mul), [.t 24, .c (.int .i64 2)]⟩, ⟨some 26, none, (.bin .add), [.t 22, .t 25]⟩, ⟨some 27, none, (.bin .sub), [.t 26, .c (.int .i64 1)]⟩, ⟨some 11, none, .mv, [.t 27]⟩]) (.blk 0 wb_z4z_0 (.loop wl_z4z_0 c_z4z_l0))))) .skip)))
theorem comp_z4z : compF Try.prog (mset [] [] []) (cset [] [F_slices_xorshift_Next] []) (wset [(0, wl_z4z_0, wb_z4z_0)] []) Try.f212 = some c_z4z := by kernel_rfl
theorem ok_z4z : fnOk Try.prog F_z4z = true := by kernel_rfl
theorem calls_z4z {args : List AV} {r : AV} (h : RunsX Try.prog 0 (Gives [] r) [.c c_z4z] (args ++ List.replicate (67 - args.length) (.tup [])) [] zeroC) : PCalls Try.prog F_z4z args r :=
  pcallsF Try.checked.mixed Try.func212 ok_z4z comp_z4z rfl (rs := []) (by kernel_rfl) h
theorem hcalls_z4z {args : List AV} {Hin Hout : Heap} {nx nx2 : Ctr} {r : AV} (φ : Nat) (ks : List (Nat × Nat)) (h : RunsX Try.prog φ (GivesH ks [] r Hout nx2) [.c c_z4z] (args ++ List.replicate (67 - args.length) (.tup [])) Hin nx) : HCalls Try.prog F_z4z args Hin nx r Hout nx2 :=
  hcallsF Try.checked.mixed Try.func212 ok_z4z comp_z4z rfl (rs := []) (by kernel_rfl) φ ks h

/-- slices.reverseRangeCmpFunc[pedlar/api.Version]: parameters [78, 3, 3, 174], results [], calls  -/
def wl_z5z_0 : Mk := ⟨[false, true, true, true, true, true, true, true, false, false, true, true, true, true, true, true, true, true, true, true, true, true, true, true, true, true, true, true, true, true, true, true, true, true], []⟩
abbrev s_z5z_0 (t0 t8 t9 : AV) : List AV := [t0, .any, .any, .any, .any, .any, .any, .any, t8, t9, .any, .any, .any, .any, .any, .any, .any, .any, .any, .any, .any, .any, .any, .any, .any, .any, .any, .any, .any, .any, .any, .any, .any, .any]
def c_z5z_l0 : Cd := (.seq (.seq (.reg [⟨some 13, none, .mv, [.t 8]⟩, ⟨some 14, none, .mv, [.t 9]⟩, ⟨some 15, none, (.bin .lss), [.t 13, .t 14]⟩]) (.cond (.t 15) .skip (.exit 0))) (.blk 1 [] (.seq (.reg [⟨some 16, none, .mv, [.t 0]⟩, ⟨some 17, none, .mv, [.t 8]⟩, ⟨some 18, none, .mv, [.t 0]⟩, ⟨some 19, none, .mv, [.t 9]⟩, ⟨some 20, none, .mv, [.t 0]⟩, ⟨some 21, none, .mv, [.t 9]⟩, ⟨some 22, none, (.ixS 7), [.t 20, .t 21]⟩, ⟨some 23, none, (.ldn 7), [.t 22]⟩, ⟨some 24, none, .mv, [.t 0]⟩, ⟨some 25, none, .mv, [.t 8]⟩, ⟨some 26, none, (.ixS 7), [.t 24, .t 25]⟩, ⟨some 27, none, (.ldn 7), [.t 26]⟩, ⟨some 28, none, (.ixS 7), [.t 16, .t 17]⟩, ⟨none, none, (.st 7), [.t 28, .t 23]⟩, ⟨some 29, none, (.ixS 7), [.t 18, .t 19]⟩, ⟨none, none, (.st 7), [.t 29, .t 27]⟩]) (.seq (.reg [⟨some 30, none, .mv, [.t 8]⟩, ⟨some 31, none, (.bin .add), [.t 30, .c (.int .i64 1)]⟩, ⟨some 8, none, .mv, [.t 31]⟩]) (.reg [⟨some 32, none, .mv, [.t 9]⟩, ⟨some 33, none, (.bin .sub), [.t 32, .c (.int .i64 1)]⟩, ⟨some 9, none, .mv, [.t 33]⟩])))))
def wb_z5z_0 : List Bool := [true, true, true, true, true, true, true, true, true, true, true, true, true, true, true, true, true, true, true, true, true, true, true, true, true, true, true, true, true, true, true, true, true, true]
abbrev e_z5z_0 : List AV := [.any, .any, .any, .any, .any, .any, .any, .any, .any, .any, .any, .any, .any, .any, .any, .any, .any, .any, .any, .any, .any, .any, .any, .any, .any, .any, .any, .any, .any, .any, .any, .any, .any, .any]
abbrev i_z5z_0 : List It := [.lp wl_z5z_0 c_z5z_l0, .blk 0 wb_z5z_0]
def c_z5z : Cd := (.seq (.reg [⟨some 10, none, .mv, [.t 1]⟩, ⟨some 8, none, .mv, [.t 10]⟩]) (.seq (.reg [⟨some 11, none, .mv, [.t 2]⟩, ⟨some 12, none, (.bin .sub), [.t 11, .c (.int .i64 1)]⟩, ⟨some 9, none, .mv, [.t 12]⟩]) (.blk 0 wb_z5z_0 (.loop wl_z5z_0 c_z5z_l0))))
theorem comp_z5z : compF Try.prog (mset [] [] []) (cset [] [] []) (wset [(0, wl_z5z_0, wb_z5z_0)] []) Try.f214 = some c_z5z := by kernel_rfl
theorem ok_z5z : fnOk Try.prog F_z5z = true := by kernel_rfl
theorem calls_z5z {args : List AV} {r : AV} (h : RunsX Try.prog 0 (Gives [] r) [.c c_z5z] (args ++ List.replicate (34 - args.length) (.tup [])) [] zeroC) : PCalls Try.prog F_z5z args r :=
  pcallsF Try.checked.mixed Try.func214 ok_z5z comp_z5z rfl (rs := []) (by kernel_rfl) h
theorem hcalls_z5z {args : List AV} {Hin Hout : Heap} {nx nx2 : Ctr} {r : AV} (φ : Nat) (ks : List (Nat × Nat)) (h : RunsX Try.prog φ (GivesH ks [] r Hout nx2) [.c c_z5z] (args ++ List.replicate (34 - args.length) (.tup [])) Hin nx) : HCalls Try.prog F_z5z args Hin nx r Hout nx2 :=
  hcallsF Try.checked.mixed Try.func214 ok_z5z comp_z5z rfl (rs := []) (by kernel_rfl) φ ks h

/-- slices.partialInsertionSortCmpFunc[pedlar/api.Version]: parameters [78, 3, 3, 174], results [.t 8], calls  -/
def wl_z0z_2 : Mk := ⟨[false, false, false, false, true, true, true, true, true, false, false, true, true, true, true, true, true, true, true, true, true, true, true, true, true, true, true, true, true, true, true, true, true, true, true, true, true, true, true, true, true, true, true, true, true, true, true, true, true, true, true, true, true, true, true, true, true, true, true, true, true, true, true, true, true, true, true, true, true, true, true, true, true, true, true, true, true, true, true, true, true, true, true, true, true, true, true, true, true, true, true, true, true, true, true, true, true, true, true, true, true, true, true, true, true, true, true, true, true, true, true, true, true, true, true, true, true, true, true, true, true, true, true, true, true, true, true, true, true, true, true, true, true, true, true, true, true, true, true, true, true], []⟩
abbrev s_z0z_2 (t0 t1 t2 t3 t9 t10 : AV) : List AV := [t0, t1, t2, t3, .any, .any, .any, .any, .any, t9, t10, .any, .any, .any, .any, .any, .any, .any, .any, .any, .any, .any, .any, .any, .any, .any, .any, .any, .any, .any, .any, .any, .any, .any, .any, .any, .any, .any, .any, .any, .any, .any, .any, .any, .any, .any, .any, .any, .any, .any, .any, .any, .any, .any, .any, .any, .any, .any, .any, .any, .any, .any, .any, .any, .any, .any, .any, .any, .any, .any, .any, .any, .any, .any, .any, .any, .any, .any, .any, .any, .any, .any, .any, .any, .any, .any, .any, .any, .any, .any, .any, .any, .any, .any, .any, .any, .any, .any, .any, .any, .any, .any, .any, .any, .any, .any, .any, .any, .any, .any, .any, .any, .any, .any, .any, .any, .any, .any, .any, .any, .any, .any, .any, .any, .any, .any, .any, .any, .any, .any, .any, .any, .any, .any, .any, .any, .any, .any, .any, .any, .any]
def c_z0z_l2 : Cd := (.seq (.seq (.reg [⟨some 19, none, .mv, [.t 9]⟩, ⟨some 20, none, .mv, [.t 2]⟩, ⟨some 21, none, (.bin .lss), [.t 19, .t 20]⟩, ⟨some 22, none, .mv, [.t 21]⟩, ⟨some 23, (some (22, true)), .mv, [.t 3]⟩, ⟨some 24, (some (22, true)), .mv, [.t 0]⟩, ⟨some 25, (some (22, true)), .mv, [.t 9]⟩, ⟨some 26, (some (22, true)), (.ixS 7), [.t 24, .t 25]⟩, ⟨some 27, (some (22, true)), (.ldn 7), [.t 26]⟩, ⟨some 28, (some (22, true)), .mv, [.t 0]⟩, ⟨some 29, (some (22, true)), .mv, [.t 9]⟩, ⟨some 30, (some (22, true)), (.bin .sub), [.t 29, .c (.int .i64 1)]⟩, ⟨some 31, (some (22, true)), (.ixS 7), [.t 28, .t 30]⟩, ⟨some 32, (some (22, true)), (.ldn 7), [.t 31]⟩, ⟨some 33, (some (22, true)), (.callv 0), [.t 23, .t 27, .t 32]⟩, ⟨some 34, (some (22, true)), (.bin .lss), [.t 33, .c (.int .i64 0)]⟩, ⟨some 35, (some (22, true)), .not, [.t 34]⟩, ⟨some 36, none, .pick, [.t 22, .t 35, .c (.bool false)]⟩]) (.cond (.t 36) .skip (.exit 2))) (.blk 3 [] (.reg [⟨some 37, none, .mv, [.t 9]⟩, ⟨some 38, none, (.bin .add), [.t 37, .c (.int .i64 1)]⟩, ⟨some 9, none, .mv, [.t 38]⟩])))
def wb_z0z_2 : List Bool := [false, false, false, false, true, true, true, true, true, false, false, true, true, true, true, true, true, true, true, true, true, true, true, true, true, true, true, true, true, true, true, true, true, true, true, true, true, true, true, true, true, true, true, true, true, true, true, true, true, true, true, true, true, true, true, true, true, true, true, true, true, true, true, true, true, true, true, true, true, true, true, true, true, true, true, true, true, true, true, true, true, true, true, true, true, true, true, true, true, true, true, true, true, true, true, true, true, true, true, true, true, true, true, true, true, true, true, true, true, true, true, true, true, true, true, true, true, true, true, true, true, true, true, true, true, true, true, true, true, true, true, true, true, true, true, true, true, true, true, true, true]
abbrev e_z0z_2 (t0 t1 t2 t3 t9 t10 : AV) : List AV := [t0, t1, t2, t3, .any, .any, .any, .any, .any, t9, t10, .any, .any, .any, .any, .any, .any, .any, .any, .any, .any, .any, .any, .any, .any, .any, .any, .any, .any, .any, .any, .any, .any, .any, .any, .any, .any, .any, .any, .any, .any, .any, .any, .any, .any, .any, .any, .any, .any, .any, .any, .any, .any, .any, .any, .any, .any, .any, .any, .any, .any, .any, .any, .any, .any, .any, .any, .any, .any, .any, .any, .any, .any, .any, .any, .any, .any, .any, .any, .any, .any, .any, .any, .any, .any, .any, .any, .any, .any, .any, .any, .any, .any, .any, .any, .any, .any, .any, .any, .any, .any, .any, .any, .any, .any, .any, .any, .any, .any, .any, .any, .any, .any, .any, .any, .any, .any, .any, .any, .any, .any, .any, .any, .any, .any, .any, .any, .any, .any, .any, .any, .any, .any, .any, .any, .any, .any, .any, .any, .any, .any]
abbrev i_z0z_2 : List It := [.lp wl_z0z_2 c_z0z_l2, .blk 2 wb_z0z_2]
def wl_z0z_4 : Mk := ⟨[false, false, false, false, true, true, true, true, true, false, false, false, true, true, true, true, true, true, true, true, true, true, true, true, true, true, true, true, true, true, true, true, true, true, true, true, true, true, true, true, true, true, true, true, true, true, true, true, true, true, true, true, true, true, true, true, true, true, true, true, true, true, true, true, true, true, true, true, true, true, true, true, true, true, true, true, true, true, true, true, true, true, true, true, true, true, true, true, true, true, true, true, true, true, true, true, true, true, true, true, true, true, true, true, true, true, true, true, true, true, true, true, true, true, true, true, true, true, true, true, true, true, true, true, true, true, true, true, true, true, true, true, true, true, true, true, true, true, true, true, true], []⟩
abbrev s_z0z_4 (t0 t1 t2 t3 t9 t10 t11 : AV) : List AV := [t0, t1, t2, t3, .any, .any, .any, .any, .any, t9, t10, t11, .any, .any, .any, .any, .any, .any, .any, .any, .any, .any, .any, .any, .any, .any, .any, .any, .any, .any, .any, .any, .any, .any, .any, .any, .any, .any, .any, .any, .any, .any, .any, .any, .any, .any, .any, .any, .any, .any, .any, .any, .any, .any, .any, .any, .any, .any, .any, .any, .any, .any, .any, .any, .any, .any, .any, .any, .any, .any, .any, .any, .any, .any, .any, .any, .any, .any, .any, .any, .any, .any, .any, .any, .any, .any, .any, .any, .any, .any, .any, .any, .any, .any, .any, .any, .any, .any, .any, .any, .any, .any, .any, .any, .any, .any, .any, .any, .any, .any, .any, .any, .any, .any, .any, .any, .any, .any, .any, .any, .any, .any, .any, .any, .any, .any, .any, .any, .any, .any, .any, .any, .any, .any, .any, .any, .any, .any, .any, .any, .any]
def c_z0z_l4 : Cd := (.seq (.seq (.reg [⟨some 68, none, .mv, [.t 11]⟩, ⟨some 69, none, (.bin .geq), [.t 68, .c (.int .i64 1)]⟩]) (.cond (.t 69) .skip (.exit 4))) (.seq (.blk 5 [] (.seq (.seq (.reg [⟨some 72, none, .mv, [.t 3]⟩, ⟨some 73, none, .mv, [.t 0]⟩, ⟨some 74, none, .mv, [.t 11]⟩, ⟨some 75, none, (.ixS 7), [.t 73, .t 74]⟩, ⟨some 76, none, (.ldn 7), [.t 75]⟩, ⟨some 77, none, .mv, [.t 0]⟩, ⟨some 78, none, .mv, [.t 11]⟩, ⟨some 79, none, (.bin .sub), [.t 78, .c (.int .i64 1)]⟩, ⟨some 80, none, (.ixS 7), [.t 77, .t 79]⟩, ⟨some 81, none, (.ldn 7), [.t 80]⟩, ⟨some 82, none, (.callv 0), [.t 72, .t 76, .t 81]⟩, ⟨some 83, none, (.bin .lss), [.t 82, .c (.int .i64 0)]⟩, ⟨some 84, none, .not, [.t 83]⟩]) (.cond (.t 84) (.exit 4) .skip)) (.reg [⟨some 85, none, .mv, [.t 0]⟩, ⟨some 86, none, .mv, [.t 11]⟩, ⟨some 87, none, .mv, [.t 0]⟩, ⟨some 88, none, .mv, [.t 11]⟩, ⟨some 89, none, (.bin .sub), [.t 88, .c (.int .i64 1)]⟩, ⟨some 90, none, .mv, [.t 0]⟩, ⟨some 91, none, .mv, [.t 11]⟩, ⟨some 92, none, (.bin .sub), [.t 91, .c (.int .i64 1)]⟩, ⟨some 93, none, (.ixS 7), [.t 90, .t 92]⟩, ⟨some 94, none, (.ldn 7), [.t 93]⟩, ⟨some 95, none, .mv, [.t 0]⟩, ⟨some 96, none, .mv, [.t 11]⟩, ⟨some 97, none, (.ixS 7), [.t 95, .t 96]⟩, ⟨some 98, none, (.ldn 7), [.t 97]⟩, ⟨some 99, none, (.ixS 7), [.t 85, .t 86]⟩, ⟨none, none, (.st 7), [.t 99, .t 94]⟩, ⟨some 100, none, (.ixS 7), [.t 87, .t 89]⟩, ⟨none, none, (.st 7), [.t 100, .t 98]⟩]))) (.reg [⟨some 70, none, .mv, [.t 11]⟩, ⟨some 71, none, (.bin .sub), [.t 70, .c (.int .i64 1)]⟩, ⟨some 11, none, .mv, [.t 71]⟩])))
def wb_z0z_4 : List Bool := [false, false, false, false, true, true, true, true, true, false, false, true, true, true, true, true, true, true, true, true, true, true, true, true, true, true, true, true, true, true, true, true, true, true, true, true, true, true, true, true, true, true, true, true, true, true, true, true, true, true, true, true, true, true, true, true, true, true, true, true, true, true, true, true, true, true, true, true, true, true, true, true, true, true, true, true, true, true, true, true, true, true, true, true, true, true, true, true, true, true, true, true, true, true, true, true, true, true, true, true, true, true, true, true, true, true, true, true, true, true, true, true, true, true, true, true, true, true, true, true, true, true, true, true, true, true, true, true, true, true, true, true, true, true, true, true, true, true, true, true, true]
abbrev e_z0z_4 (t0 t1 t2 t3 t9 t10 : AV) : List AV := [t0, t1, t2, t3, .any, .any, .any, .any, .any, t9, t10, .any, .any, .any, .any, .any, .any, .any, .any, .any, .any, .any, .any, .any, .any, .any, .any, .any, .any, .any, .any, .any, .any, .any, .any, .any, .any, .any, .any, .any, .any, .any, .any, .any, .any, .any, .any, .any, .any, .any, .any, .any, .any, .any, .any, .any, .any, .any, .any, .any, .any, .any, .any, .any, .any, .any, .any, .any, .any, .any, .any, .any, .any, .any, .any, .any, .any, .any, .any, .any, .any, .any, .any, .any, .any, .any, .any, .any, .any, .any, .any, .any, .any, .any, .any, .any, .any, .any, .any, .any, .any, .any, .any, .any, .any, .any, .any, .any, .any, .any, .any, .any, .any, .any, .any, .any, .any, .any, .any, .any, .any, .any, .any, .any, .any, .any, .any, .any, .any, .any, .any, .any, .any, .any, .any, .any, .any, .any, .any, .any, .any]
abbrev i_z0z_4 : List It := [.lp wl_z0z_4 c_z0z_l4, .blk 4 wb_z0z_4]
def wl_z0z_6 : Mk := ⟨[false, false, false, false, true, true, true, true, true, false, false, true, false, true, true, true, true, true, true, true, true, true, true, true, true, true, true, true, true, true, true, true, true, true, true, true, true, true, true, true, true, true, true, true, true, true, true, true, true, true, true, true, true, true, true, true, true, true, true, true, true, true, true, true, true, true, true, true, true, true, true, true, true, true, true, true, true, true, true, true, true, true, true, true, true, true, true, true, true, true, true, true, true, true, true, true, true, true, true, true, true, true, true, true, true, true, true, true, true, true, true, true, true, true, true, true, true, true, true, true, true, true, true, true, true, true, true, true, true, true, true, true, true, true, true, true, true, true, true, true, true], []⟩
abbrev s_z0z_6 (t0 t1 t2 t3 t9 t10 t12 : AV) : List AV := [t0, t1, t2, t3, .any, .any, .any, .any, .any, t9, t10, .any, t12, .any, .any, .any, .any, .any, .any, .any, .any, .any, .any, .any, .any, .any, .any, .any, .any, .any, .any, .any, .any, .any, .any, .any, .any, .any, .any, .any, .any, .any, .any, .any, .any, .any, .any, .any, .any, .any, .any, .any, .any, .any, .any, .any, .any, .any, .any, .any, .any, .any, .any, .any, .any, .any, .any, .any, .any, .any, .any, .any, .any, .any, .any, .any, .any, .any, .any, .any, .any, .any, .any, .any, .any, .any, .any, .any, .any, .any, .any, .any, .any, .any, .any, .any, .any, .any, .any, .any, .any, .any, .any, .any, .any, .any, .any, .any, .any, .any, .any, .any, .any, .any, .any, .any, .any, .any, .any, .any, .any, .any, .any, .any, .any, .any, .any, .any, .any, .any, .any, .any, .any, .any, .any, .any, .any, .any, .any, .any, .any]
def c_z0z_l6 : Cd := (.seq (.seq (.reg [⟨some 107, none, .mv, [.t 12]⟩, ⟨some 108, none, .mv, [.t 2]⟩, ⟨some 109, none, (.bin .lss), [.t 107, .t 108]⟩]) (.cond (.t 109) .skip (.exit 6))) (.seq (.blk 7 [] (.seq (.seq (.reg [⟨some 112, none, .mv, [.t 3]⟩, ⟨some 113, none, .mv, [.t 0]⟩, ⟨some 114, none, .mv, [.t 12]⟩, ⟨some 115, none, (.ixS 7), [.t 113, .t 114]⟩, ⟨some 116, none, (.ldn 7), [.t 115]⟩, ⟨some 117, none, .mv, [.t 0]⟩, ⟨some 118, none, .mv, [.t 12]⟩, ⟨some 119, none, (.bin .sub), [.t 118, .c (.int .i64 1)]⟩, ⟨some 120, none, (.ixS 7), [.t 117, .t 119]⟩, ⟨some 121, none, (.ldn 7), [.t 120]⟩, ⟨some 122, none, (.callv 0), [.t 112, .t 116, .t 121]⟩, ⟨some 123, none, (.bin .lss), [.t 122, .c (.int .i64 0)]⟩, ⟨some 124, none, .not, [.t 123]⟩]) (.cond (.t 124) (.exit 6) .skip)) (.reg [⟨some 125, none, .mv, [.t 0]⟩, ⟨some 126, none, .mv, [.t 12]⟩, ⟨some 127, none, .mv, [.t 0]⟩, ⟨some 128, none, .mv, [.t 12]⟩, ⟨some 129, none, (.bin .sub), [.t 128, .c (.int .i64 1)]⟩, ⟨some 130, none, .mv, [.t 0]⟩, ⟨some 131, none, .mv, [.t 12]⟩, ⟨some 132, none, (.bin .sub), [.t 131, .c (.int .i64 1)]⟩, ⟨some 133, none, (.ixS 7), [.t 130, .t 132]⟩, ⟨some 134, none, (.ldn 7), [.t 133]⟩, ⟨some 135, none, .mv, [.t 0]⟩, ⟨some 136, none, .mv, [.t 12]⟩, ⟨some 137, none, (.ixS 7), [.t 135, .t 136]⟩, ⟨some 138, none, (.ldn 7), [.t 137]⟩, ⟨some 139, none, (.ixS 7), [.t 125, .t 126]⟩, ⟨none, none, (.st 7), [.t 139, .t 134]⟩, ⟨some 140, none, (.ixS 7), [.t 127, .t 129]⟩, ⟨none, none, (.st 7), [.t 140, .t 138]⟩]))) (.reg [⟨some 110, none, .mv, [.t 12]⟩, ⟨some 111, none, (.bin .add), [.t 110, .c (.int .i64 1)]⟩, ⟨some 12, none, .mv, [.t 111]⟩])))
def wb_z0z_6 : List Bool := [false, false, false, false, true, true, true, true, true, false, false, true, true, true, true, true, true, true, true, true, true, true, true, true, true, true, true, true, true, true, true, true, true, true, true, true, true, true, true, true, true, true, true, true, true, true, true, true, true, true, true, true, true, true, true, true, true, true, true, true, true, true, true, true, true, true, true, true, true, true, true, true, true, true, true, true, true, true, true, true, true, true, true, true, true, true, true, true, true, true, true, true, true, true, true, true, true, true, true, true, true, true, true, true, true, true, true, true, true, true, true, true, true, true, true, true, true, true, true, true, true, true, true, true, true, true, true, true, true, true, true, true, true, true, true, true, true, true, true, true, true]
abbrev e_z0z_6 (t0 t1 t2 t3 t9 t10 : AV) : List AV := [t0, t1, t2, t3, .any, .any, .any, .any, .any, t9, t10, .any, .any, .any, .any, .any, .any, .any, .any, .any, .any, .any, .any, .any, .any, .any, .any, .any, .any, .any, .any, .any, .any, .any, .any, .any, .any, .any, .any, .any, .any, .any, .any, .any, .any, .any, .any, .any, .any, .any, .any, .any, .any, .any, .any, .any, .any, .any, .any, .any, .any, .any, .any, .any, .any, .any, .any, .any, .any, .any, .any, .any, .any, .any, .any, .any, .any, .any, .any, .any, .any, .any, .any, .any, .any, .any, .any, .any, .any, .any, .any, .any, .any, .any, .any, .any, .any, .any, .any, .any, .any, .any, .any, .any, .any, .any, .any, .any, .any, .any, .any, .any, .any, .any, .any, .any, .any, .any, .any, .any, .any, .any, .any, .any, .any, .any, .any, .any, .any, .any, .any, .any, .any, .any, .any, .any, .any, .any, .any, .any, .any]
abbrev i_z0z_6 : List It := [.lp wl_z0z_6 c_z0z_l6, .blk 6 wb_z0z_6]
def c_z0z_k0 : Cd := (.seq (.reg [⟨some 101, none, .mv, [.t 2]⟩, ⟨some 102, none, .mv, [.t 9]⟩, ⟨some 103, none, (.bin .sub), [.t 101, .t 102]⟩, ⟨some 104, none, (.bin .geq), [.t 103, .c (.int .i64 2)]⟩]) (.cond (.t 104) (.seq (.reg [⟨some 105, none, .mv, [.t 9]⟩, ⟨some 106, none, (.bin .add), [.t 105, .c (.int .i64 1)]⟩, ⟨some 12, none, .mv, [.t 106]⟩]) (.blk 6 wb_z0z_6 (.loop wl_z0z_6 c_z0z_l6))) .skip))
def c_z0z_k1 : Cd := (.seq (.seq (.reg [⟨some 39, none, .mv, [.t 9]⟩, ⟨some 40, none, .mv, [.t 2]⟩, ⟨some 41, none, (.bin .eql), [.t 39, .t 40]⟩]) (.cond (.t 41) (.seq (.reg [⟨some 8, none, .mv, [.c (.bool true)]⟩]) .ret) .skip)) (.seq (.seq (.reg [⟨some 42, none, .mv, [.t 2]⟩, ⟨some 43, none, .mv, [.t 1]⟩, ⟨some 44, none, (.bin .sub), [.t 42, .t 43]⟩, ⟨some 45, none, (.bin .lss), [.t 44, .c (.int .i64 50)]⟩]) (.cond (.t 45) (.seq (.reg [⟨some 8, none, .mv, [.c (.bool false)]⟩]) .ret) .skip)) (.seq (.reg [⟨some 46, none, .mv, [.t 0]⟩, ⟨some 47, none, .mv, [.t 9]⟩, ⟨some 48, none, .mv, [.t 0]⟩, ⟨some 49, none, .mv, [.t 9]⟩, ⟨some 50, none, (.bin .sub), [.t 49, .c (.int .i64 1)]⟩, ⟨some 51, none, .mv, [.t 0]⟩, ⟨some 52, none, .mv, [.t 9]⟩, ⟨some 53, none, (.bin .sub), [.t 52, .c (.int .i64 1)]⟩, ⟨some 54, none, (.ixS 7), [.t 51, .t 53]⟩, ⟨some 55, none, (.ldn 7), [.t 54]⟩, ⟨some 56, none, .mv, [.t 0]⟩, ⟨some 57, none, .mv, [.t 9]⟩, ⟨some 58, none, (.ixS 7), [.t 56, .t 57]⟩, ⟨some 59, none, (.ldn 7), [.t 58]⟩, ⟨some 60, none, (.ixS 7), [.t 46, .t 47]⟩, ⟨none, none, (.st 7), [.t 60, .t 55]⟩, ⟨some 61, none, (.ixS 7), [.t 48, .t 50]⟩, ⟨none, none, (.st 7), [.t 61, .t 59]⟩]) (.seq (.seq (.reg [⟨some 62, none, .mv, [.t 9]⟩, ⟨some 63, none, .mv, [.t 1]⟩, ⟨some 64, none, (.bin .sub), [.t 62, .t 63]⟩, ⟨some 65, none, (.bin .geq), [.t 64, .c (.int .i64 2)]⟩]) (.cond (.t 65) (.seq (.reg [⟨some 66, none, .mv, [.t 9]⟩, ⟨some 67, none, (.bin .sub), [.t 66, .c (.int .i64 1)]⟩, ⟨some 11, none, .mv, [.t 67]⟩]) (.blk 4 wb_z0z_4 (.loop wl_z0z_4 c_z0z_l4))) .skip)) c_z0z_k0))))
def wb_z0z_1 : List Bool := [false, false, false, false, true, true, true, true, true, false, false, true, true, true, true, true, true, true, true, true, true, true, true, true, true, true, true, true, true, true, true, true, true, true, true, true, true, true, true, true, true, true, true, true, true, true, true, true, true, true, true, true, true, true, true, true, true, true, true, true, true, true, true, true, true, true, true, true, true, true, true, true, true, true, true, true, true, true, true, true, true, true, true, true, true, true, true, true, true, true, true, true, true, true, true, true, true, true, true, true, true, true, true, true, true, true, true, true, true, true, true, true, true, true, true, true, true, true, true, true, true, true, true, true, true, true, true, true, true, true, true, true, true, true, true, true, true, true, true, true, true]
abbrev e_z0z_1 (t0 t1 t2 t3 t9 t10 : AV) : List AV := [t0, t1, t2, t3, .any, .any, .any, .any, .any, t9, t10, .any, .any, .any, .any, .any, .any, .any, .any, .any, .any, .any, .any, .any, .any, .any, .any, .any, .any, .any, .any, .any, .any, .any, .any, .any, .any, .any, .any, .any, .any, .any, .any, .any, .any, .any, .any, .any, .any, .any, .any, .any, .any, .any, .any, .any, .any, .any, .any, .any, .any, .any, .any, .any, .any, .any, .any, .any, .any, .any, .any, .any, .any, .any, .any, .any, .any, .any, .any, .any, .any, .any, .any, .any, .any, .any, .any, .any, .any, .any, .any, .any, .any, .any, .any, .any, .any, .any, .any, .any, .any, .any, .any, .any, .any, .any, .any, .any, .any, .any, .any, .any, .any, .any, .any, .any, .any, .any, .any, .any, .any, .any, .any, .any, .any, .any, .any, .any, .any, .any, .any, .any, .any, .any, .any, .any, .any, .any, .any, .any, .any]
def c_z0z_k2 : Cd := (.reg [⟨some 17, none, .mv, [.t 10]⟩, ⟨some 18, none, (.bin .add), [.t 17, .c (.int .i64 1)]⟩, ⟨some 10, none, .mv, [.t 18]⟩])
def wl_z0z_0 : Mk := ⟨[false, false, false, false, true, true, true, true, true, false, false, true, true, true, true, true, true, true, true, true, true, true, true, true, true, true, true, true, true, true, true, true, true, true, true, true, true, true, true, true, true, true, true, true, true, true, true, true, true, true, true, true, true, true, true, true, true, true, true, true, true, true, true, true, true, true, true, true, true, true, true, true, true, true, true, true, true, true, true, true, true, true, true, true, true, true, true, true, true, true, true, true, true, true, true, true, true, true, true, true, true, true, true, true, true, true, true, true, true, true, true, true, true, true, true, true, true, true, true, true, true, true, true, true, true, true, true, true, true, true, true, true, true, true, true, true, true, true, true, true, true], []⟩
abbrev s_z0z_0 (t0 t1 t2 t3 t9 t10 : AV) : List AV := [t0, t1, t2, t3, .any, .any, .any, .any, .any, t9, t10, .any, .any, .any, .any, .any, .any, .any, .any, .any, .any, .any, .any, .any, .any, .any, .any, .any, .any, .any, .any, .any, .any, .any, .any, .any, .any, .any, .any, .any, .any, .any, .any, .any, .any, .any, .any, .any, .any, .any, .any, .any, .any, .any, .any, .any, .any, .any, .any, .any, .any, .any, .any, .any, .any, .any, .any, .any, .any, .any, .any, .any, .any, .any, .any, .any, .any, .any, .any, .any, .any, .any, .any, .any, .any, .any, .any, .any, .any, .any, .any, .any, .any, .any, .any, .any, .any, .any, .any, .any, .any, .any, .any, .any, .any, .any, .any, .any, .any, .any, .any, .any, .any, .any, .any, .any, .any, .any, .any, .any, .any, .any, .any, .any, .any, .any, .any, .any, .any, .any, .any, .any, .any, .any, .any, .any, .any, .any, .any, .any, .any]
def c_z0z_l0 : Cd := (.seq (.seq (.reg [⟨some 15, none, .mv, [.t 10]⟩, ⟨some 16, none, (.bin .lss), [.t 15, .c (.int .i64 5)]⟩]) (.cond (.t 16) .skip (.exit 0))) (.seq (.blk 1 wb_z0z_1 (.seq (.blk 2 wb_z0z_2 (.loop wl_z0z_2 c_z0z_l2)) c_z0z_k1)) c_z0z_k2))
def wb_z0z_0 : List Bool := [true, true, true, true, true, true, true, true, true, true, true, true, true, true, true, true, true, true, true, true, true, true, true, true, true, true, true, true, true, true, true, true, true, true, true, true, true, true, true, true, true, true, true, true, true, true, true, true, true, true, true, true, true, true, true, true, true, true, true, true, true, true, true, true, true, true, true, true, true, true, true, true, true, true, true, true, true, true, true, true, true, true, true, true, true, true, true, true, true, true, true, true, true, true, true, true, true, true, true, true, true, true, true, true, true, true, true, true, true, true, true, true, true, true, true, true, true, true, true, true, true, true, true, true, true, true, true, true, true, true, true, true, true, true, true, true, true, true, true, true, true]
abbrev e_z0z_0 : List AV := [.any, .any, .any, .any, .any, .any, .any, .any, .any, .any, .any, .any, .any, .any, .any, .any, .any, .any, .any, .any, .any, .any, .any, .any, .any, .any, .any, .any, .any, .any, .any, .any, .any, .any, .any, .any, .any, .any, .any, .any, .any, .any, .any, .any, .any, .any, .any, .any, .any, .any, .any, .any, .any, .any, .any, .any, .any, .any, .any, .any, .any, .any, .any, .any, .any, .any, .any, .any, .any, .any, .any, .any, .any, .any, .any, .any, .any, .any, .any, .any, .any, .any, .any, .any, .any, .any, .any, .any, .any, .any, .any, .any, .any, .any, .any, .any, .any, .any, .any, .any, .any, .any, .any, .any, .any, .any, .any, .any, .any, .any, .any, .any, .any, .any, .any, .any, .any, .any, .any, .any, .any, .any, .any, .any, .any, .any, .any, .any, .any, .any, .any, .any, .any, .any, .any, .any, .any, .any, .any, .any, .any]
abbrev i_z0z_0 : List It := [.lp wl_z0z_0 c_z0z_l0, .blk 0 wb_z0z_0]
def c_z0z_k3 : Cd := (.seq (.reg [⟨some 8, none, .mv, [.c (.bool false)]⟩]) .ret)
def c_z0z : Cd := (.seq (.reg [⟨some 8, none, .mv, [.c (.bool false)]⟩]) (.seq (.reg [⟨some 13, none, .mv, [.t 1]⟩, ⟨some 14, none, (.bin .add), [.t 13, .c (.int .i64 1)]⟩, ⟨some 9, none, .mv, [.t 14]⟩]) (.seq (.seq (.reg [⟨some 10, none, .mv, [.c (.int .i64 0)]⟩]) (.blk 0 wb_z0z_0 (.loop wl_z0z_0 c_z0z_l0))) c_z0z_k3)))
theorem comp_z0z : compF Try.prog (mset [] [] []) (cset [] [] []) (wset [(2, wl_z0z_2, wb_z0z_2), (4, wl_z0z_4, wb_z0z_4), (6, wl_z0z_6, wb_z0z_6), (1, ⟨[], []⟩, wb_z0z_1), (0, wl_z0z_0, wb_z0z_0)] []) Try.f215 = some c_z0z := by kernel_rfl
theorem ok_z0z : fnOk Try.prog F_z0z = true := by kernel_rfl
theorem calls_z0z {args : List AV} {r : AV} (h : RunsX Try.prog 0 (Gives [.t 8] r) [.c c_z0z] (args ++ List.replicate (141 - args.length) (.tup [])) [] zeroC) : PCalls Try.prog F_z0z args r :=
  pcallsF Try.checked.mixed Try.func215 ok_z0z comp_z0z rfl (rs := [.t 8]) (by kernel_rfl) h
theorem hcalls_z0z {args : List AV} {Hin Hout : Heap} {nx nx2 : Ctr} {r : AV} (φ : Nat) (ks : List (Nat × Nat)) (h : RunsX Try.prog φ (GivesH ks [.t 8] r Hout nx2) [.c c_z0z] (args ++ List.replicate (141 - args.length) (.tup [])) Hin nx) : HCalls Try.prog F_z0z args Hin nx r Hout nx2 :=
  hcallsF Try.checked.mixed Try.func215 ok_z0z comp_z0z rfl (rs := [.t 8]) (by kernel_rfl) φ ks h

/-- slices.partitionEqualCmpFunc[pedlar/api.Version]: parameters [78, 3, 3, 3, 174], results [.t 10], calls  -/
def wl_z1z_2 : Mk := ⟨[false, false, true, true, false, true, true, true, true, true, true, false, false, true, true, true, true, true, true, true, true, true, true, true, true, true, true, true, true, true, true, true, true, true, true, true, true, true, true, true, true, true, true, true, true, true, true, true, true, true, true, true, true, true, true, true, true, true, true, true, true, true, true, true, true, true, true, true, true, true, true, true, true, true, true, true, true, true, true, true, true, true, true, true, true, true, true, true, true, true], []⟩
abbrev s_z1z_2 (t0 t1 t4 t11 t12 : AV) : List AV := [t0, t1, .any, .any, t4, .any, .any, .any, .any, .any, .any, t11, t12, .any, .any, .any, .any, .any, .any, .any, .any, .any, .any, .any, .any, .any, .any, .any, .any, .any, .any, .any, .any, .any, .any, .any, .any, .any, .any, .any, .any, .any, .any, .any, .any, .any, .any, .any, .any, .any, .any, .any, .any, .any, .any, .any, .any, .any, .any, .any, .any, .any, .any, .any, .any, .any, .any, .any, .any, .any, .any, .any, .any, .any, .any, .any, .any, .any, .any, .any, .any, .any, .any, .any, .any, .any, .any, .any, .any, .any]
def c_z1z_l2 : Cd := (.seq (.seq (.reg [⟨some 31, none, .mv, [.t 11]⟩, ⟨some 32, none, .mv, [.t 12]⟩, ⟨some 33, none, (.bin .leq), [.t 31, .t 32]⟩, ⟨some 34, none, .mv, [.t 33]⟩, ⟨some 35, (some (34, true)), .mv, [.t 4]⟩, ⟨some 36, (some (34, true)), .mv, [.t 0]⟩, ⟨some 37, (some (34, true)), .mv, [.t 1]⟩, ⟨some 38, (some (34, true)), (.ixS 7), [.t 36, .t 37]⟩, ⟨some 39, (some (34, true)), (.ldn 7), [.t 38]⟩, ⟨some 40, (some (34, true)), .mv, [.t 0]⟩, ⟨some 41, (some (34, true)), .mv, [.t 11]⟩, ⟨some 42, (some (34, true)), (.ixS 7), [.t 40, .t 41]⟩, ⟨some 43, (some (34, true)), (.ldn 7), [.t 42]⟩, ⟨some 44, (some (34, true)), (.callv 0), [.t 35, .t 39, .t 43]⟩, ⟨some 45, (some (34, true)), (.bin .lss), [.t 44, .c (.int .i64 0)]⟩, ⟨some 46, (some (34, true)), .not, [.t 45]⟩, ⟨some 47, none, .pick, [.t 34, .t 46, .c (.bool false)]⟩]) (.cond (.t 47) .skip (.exit 2))) (.blk 3 [] (.reg [⟨some 48, none, .mv, [.t 11]⟩, ⟨some 49, none, (.bin .add), [.t 48, .c (.int .i64 1)]⟩, ⟨some 11, none, .mv, [.t 49]⟩])))
def wb_z1z_2 : List Bool := [false, false, true, true, false, true, true, true, true, true, true, false, false, true, true, true, true, true, true, true, true, true, true, true, true, true, true, true, true, true, true, true, true, true, true, true, true, true, true, true, true, true, true, true, true, true, true, true, true, true, true, true, true, true, true, true, true, true, true, true, true, true, true, true, true, true, true, true, true, true, true, true, true, true, true, true, true, true, true, true, true, true, true, true, true, true, true, true, true, true]
abbrev e_z1z_2 (t0 t1 t4 t11 t12 : AV) : List AV := [t0, t1, .any, .any, t4, .any, .any, .any, .any, .any, .any, t11, t12, .any, .any, .any, .any, .any, .any, .any, .any, .any, .any, .any, .any, .any, .any, .any, .any, .any, .any, .any, .any, .any, .any, .any, .any, .any, .any, .any, .any, .any, .any, .any, .any, .any, .any, .any, .any, .any, .any, .any, .any, .any, .any, .any, .any, .any, .any, .any, .any, .any, .any, .any, .any, .any, .any, .any, .any, .any, .any, .any, .any, .any, .any, .any, .any, .any, .any, .any, .any, .any, .any, .any, .any, .any, .any, .any, .any, .any]
abbrev i_z1z_2 : List It := [.lp wl_z1z_2 c_z1z_l2, .blk 2 wb_z1z_2]
def wl_z1z_4 : Mk := ⟨[false, false, true, true, false, true, true, true, true, true, true, false, false, true, true, true, true, true, true, true, true, true, true, true, true, true, true, true, true, true, true, true, true, true, true, true, true, true, true, true, true, true, true, true, true, true, true, true, true, true, true, true, true, true, true, true, true, true, true, true, true, true, true, true, true, true, true, true, true, true, true, true, true, true, true, true, true, true, true, true, true, true, true, true, true, true, true, true, true, true], []⟩
abbrev s_z1z_4 (t0 t1 t4 t11 t12 : AV) : List AV := [t0, t1, .any, .any, t4, .any, .any, .any, .any, .any, .any, t11, t12, .any, .any, .any, .any, .any, .any, .any, .any, .any, .any, .any, .any, .any, .any, .any, .any, .any, .any, .any, .any, .any, .any, .any, .any, .any, .any, .any, .any, .any, .any, .any, .any, .any, .any, .any, .any, .any, .any, .any, .any, .any, .any, .any, .any, .any, .any, .any, .any, .any, .any, .any, .any, .any, .any, .any, .any, .any, .any, .any, .any, .any, .any, .any, .any, .any, .any, .any, .any, .any, .any, .any, .any, .any, .any, .any, .any, .any]
def c_z1z_l4 : Cd := (.seq (.seq (.reg [⟨some 50, none, .mv, [.t 11]⟩, ⟨some 51, none, .mv, [.t 12]⟩, ⟨some 52, none, (.bin .leq), [.t 50, .t 51]⟩, ⟨some 53, none, .mv, [.t 52]⟩, ⟨some 54, (some (53, true)), .mv, [.t 4]⟩, ⟨some 55, (some (53, true)), .mv, [.t 0]⟩, ⟨some 56, (some (53, true)), .mv, [.t 1]⟩, ⟨some 57, (some (53, true)), (.ixS 7), [.t 55, .t 56]⟩, ⟨some 58, (some (53, true)), (.ldn 7), [.t 57]⟩, ⟨some 59, (some (53, true)), .mv, [.t 0]⟩, ⟨some 60, (some (53, true)), .mv, [.t 12]⟩, ⟨some 61, (some (53, true)), (.ixS 7), [.t 59, .t 60]⟩, ⟨some 62, (some (53, true)), (.ldn 7), [.t 61]⟩, ⟨some 63, (some (53, true)), (.callv 0), [.t 54, .t 58, .t 62]⟩, ⟨some 64, (some (53, true)), (.bin .lss), [.t 63, .c (.int .i64 0)]⟩, ⟨some 65, none, .pick, [.t 53, .t 64, .c (.bool false)]⟩]) (.cond (.t 65) .skip (.exit 4))) (.blk 5 [] (.reg [⟨some 66, none, .mv, [.t 12]⟩, ⟨some 67, none, (.bin .sub), [.t 66, .c (.int .i64 1)]⟩, ⟨some 12, none, .mv, [.t 67]⟩])))
def wb_z1z_4 : List Bool := [false, false, true, true, false, true, true, true, true, true, true, false, false, true, true, true, true, true, true, true, true, true, true, true, true, true, true, true, true, true, true, true, true, true, true, true, true, true, true, true, true, true, true, true, true, true, true, true, true, true, true, true, true, true, true, true, true, true, true, true, true, true, true, true, true, true, true, true, true, true, true, true, true, true, true, true, true, true, true, true, true, true, true, true, true, true, true, true, true, true]
abbrev e_z1z_4 (t0 t1 t4 t11 t12 : AV) : List AV := [t0, t1, .any, .any, t4, .any, .any, .any, .any, .any, .any, t11, t12, .any, .any, .any, .any, .any, .any, .any, .any, .any, .any, .any, .any, .any, .any, .any, .any, .any, .any, .any, .any, .any, .any, .any, .any, .any, .any, .any, .any, .any, .any, .any, .any, .any, .any, .any, .any, .any, .any, .any, .any, .any, .any, .any, .any, .any, .any, .any, .any, .any, .any, .any, .any, .any, .any, .any, .any, .any, .any, .any, .any, .any, .any, .any, .any, .any, .any, .any, .any, .any, .any, .any, .any, .any, .any, .any, .any, .any]
abbrev i_z1z_4 : List It := [.lp wl_z1z_4 c_z1z_l4, .blk 4 wb_z1z_4]
def c_z1z_k0 : Cd := (.seq (.seq (.reg [⟨some 68, none, .mv, [.t 11]⟩, ⟨some 69, none, .mv, [.t 12]⟩, ⟨some 70, none, (.bin .gtr), [.t 68, .t 69]⟩]) (.cond (.t 70) (.exit 0) .skip)) (.seq (.reg [⟨some 71, none, .mv, [.t 0]⟩, ⟨some 72, none, .mv, [.t 11]⟩, ⟨some 73, none, .mv, [.t 0]⟩, ⟨some 74, none, .mv, [.t 12]⟩, ⟨some 75, none, .mv, [.t 0]⟩, ⟨some 76, none, .mv, [.t 12]⟩, ⟨some 77, none, (.ixS 7), [.t 75, .t 76]⟩, ⟨some 78, none, (.ldn 7), [.t 77]⟩, ⟨some 79, none, .mv, [.t 0]⟩, ⟨some 80, none, .mv, [.t 11]⟩, ⟨some 81, none, (.ixS 7), [.t 79, .t 80]⟩, ⟨some 82, none, (.ldn 7), [.t 81]⟩, ⟨some 83, none, (.ixS 7), [.t 71, .t 72]⟩, ⟨none, none, (.st 7), [.t 83, .t 78]⟩, ⟨some 84, none, (.ixS 7), [.t 73, .t 74]⟩, ⟨none, none, (.st 7), [.t 84, .t 82]⟩]) (.seq (.reg [⟨some 85, none, .mv, [.t 11]⟩, ⟨some 86, none, (.bin .add), [.t 85, .c (.int .i64 1)]⟩, ⟨some 11, none, .mv, [.t 86]⟩]) (.reg [⟨some 87, none, .mv, [.t 12]⟩, ⟨some 88, none, (.bin .sub), [.t 87, .c (.int .i64 1)]⟩, ⟨some 12, none, .mv, [.t 88]⟩]))))
def c_z1z_k1 : Cd := (.seq (.blk 4 wb_z1z_4 (.loop wl_z1z_4 c_z1z_l4)) c_z1z_k0)
def wb_z1z_1 : List Bool := [false, false, true, true, false, true, true, true, true, true, true, false, false, true, true, true, true, true, true, true, true, true, true, true, true, true, true, true, true, true, true, true, true, true, true, true, true, true, true, true, true, true, true, true, true, true, true, true, true, true, true, true, true, true, true, true, true, true, true, true, true, true, true, true, true, true, true, true, true, true, true, true, true, true, true, true, true, true, true, true, true, true, true, true, true, true, true, true, true, true]
abbrev e_z1z_1 (t0 t1 t4 t11 t12 : AV) : List AV := [t0, t1, .any, .any, t4, .any, .any, .any, .any, .any, .any, t11, t12, .any, .any, .any, .any, .any, .any, .any, .any, .any, .any, .any, .any, .any, .any, .any, .any, .any, .any, .any, .any, .any, .any, .any, .any, .any, .any, .any, .any, .any, .any, .any, .any, .any, .any, .any, .any, .any, .any, .any, .any, .any, .any, .any, .any, .any, .any, .any, .any, .any, .any, .any, .any, .any, .any, .any, .any, .any, .any, .any, .any, .any, .any, .any, .any, .any, .any, .any, .any, .any, .any, .any, .any, .any, .any, .any, .any, .any]
def wl_z1z_0 : Mk := ⟨[false, false, true, true, false, true, true, true, true, true, true, false, false, true, true, true, true, true, true, true, true, true, true, true, true, true, true, true, true, true, true, true, true, true, true, true, true, true, true, true, true, true, true, true, true, true, true, true, true, true, true, true, true, true, true, true, true, true, true, true, true, true, true, true, true, true, true, true, true, true, true, true, true, true, true, true, true, true, true, true, true, true, true, true, true, true, true, true, true, true], []⟩
abbrev s_z1z_0 (t0 t1 t4 t11 t12 : AV) : List AV := [t0, t1, .any, .any, t4, .any, .any, .any, .any, .any, .any, t11, t12, .any, .any, .any, .any, .any, .any, .any, .any, .any, .any, .any, .any, .any, .any, .any, .any, .any, .any, .any, .any, .any, .any, .any, .any, .any, .any, .any, .any, .any, .any, .any, .any, .any, .any, .any, .any, .any, .any, .any, .any, .any, .any, .any, .any, .any, .any, .any, .any, .any, .any, .any, .any, .any, .any, .any, .any, .any, .any, .any, .any, .any, .any, .any, .any, .any, .any, .any, .any, .any, .any, .any, .any, .any, .any, .any, .any, .any]
def c_z1z_l0 : Cd := (.blk 1 wb_z1z_1 (.seq (.blk 2 wb_z1z_2 (.loop wl_z1z_2 c_z1z_l2)) c_z1z_k1))
def wb_z1z_0 : List Bool := [true, true, true, true, true, true, true, true, true, true, true, false, true, true, true, true, true, true, true, true, true, true, true, true, true, true, true, true, true, true, true, true, true, true, true, true, true, true, true, true, true, true, true, true, true, true, true, true, true, true, true, true, true, true, true, true, true, true, true, true, true, true, true, true, true, true, true, true, true, true, true, true, true, true, true, true, true, true, true, true, true, true, true, true, true, true, true, true, true, true]
abbrev e_z1z_0 (t11 : AV) : List AV := [.any, .any, .any, .any, .any, .any, .any, .any, .any, .any, .any, t11, .any, .any, .any, .any, .any, .any, .any, .any, .any, .any, .any, .any, .any, .any, .any, .any, .any, .any, .any, .any, .any, .any, .any, .any, .any, .any, .any, .any, .any, .any, .any, .any, .any, .any, .any, .any, .any, .any, .any, .any, .any, .any, .any, .any, .any, .any, .any, .any, .any, .any, .any, .any, .any, .any, .any, .any, .any, .any, .any, .any, .any, .any, .any, .any, .any, .any, .any, .any, .any, .any, .any, .any, .any, .any, .any, .any, .any, .any]
abbrev i_z1z_0 : List It := [.lp wl_z1z_0 c_z1z_l0, .blk 0 wb_z1z_0]
def c_z1z_k2 : Cd := (.seq (.reg [⟨some 89, none, .mv, [.t 11]⟩, ⟨some 10, none, .mv, [.t 89]⟩]) .ret)
def c_z1z : Cd := (.seq (.reg [⟨some 10, none, .mv, [.c (.int .i64 0)]⟩]) (.seq (.reg [⟨some 13, none, .mv, [.t 0]⟩, ⟨some 14, none, .mv, [.t 1]⟩, ⟨some 15, none, .mv, [.t 0]⟩, ⟨some 16, none, .mv, [.t 3]⟩, ⟨some 17, none, .mv, [.t 0]⟩, ⟨some 18, none, .mv, [.t 3]⟩, ⟨some 19, none, (.ixS 7), [.t 17, .t 18]⟩, ⟨some 20, none, (.ldn 7), [.t 19]⟩, ⟨some 21, none, .mv, [.t 0]⟩, ⟨some 22, none, .mv, [.t 1]⟩, ⟨some 23, none, (.ixS 7), [.t 21, .t 22]⟩, ⟨some 24, none, (.ldn 7), [.t 23]⟩, ⟨some 25, none, (.ixS 7), [.t 13, .t 14]⟩, ⟨none, none, (.st 7), [.t 25, .t 20]⟩, ⟨some 26, none, (.ixS 7), [.t 15, .t 16]⟩, ⟨none, none, (.st 7), [.t 26, .t 24]⟩]) (.seq (.reg [⟨some 27, none, .mv, [.t 1]⟩, ⟨some 28, none, (.bin .add), [.t 27, .c (.int .i64 1)]⟩, ⟨some 29, none, .mv, [.t 2]⟩, ⟨some 30, none, (.bin .sub), [.t 29, .c (.int .i64 1)]⟩, ⟨some 11, none, .mv, [.t 28]⟩, ⟨some 12, none, .mv, [.t 30]⟩]) (.seq (.blk 0 wb_z1z_0 (.loop wl_z1z_0 c_z1z_l0)) c_z1z_k2))))
theorem comp_z1z : compF Try.prog (mset [] [] []) (cset [] [] []) (wset [(2, wl_z1z_2, wb_z1z_2), (4, wl_z1z_4, wb_z1z_4), (1, ⟨[], []⟩, wb_z1z_1), (0, wl_z1z_0, wb_z1z_0)] []) Try.f216 = some c_z1z := by kernel_rfl
theorem ok_z1z : fnOk Try.prog F_z1z = true := by kernel_rfl
theorem calls_z1z {args : List AV} {r : AV} (h : RunsX Try.prog 0 (Gives [.t 10] r) [.c c_z1z] (args ++ List.replicate (90 - args.length) (.tup [])) [] zeroC) : PCalls Try.prog F_z1z args r :=
  pcallsF Try.checked.mixed Try.func216 ok_z1z comp_z1z rfl (rs := [.t 10]) (by kernel_rfl) h
theorem hcalls_z1z {args : List AV} {Hin Hout : Heap} {nx nx2 : Ctr} {r : AV} (φ : Nat) (ks : List (Nat × Nat)) (h : RunsX Try.prog φ (GivesH ks [.t 10] r Hout nx2) [.c c_z1z] (args ++ List.replicate (90 - args.length) (.tup [])) Hin nx) : HCalls Try.prog F_z1z args Hin nx r Hout nx2 :=
  hcallsF Try.checked.mixed Try.func216 ok_z1z comp_z1z rfl (rs := [.t 10]) (by kernel_rfl) φ ks h

/-- slices.partitionCmpFunc[pedlar/api.Version]: parameters [78, 3, 3, 3, 174], results [.t 10, .t 11], calls  -/
def wl_z7z_0 : Mk := ⟨[false, false, true, true, false, true, true, true, true, true, true, true, false, false, true, true, true, true, true, true, true, true, true, true, true, true, true, true, true, true, true, true, true, true, true, true, true, true, true, true, true, true, true, true, true, true, true, true, true, true, true, true, true, true, true, true, true, true, true, true, true, true, true, true, true, true, true, true, true, true, true, true, true, true, true, true, true, true, true, true, true, true, true, true, true, true, true, true, true, true, true, true, true, true, true, true, true, true, true, true, true, true, true, true, true, true, true, true, true, true, true, true, true, true, true, true, true, true, true, true, true, true, true, true, true, true, true, true, true, true, true, true, true, true, true, true, true, true, true, true, true, true, true, true, true, true, true, true, true, true, true, true, true, true, true, true, true, true, true, true, true, true, true, true, true, true, true, true, true, true, true, true, true, true, true, true, true, true], []⟩
abbrev s_z7z_0 (t0 t1 t4 t12 t13 : AV) : List AV := [t0, t1, .any, .any, t4, .any, .any, .any, .any, .any, .any, .any, t12, t13, .any, .any, .any, .any, .any, .any, .any, .any, .any, .any, .any, .any, .any, .any, .any, .any, .any, .any, .any, .any, .any, .any, .any, .any, .any, .any, .any, .any, .any, .any, .any, .any, .any, .any, .any, .any, .any, .any, .any, .any, .any, .any, .any, .any, .any, .any, .any, .any, .any, .any, .any, .any, .any, .any, .any, .any, .any, .any, .any, .any, .any, .any, .any, .any, .any, .any, .any, .any, .any, .any, .any, .any, .any, .any, .any, .any, .any, .any, .any, .any, .any, .any, .any, .any, .any, .any, .any, .any, .any, .any, .any, .any, .any, .any, .any, .any, .any, .any, .any, .any, .any, .any, .any, .any, .any, .any, .any, .any, .any, .any, .any, .any, .any, .any, .any, .any, .any, .any, .any, .any, .any, .any, .any, .any, .any, .any, .any, .any, .any, .any, .any, .any, .any, .any, .any, .any, .any, .any, .any, .any, .any, .any, .any, .any, .any, .any, .any, .any, .any, .any, .any, .any, .any, .any, .any, .any, .any, .any, .any, .any, .any, .any, .any, .any]
def c_z7z_l0 : Cd := (.seq (.seq (.reg [⟨some 32, none, .mv, [.t 12]⟩, ⟨some 33, none, .mv, [.t 13]⟩, ⟨some 34, none, (.bin .leq), [.t 32, .t 33]⟩, ⟨some 35, none, .mv, [.t 34]⟩, ⟨some 36, (some (35, true)), .mv, [.t 4]⟩, ⟨some 37, (some (35, true)), .mv, [.t 0]⟩, ⟨some 38, (some (35, true)), .mv, [.t 12]⟩, ⟨some 39, (some (35, true)), (.ixS 7), [.t 37, .t 38]⟩, ⟨some 40, (some (35, true)), (.ldn 7), [.t 39]⟩, ⟨some 41, (some (35, true)), .mv, [.t 0]⟩, ⟨some 42, (some (35, true)), .mv, [.t 1]⟩, ⟨some 43, (some (35, true)), (.ixS 7), [.t 41, .t 42]⟩, ⟨some 44, (some (35, true)), (.ldn 7), [.t 43]⟩, ⟨some 45, (some (35, true)), (.callv 0), [.t 36, .t 40, .t 44]⟩, ⟨some 46, (some (35, true)), (.bin .lss), [.t 45, .c (.int .i64 0)]⟩, ⟨some 47, none, .pick, [.t 35, .t 46, .c (.bool false)]⟩]) (.cond (.t 47) .skip (.exit 0))) (.blk 1 [] (.reg [⟨some 48, none, .mv, [.t 12]⟩, ⟨some 49, none, (.bin .add), [.t 48, .c (.int .i64 1)]⟩, ⟨some 12, none, .mv, [.t 49]⟩])))
def wb_z7z_0 : List Bool := [false, false, true, true, false, true, true, true, true, true, true, true, false, false, true, true, true, true, true, true, true, true, true, true, true, true, true, true, true, true, true, true, true, true, true, true, true, true, true, true, true, true, true, true, true, true, true, true, true, true, true, true, true, true, true, true, true, true, true, true, true, true, true, true, true, true, true, true, true, true, true, true, true, true, true, true, true, true, true, true, true, true, true, true, true, true, true, true, true, true, true, true, true, true, true, true, true, true, true, true, true, true, true, true, true, true, true, true, true, true, true, true, true, true, true, true, true, true, true, true, true, true, true, true, true, true, true, true, true, true, true, true, true, true, true, true, true, true, true, true, true, true, true, true, true, true, true, true, true, true, true, true, true, true, true, true, true, true, true, true, true, true, true, true, true, true, true, true, true, true, true, true, true, true, true, true, true, true]
abbrev e_z7z_0 (t0 t1 t4 t12 t13 : AV) : List AV := [t0, t1, .any, .any, t4, .any, .any, .any, .any, .any, .any, .any, t12, t13, .any, .any, .any, .any, .any, .any, .any, .any, .any, .any, .any, .any, .any, .any, .any, .any, .any, .any, .any, .any, .any, .any, .any, .any, .any, .any, .any, .any, .any, .any, .any, .any, .any, .any, .any, .any, .any, .any, .any, .any, .any, .any, .any, .any, .any, .any, .any, .any, .any, .any, .any, .any, .any, .any, .any, .any, .any, .any, .any, .any, .any, .any, .any, .any, .any, .any, .any, .any, .any, .any, .any, .any, .any, .any, .any, .any, .any, .any, .any, .any, .any, .any, .any, .any, .any, .any, .any, .any, .any, .any, .any, .any, .any, .any, .any, .any, .any, .any, .any, .any, .any, .any, .any, .any, .any, .any, .any, .any, .any, .any, .any, .any, .any, .any, .any, .any, .any, .any, .any, .any, .any, .any, .any, .any, .any, .any, .any, .any, .any, .any, .any, .any, .any, .any, .any, .any, .any, .any, .any, .any, .any, .any, .any, .any, .any, .any, .any, .any, .any, .any, .any, .any, .any, .any, .any, .any, .any, .any, .any, .any, .any, .any, .any, .any]
abbrev i_z7z_0 : List It := [.lp wl_z7z_0 c_z7z_l0, .blk 0 wb_z7z_0]
def wl_z7z_2 : Mk := ⟨[false, false, true, true, false, true, true, true, true, true, true, true, false, false, true, true, true, true, true, true, true, true, true, true, true, true, true, true, true, true, true, true, true, true, true, true, true, true, true, true, true, true, true, true, true, true, true, true, true, true, true, true, true, true, true, true, true, true, true, true, true, true, true, true, true, true, true, true, true, true, true, true, true, true, true, true, true, true, true, true, true, true, true, true, true, true, true, true, true, true, true, true, true, true, true, true, true, true, true, true, true, true, true, true, true, true, true, true, true, true, true, true, true, true, true, true, true, true, true, true, true, true, true, true, true, true, true, true, true, true, true, true, true, true, true, true, true, true, true, true, true, true, true, true, true, true, true, true, true, true, true, true, true, true, true, true, true, true, true, true, true, true, true, true, true, true, true, true, true, true, true, true, true, true, true, true, true, true], []⟩
abbrev s_z7z_2 (t0 t1 t4 t12 t13 : AV) : List AV := [t0, t1, .any, .any, t4, .any, .any, .any, .any, .any, .any, .any, t12, t13, .any, .any, .any, .any, .any, .any, .any, .any, .any, .any, .any, .any, .any, .any, .any, .any, .any, .any, .any, .any, .any, .any, .any, .any, .any, .any, .any, .any, .any, .any, .any, .any, .any, .any, .any, .any, .any, .any, .any, .any, .any, .any, .any, .any, .any, .any, .any, .any, .any, .any, .any, .any, .any, .any, .any, .any, .any, .any, .any, .any, .any, .any, .any, .any, .any, .any, .any, .any, .any, .any, .any, .any, .any, .any, .any, .any, .any, .any, .any, .any, .any, .any, .any, .any, .any, .any, .any, .any, .any, .any, .any, .any, .any, .any, .any, .any, .any, .any, .any, .any, .any, .any, .any, .any, .any, .any, .any, .any, .any, .any, .any, .any, .any, .any, .any, .any, .any, .any, .any, .any, .any, .any, .any, .any, .any, .any, .any, .any, .any, .any, .any, .any, .any, .any, .any, .any, .any, .any, .any, .any, .any, .any, .any, .any, .any, .any, .any, .any, .any, .any, .any, .any, .any, .any, .any, .any, .any, .any, .any, .any, .any, .any, .any, .any]
def c_z7z_l2 : Cd := (.seq (.seq (.reg [⟨some 50, none, .mv, [.t 12]⟩, ⟨some 51, none, .mv, [.t 13]⟩, ⟨some 52, none, (.bin .leq), [.t 50, .t 51]⟩, ⟨some 53, none, .mv, [.t 52]⟩, ⟨some 54, (some (53, true)), .mv, [.t 4]⟩, ⟨some 55, (some (53, true)), .mv, [.t 0]⟩, ⟨some 56, (some (53, true)), .mv, [.t 13]⟩, ⟨some 57, (some (53, true)), (.ixS 7), [.t 55, .t 56]⟩, ⟨some 58, (some (53, true)), (.ldn 7), [.t 57]⟩, ⟨some 59, (some (53, true)), .mv, [.t 0]⟩, ⟨some 60, (some (53, true)), .mv, [.t 1]⟩, ⟨some 61, (some (53, true)), (.ixS 7), [.t 59, .t 60]⟩, ⟨some 62, (some (53, true)), (.ldn 7), [.t 61]⟩, ⟨some 63, (some (53, true)), (.callv 0), [.t 54, .t 58, .t 62]⟩, ⟨some 64, (some (53, true)), (.bin .lss), [.t 63, .c (.int .i64 0)]⟩, ⟨some 65, (some (53, true)), .not, [.t 64]⟩, ⟨some 66, none, .pick, [.t 53, .t 65, .c (.bool false)]⟩]) (.cond (.t 66) .skip (.exit 2))) (.blk 3 [] (.reg [⟨some 67, none, .mv, [.t 13]⟩, ⟨some 68, none, (.bin .sub), [.t 67, .c (.int .i64 1)]⟩, ⟨some 13, none, .mv, [.t 68]⟩])))
def wb_z7z_2 : List Bool := [false, false, true, true, false, true, true, true, true, true, true, true, false, false, true, true, true, true, true, true, true, true, true, true, true, true, true, true, true, true, true, true, true, true, true, true, true, true, true, true, true, true, true, true, true, true, true, true, true, true, true, true, true, true, true, true, true, true, true, true, true, true, true, true, true, true, true, true, true, true, true, true, true, true, true, true, true, true, true, true, true, true, true, true, true, true, true, true, true, true, true, true, true, true, true, true, true, true, true, true, true, true, true, true, true, true, true, true, true, true, true, true, true, true, true, true, true, true, true, true, true, true, true, true, true, true, true, true, true, true, true, true, true, true, true, true, true, true, true, true, true, true, true, true, true, true, true, true, true, true, true, true, true, true, true, true, true, true, true, true, true, true, true, true, true, true, true, true, true, true, true, true, true, true, true, true, true, true]
abbrev e_z7z_2 (t0 t1 t4 t12 t13 : AV) : List AV := [t0, t1, .any, .any, t4, .any, .any, .any, .any, .any, .any, .any, t12, t13, .any, .any, .any, .any, .any, .any, .any, .any, .any, .any, .any, .any, .any, .any, .any, .any, .any, .any, .any, .any, .any, .any, .any, .any, .any, .any, .any, .any, .any, .any, .any, .any, .any, .any, .any, .any, .any, .any, .any, .any, .any, .any, .any, .any, .any, .any, .any, .any, .any, .any, .any, .any, .any, .any, .any, .any, .any, .any, .any, .any, .any, .any, .any, .any, .any, .any, .any, .any, .any, .any, .any, .any, .any, .any, .any, .any, .any, .any, .any, .any, .any, .any, .any, .any, .any, .any, .any, .any, .any, .any, .any, .any, .any, .any, .any, .any, .any, .any, .any, .any, .any, .any, .any, .any, .any, .any, .any, .any, .any, .any, .any, .any, .any, .any, .any, .any, .any, .any, .any, .any, .any, .any, .any, .any, .any, .any, .any, .any, .any, .any, .any, .any, .any, .any, .any, .any, .any, .any, .any, .any, .any, .any, .any, .any, .any, .any, .any, .any, .any, .any, .any, .any, .any, .any, .any, .any, .any, .any, .any, .any, .any, .any, .any, .any]
abbrev i_z7z_2 : List It := [.lp wl_z7z_2 c_z7z_l2, .blk 2 wb_z7z_2]
def wl_z7z_6 : Mk := ⟨[false, false, true, true, false, true, true, true, true, true, true, true, false, false, true, true, true, true, true, true, true, true, true, true, true, true, true, true, true, true, true, true, true, true, true, true, true, true, true, true, true, true, true, true, true, true, true, true, true, true, true, true, true, true, true, true, true, true, true, true, true, true, true, true, true, true, true, true, true, true, true, true, true, true, true, true, true, true, true, true, true, true, true, true, true, true, true, true, true, true, true, true, true, true, true, true, true, true, true, true, true, true, true, true, true, true, true, true, true, true, true, true, true, true, true, true, true, true, true, true, true, true, true, true, true, true, true, true, true, true, true, true, true, true, true, true, true, true, true, true, true, true, true, true, true, true, true, true, true, true, true, true, true, true, true, true, true, true, true, true, true, true, true, true, true, true, true, true, true, true, true, true, true, true, true, true, true, true], []⟩
abbrev s_z7z_6 (t0 t1 t4 t12 t13 : AV) : List AV := [t0, t1, .any, .any, t4, .any, .any, .any, .any, .any, .any, .any, t12, t13, .any, .any, .any, .any, .any, .any, .any, .any, .any, .any, .any, .any, .any, .any, .any, .any, .any, .any, .any, .any, .any, .any, .any, .any, .any, .any, .any, .any, .any, .any, .any, .any, .any, .any, .any, .any, .any, .any, .any, .any, .any, .any, .any, .any, .any, .any, .any, .any, .any, .any, .any, .any, .any, .any, .any, .any, .any, .any, .any, .any, .any, .any, .any, .any, .any, .any, .any, .any, .any, .any, .any, .any, .any, .any, .any, .any, .any, .any, .any, .any, .any, .any, .any, .any, .any, .any, .any, .any, .any, .any, .any, .any, .any, .any, .any, .any, .any, .any, .any, .any, .any, .any, .any, .any, .any, .any, .any, .any, .any, .any, .any, .any, .any, .any, .any, .any, .any, .any, .any, .any, .any, .any, .any, .any, .any, .any, .any, .any, .any, .any, .any, .any, .any, .any, .any, .any, .any, .any, .any, .any, .any, .any, .any, .any, .any, .any, .any, .any, .any, .any, .any, .any, .any, .any, .any, .any, .any, .any, .any, .any, .any, .any, .any, .any]
def c_z7z_l6 : Cd := (.seq (.seq (.reg [⟨some 105, none, .mv, [.t 12]⟩, ⟨some 106, none, .mv, [.t 13]⟩, ⟨some 107, none, (.bin .leq), [.t 105, .t 106]⟩, ⟨some 108, none, .mv, [.t 107]⟩, ⟨some 109, (some (108, true)), .mv, [.t 4]⟩, ⟨some 110, (some (108, true)), .mv, [.t 0]⟩, ⟨some 111, (some (108, true)), .mv, [.t 12]⟩, ⟨some 112, (some (108, true)), (.ixS 7), [.t 110, .t 111]⟩, ⟨some 113, (some (108, true)), (.ldn 7), [.t 112]⟩, ⟨some 114, (some (108, true)), .mv, [.t 0]⟩, ⟨some 115, (some (108, true)), .mv, [.t 1]⟩, ⟨some 116, (some (108, true)), (.ixS 7), [.t 114, .t 115]⟩, ⟨some 117, (some (108, true)), (.ldn 7), [.t 116]⟩, ⟨some 118, (some (108, true)), (.callv 0), [.t 109, .t 113, .t 117]⟩, ⟨some 119, (some (108, true)), (.bin .lss), [.t 118, .c (.int .i64 0)]⟩, ⟨some 120, none, .pick, [.t 108, .t 119, .c (.bool false)]⟩]) (.cond (.t 120) .skip (.exit 6))) (.blk 7 [] (.reg [⟨some 121, none, .mv, [.t 12]⟩, ⟨some 122, none, (.bin .add), [.t 121, .c (.int .i64 1)]⟩, ⟨some 12, none, .mv, [.t 122]⟩])))
def wb_z7z_6 : List Bool := [false, false, true, true, false, true, true, true, true, true, true, true, false, false, true, true, true, true, true, true, true, true, true, true, true, true, true, true, true, true, true, true, true, true, true, true, true, true, true, true, true, true, true, true, true, true, true, true, true, true, true, true, true, true, true, true, true, true, true, true, true, true, true, true, true, true, true, true, true, true, true, true, true, true, true, true, true, true, true, true, true, true, true, true, true, true, true, true, true, true, true, true, true, true, true, true, true, true, true, true, true, true, true, true, true, true, true, true, true, true, true, true, true, true, true, true, true, true, true, true, true, true, true, true, true, true, true, true, true, true, true, true, true, true, true, true, true, true, true, true, true, true, true, true, true, true, true, true, true, true, true, true, true, true, true, true, true, true, true, true, true, true, true, true, true, true, true, true, true, true, true, true, true, true, true, true, true, true]
abbrev e_z7z_6 (t0 t1 t4 t12 t13 : AV) : List AV := [t0, t1, .any, .any, t4, .any, .any, .any, .any, .any, .any, .any, t12, t13, .any, .any, .any, .any, .any, .any, .any, .any, .any, .any, .any, .any, .any, .any, .any, .any, .any, .any, .any, .any, .any, .any, .any, .any, .any, .any, .any, .any, .any, .any, .any, .any, .any, .any, .any, .any, .any, .any, .any, .any, .any, .any, .any, .any, .any, .any, .any, .any, .any, .any, .any, .any, .any, .any, .any, .any, .any, .any, .any, .any, .any, .any, .any, .any, .any, .any, .any, .any, .any, .any, .any, .any, .any, .any, .any, .any, .any, .any, .any, .any, .any, .any, .any, .any, .any, .any, .any, .any, .any, .any, .any, .any, .any, .any, .any, .any, .any, .any, .any, .any, .any, .any, .any, .any, .any, .any, .any, .any, .any, .any, .any, .any, .any, .any, .any, .any, .any, .any, .any, .any, .any, .any, .any, .any, .any, .any, .any, .any, .any, .any, .any, .any, .any, .any, .any, .any, .any, .any, .any, .any, .any, .any, .any, .any, .any, .any, .any, .any, .any, .any, .any, .any, .any, .any, .any, .any, .any, .any, .any, .any, .any, .any, .any, .any]
abbrev i_z7z_6 : List It := [.lp wl_z7z_6 c_z7z_l6, .blk 6 wb_z7z_6]
def wl_z7z_8 : Mk := ⟨[false, false, true, true, false, true, true, true, true, true, true, true, false, false, true, true, true, true, true, true, true, true, true, true, true, true, true, true, true, true, true, true, true, true, true, true, true, true, true, true, true, true, true, true, true, true, true, true, true, true, true, true, true, true, true, true, true, true, true, true, true, true, true, true, true, true, true, true, true, true, true, true, true, true, true, true, true, true, true, true, true, true, true, true, true, true, true, true, true, true, true, true, true, true, true, true, true, true, true, true, true, true, true, true, true, true, true, true, true, true, true, true, true, true, true, true, true, true, true, true, true, true, true, true, true, true, true, true, true, true, true, true, true, true, true, true, true, true, true, true, true, true, true, true, true, true, true, true, true, true, true, true, true, true, true, true, true, true, true, true, true, true, true, true, true, true, true, true, true, true, true, true, true, true, true, true, true, true], []⟩
abbrev s_z7z_8 (t0 t1 t4 t12 t13 : AV) : List AV := [t0, t1, .any, .any, t4, .any, .any, .any, .any, .any, .any, .any, t12, t13, .any, .any, .any, .any, .any, .any, .any, .any, .any, .any, .any, .any, .any, .any, .any, .any, .any, .any, .any, .any, .any, .any, .any, .any, .any, .any, .any, .any, .any, .any, .any, .any, .any, .any, .any, .any, .any, .any, .any, .any, .any, .any, .any, .any, .any, .any, .any, .any, .any, .any, .any, .any, .any, .any, .any, .any, .any, .any, .any, .any, .any, .any, .any, .any, .any, .any, .any, .any, .any, .any, .any, .any, .any, .any, .any, .any, .any, .any, .any, .any, .any, .any, .any, .any, .any, .any, .any, .any, .any, .any, .any, .any, .any, .any, .any, .any, .any, .any, .any, .any, .any, .any, .any, .any, .any, .any, .any, .any, .any, .any, .any, .any, .any, .any, .any, .any, .any, .any, .any, .any, .any, .any, .any, .any, .any, .any, .any, .any, .any, .any, .any, .any, .any, .any, .any, .any, .any, .any, .any, .any, .any, .any, .any, .any, .any, .any, .any, .any, .any, .any, .any, .any, .any, .any, .any, .any, .any, .any, .any, .any, .any, .any, .any, .any]
def c_z7z_l8 : Cd := (.seq (.seq (.reg [⟨some 123, none, .mv, [.t 12]⟩, ⟨some 124, none, .mv, [.t 13]⟩, ⟨some 125, none, (.bin .leq), [.t 123, .t 124]⟩, ⟨some 126, none, .mv, [.t 125]⟩, ⟨some 127, (some (126, true)), .mv, [.t 4]⟩, ⟨some 128, (some (126, true)), .mv, [.t 0]⟩, ⟨some 129, (some (126, true)), .mv, [.t 13]⟩, ⟨some 130, (some (126, true)), (.ixS 7), [.t 128, .t 129]⟩, ⟨some 131, (some (126, true)), (.ldn 7), [.t 130]⟩, ⟨some 132, (some (126, true)), .mv, [.t 0]⟩, ⟨some 133, (some (126, true)), .mv, [.t 1]⟩, ⟨some 134, (some (126, true)), (.ixS 7), [.t 132, .t 133]⟩, ⟨some 135, (some (126, true)), (.ldn 7), [.t 134]⟩, ⟨some 136, (some (126, true)), (.callv 0), [.t 127, .t 131, .t 135]⟩, ⟨some 137, (some (126, true)), (.bin .lss), [.t 136, .c (.int .i64 0)]⟩, ⟨some 138, (some (126, true)), .not, [.t 137]⟩, ⟨some 139, none, .pick, [.t 126, .t 138, .c (.bool false)]⟩]) (.cond (.t 139) .skip (.exit 8))) (.blk 9 [] (.reg [⟨some 140, none, .mv, [.t 13]⟩, ⟨some 141, none, (.bin .sub), [.t 140, .c (.int .i64 1)]⟩, ⟨some 13, none, .mv, [.t 141]⟩])))
def wb_z7z_8 : List Bool := [false, false, true, true, false, true, true, true, true, true, true, true, false, false, true, true, true, true, true, true, true, true, true, true, true, true, true, true, true, true, true, true, true, true, true, true, true, true, true, true, true, true, true, true, true, true, true, true, true, true, true, true, true, true, true, true, true, true, true, true, true, true, true, true, true, true, true, true, true, true, true, true, true, true, true, true, true, true, true, true, true, true, true, true, true, true, true, true, true, true, true, true, true, true, true, true, true, true, true, true, true, true, true, true, true, true, true, true, true, true, true, true, true, true, true, true, true, true, true, true, true, true, true, true, true, true, true, true, true, true, true, true, true, true, true, true, true, true, true, true, true, true, true, true, true, true, true, true, true, true, true, true, true, true, true, true, true, true, true, true, true, true, true, true, true, true, true, true, true, true, true, true, true, true, true, true, true, true]
abbrev e_z7z_8 (t0 t1 t4 t12 t13 : AV) : List AV := [t0, t1, .any, .any, t4, .any, .any, .any, .any, .any, .any, .any, t12, t13, .any, .any, .any, .any, .any, .any, .any, .any, .any, .any, .any, .any, .any, .any, .any, .any, .any, .any, .any, .any, .any, .any, .any, .any, .any, .any, .any, .any, .any, .any, .any, .any, .any, .any, .any, .any, .any, .any, .any, .any, .any, .any, .any, .any, .any, .any, .any, .any, .any, .any, .any, .any, .any, .any, .any, .any, .any, .any, .any, .any, .any, .any, .any, .any, .any, .any, .any, .any, .any, .any, .any, .any, .any, .any, .any, .any, .any, .any, .any, .any, .any, .any, .any, .any, .any, .any, .any, .any, .any, .any, .any, .any, .any, .any, .any, .any, .any, .any, .any, .any, .any, .any, .any, .any, .any, .any, .any, .any, .any, .any, .any, .any, .any, .any, .any, .any, .any, .any, .any, .any, .any, .any, .any, .any, .any, .any, .any, .any, .any, .any, .any, .any, .any, .any, .any, .any, .any, .any, .any, .any, .any, .any, .any, .any, .any, .any, .any, .any, .any, .any, .any, .any, .any, .any, .any, .any, .any, .any, .any, .any, .any, .any, .any, .any]
abbrev i_z7z_8 : List It := [.lp wl_z7z_8 c_z7z_l8, .blk 8 wb_z7z_8]
def c_z7z_k0 : Cd := (.seq (.seq (.reg [⟨some 142, none, .mv, [.t 12]⟩, ⟨some 143, none, .mv, [.t 13]⟩, ⟨some 144, none, (.bin .gtr), [.t 142, .t 143]⟩]) (.cond (.t 144) (.exit 4) .skip)) (.seq (.reg [⟨some 145, none, .mv, [.t 0]⟩, ⟨some 146, none, .mv, [.t 12]⟩, ⟨some 147, none, .mv, [.t 0]⟩, ⟨some 148, none, .mv, [.t 13]⟩, ⟨some 149, none, .mv, [.t 0]⟩, ⟨some 150, none, .mv, [.t 13]⟩, ⟨some 151, none, (.ixS 7), [.t 149, .t 150]⟩, ⟨some 152, none, (.ldn 7), [.t 151]⟩, ⟨some 153, none, .mv, [.t 0]⟩, ⟨some 154, none, .mv, [.t 12]⟩, ⟨some 155, none, (.ixS 7), [.t 153, .t 154]⟩, ⟨some 156, none, (.ldn 7), [.t 155]⟩, ⟨some 157, none, (.ixS 7), [.t 145, .t 146]⟩, ⟨none, none, (.st 7), [.t 157, .t 152]⟩, ⟨some 158, none, (.ixS 7), [.t 147, .t 148]⟩, ⟨none, none, (.st 7), [.t 158, .t 156]⟩]) (.seq (.reg [⟨some 159, none, .mv, [.t 12]⟩, ⟨some 160, none, (.bin .add), [.t 159, .c (.int .i64 1)]⟩, ⟨some 12, none, .mv, [.t 160]⟩]) (.reg [⟨some 161, none, .mv, [.t 13]⟩, ⟨some 162, none, (.bin .sub), [.t 161, .c (.int .i64 1)]⟩, ⟨some 13, none, .mv, [.t 162]⟩]))))
def c_z7z_k1 : Cd := (.seq (.blk 8 wb_z7z_8 (.loop wl_z7z_8 c_z7z_l8)) c_z7z_k0)
def wb_z7z_5 : List Bool := [false, false, true, true, false, true, true, true, true, true, true, true, false, false, true, true, true, true, true, true, true, true, true, true, true, true, true, true, true, true, true, true, true, true, true, true, true, true, true, true, true, true, true, true, true, true, true, true, true, true, true, true, true, true, true, true, true, true, true, true, true, true, true, true, true, true, true, true, true, true, true, true, true, true, true, true, true, true, true, true, true, true, true, true, true, true, true, true, true, true, true, true, true, true, true, true, true, true, true, true, true, true, true, true, true, true, true, true, true, true, true, true, true, true, true, true, true, true, true, true, true, true, true, true, true, true, true, true, true, true, true, true, true, true, true, true, true, true, true, true, true, true, true, true, true, true, true, true, true, true, true, true, true, true, true, true, true, true, true, true, true, true, true, true, true, true, true, true, true, true, true, true, true, true, true, true, true, true]
abbrev e_z7z_5 (t0 t1 t4 t12 t13 : AV) : List AV := [t0, t1, .any, .any, t4, .any, .any, .any, .any, .any, .any, .any, t12, t13, .any, .any, .any, .any, .any, .any, .any, .any, .any, .any, .any, .any, .any, .any, .any, .any, .any, .any, .any, .any, .any, .any, .any, .any, .any, .any, .any, .any, .any, .any, .any, .any, .any, .any, .any, .any, .any, .any, .any, .any, .any, .any, .any, .any, .any, .any, .any, .any, .any, .any, .any, .any, .any, .any, .any, .any, .any, .any, .any, .any, .any, .any, .any, .any, .any, .any, .any, .any, .any, .any, .any, .any, .any, .any, .any, .any, .any, .any, .any, .any, .any, .any, .any, .any, .any, .any, .any, .any, .any, .any, .any, .any, .any, .any, .any, .any, .any, .any, .any, .any, .any, .any, .any, .any, .any, .any, .any, .any, .any, .any, .any, .any, .any, .any, .any, .any, .any, .any, .any, .any, .any, .any, .any, .any, .any, .any, .any, .any, .any, .any, .any, .any, .any, .any, .any, .any, .any, .any, .any, .any, .any, .any, .any, .any, .any, .any, .any, .any, .any, .any, .any, .any, .any, .any, .any, .any, .any, .any, .any, .any, .any, .any, .any, .any]
def wl_z7z_4 : Mk := ⟨[false, false, true, true, false, true, true, true, true, true, true, true, false, false, true, true, true, true, true, true, true, true, true, true, true, true, true, true, true, true, true, true, true, true, true, true, true, true, true, true, true, true, true, true, true, true, true, true, true, true, true, true, true, true, true, true, true, true, true, true, true, true, true, true, true, true, true, true, true, true, true, true, true, true, true, true, true, true, true, true, true, true, true, true, true, true, true, true, true, true, true, true, true, true, true, true, true, true, true, true, true, true, true, true, true, true, true, true, true, true, true, true, true, true, true, true, true, true, true, true, true, true, true, true, true, true, true, true, true, true, true, true, true, true, true, true, true, true, true, true, true, true, true, true, true, true, true, true, true, true, true, true, true, true, true, true, true, true, true, true, true, true, true, true, true, true, true, true, true, true, true, true, true, true, true, true, true, true], []⟩
abbrev s_z7z_4 (t0 t1 t4 t12 t13 : AV) : List AV := [t0, t1, .any, .any, t4, .any, .any, .any, .any, .any, .any, .any, t12, t13, .any, .any, .any, .any, .any, .any, .any, .any, .any, .any, .any, .any, .any, .any, .any, .any, .any, .any, .any, .any, .any, .any, .any, .any, .any, .any, .any, .any, .any, .any, .any, .any, .any, .any, .any, .any, .any, .any, .any, .any, .any, .any, .any, .any, .any, .any, .any, .any, .any, .any, .any, .any, .any, .any, .any, .any, .any, .any, .any, .any, .any, .any, .any, .any, .any, .any, .any, .any, .any, .any, .any, .any, .any, .any, .any, .any, .any, .any, .any, .any, .any, .any, .any, .any, .any, .any, .any, .any, .any, .any, .any, .any, .any, .any, .any, .any, .any, .any, .any, .any, .any, .any, .any, .any, .any, .any, .any, .any, .any, .any, .any, .any, .any, .any, .any, .any, .any, .any, .any, .any, .any, .any, .any, .any, .any, .any, .any, .any, .any, .any, .any, .any, .any, .any, .any, .any, .any, .any, .any, .any, .any, .any, .any, .any, .any, .any, .any, .any, .any, .any, .any, .any, .any, .any, .any, .any, .any, .any, .any, .any, .any, .any, .any, .any]
def c_z7z_l4 : Cd := (.blk 5 wb_z7z_5 (.seq (.blk 6 wb_z7z_6 (.loop wl_z7z_6 c_z7z_l6)) c_z7z_k1))
def wb_z7z_4 : List Bool := [false, false, true, true, true, true, true, true, true, true, true, true, true, false, true, true, true, true, true, true, true, true, true, true, true, true, true, true, true, true, true, true, true, true, true, true, true, true, true, true, true, true, true, true, true, true, true, true, true, true, true, true, true, true, true, true, true, true, true, true, true, true, true, true, true, true, true, true, true, true, true, true, true, true, true, true, true, true, true, true, true, true, true, true, true, true, true, true, true, true, true, true, true, true, true, true, true, true, true, true, true, true, true, true, true, true, true, true, true, true, true, true, true, true, true, true, true, true, true, true, true, true, true, true, true, true, true, true, true, true, true, true, true, true, true, true, true, true, true, true, true, true, true, true, true, true, true, true, true, true, true, true, true, true, true, true, true, true, true, true, true, true, true, true, true, true, true, true, true, true, true, true, true, true, true, true, true, true]
abbrev e_z7z_4 (t0 t1 t13 : AV) : List AV := [t0, t1, .any, .any, .any, .any, .any, .any, .any, .any, .any, .any, .any, t13, .any, .any, .any, .any, .any, .any, .any, .any, .any, .any, .any, .any, .any, .any, .any, .any, .any, .any, .any, .any, .any, .any, .any, .any, .any, .any, .any, .any, .any, .any, .any, .any, .any, .any, .any, .any, .any, .any, .any, .any, .any, .any, .any, .any, .any, .any, .any, .any, .any, .any, .any, .any, .any, .any, .any, .any, .any, .any, .any, .any, .any, .any, .any, .any, .any, .any, .any, .any, .any, .any, .any, .any, .any, .any, .any, .any, .any, .any, .any, .any, .any, .any, .any, .any, .any, .any, .any, .any, .any, .any, .any, .any, .any, .any, .any, .any, .any, .any, .any, .any, .any, .any, .any, .any, .any, .any, .any, .any, .any, .any, .any, .any, .any, .any, .any, .any, .any, .any, .any, .any, .any, .any, .any, .any, .any, .any, .any, .any, .any, .any, .any, .any, .any, .any, .any, .any, .any, .any, .any, .any, .any, .any, .any, .any, .any, .any, .any, .any, .any, .any, .any, .any, .any, .any, .any, .any, .any, .any, .any, .any, .any, .any, .any, .any]
abbrev i_z7z_4 : List It := [.lp wl_z7z_4 c_z7z_l4, .blk 4 wb_z7z_4]
def c_z7z_k2 : Cd := (.seq (.reg [⟨some 163, none, .mv, [.t 0]⟩, ⟨some 164, none, .mv, [.t 13]⟩, ⟨some 165, none, .mv, [.t 0]⟩, ⟨some 166, none, .mv, [.t 1]⟩, ⟨some 167, none, .mv, [.t 0]⟩, ⟨some 168, none, .mv, [.t 1]⟩, ⟨some 169, none, (.ixS 7), [.t 167, .t 168]⟩, ⟨some 170, none, (.ldn 7), [.t 169]⟩, ⟨some 171, none, .mv, [.t 0]⟩, ⟨some 172, none, .mv, [.t 13]⟩, ⟨some 173, none, (.ixS 7), [.t 171, .t 172]⟩, ⟨some 174, none, (.ldn 7), [.t 173]⟩, ⟨some 175, none, (.ixS 7), [.t 163, .t 164]⟩, ⟨none, none, (.st 7), [.t 175, .t 170]⟩, ⟨some 176, none, (.ixS 7), [.t 165, .t 166]⟩, ⟨none, none, (.st 7), [.t 176, .t 174]⟩]) (.seq (.reg [⟨some 177, none, .mv, [.t 13]⟩, ⟨some 10, none, .mv, [.t 177]⟩, ⟨some 11, none, .mv, [.c (.bool false)]⟩]) .ret))
def c_z7z_k3 : Cd := (.seq (.seq (.reg [⟨some 69, none, .mv, [.t 12]⟩, ⟨some 70, none, .mv, [.t 13]⟩, ⟨some 71, none, (.bin .gtr), [.t 69, .t 70]⟩]) (.cond (.t 71) (.seq (.reg [⟨some 72, none, .mv, [.t 0]⟩, ⟨some 73, none, .mv, [.t 13]⟩, ⟨some 74, none, .mv, [.t 0]⟩, ⟨some 75, none, .mv, [.t 1]⟩, ⟨some 76, none, .mv, [.t 0]⟩, ⟨some 77, none, .mv, [.t 1]⟩, ⟨some 78, none, (.ixS 7), [.t 76, .t 77]⟩, ⟨some 79, none, (.ldn 7), [.t 78]⟩, ⟨some 80, none, .mv, [.t 0]⟩, ⟨some 81, none, .mv, [.t 13]⟩, ⟨some 82, none, (.ixS 7), [.t 80, .t 81]⟩, ⟨some 83, none, (.ldn 7), [.t 82]⟩, ⟨some 84, none, (.ixS 7), [.t 72, .t 73]⟩, ⟨none, none, (.st 7), [.t 84, .t 79]⟩, ⟨some 85, none, (.ixS 7), [.t 74, .t 75]⟩, ⟨none, none, (.st 7), [.t 85, .t 83]⟩]) (.seq (.reg [⟨some 86, none, .mv, [.t 13]⟩, ⟨some 10, none, .mv, [.t 86]⟩, ⟨some 11, none, .mv, [.c (.bool true)]⟩]) .ret)) .skip)) (.seq (.reg [⟨some 87, none, .mv, [.t 0]⟩, ⟨some 88, none, .mv, [.t 12]⟩, ⟨some 89, none, .mv, [.t 0]⟩, ⟨some 90, none, .mv, [.t 13]⟩, ⟨some 91, none, .mv, [.t 0]⟩, ⟨some 92, none, .mv, [.t 13]⟩, ⟨some 93, none, (.ixS 7), [.t 91, .t 92]⟩, ⟨some 94, none, (.ldn 7), [.t 93]⟩, ⟨some 95, none, .mv, [.t 0]⟩, ⟨some 96, none, .mv, [.t 12]⟩, ⟨some 97, none, (.ixS 7), [.t 95, .t 96]⟩, ⟨some 98, none, (.ldn 7), [.t 97]⟩, ⟨some 99, none, (.ixS 7), [.t 87, .t 88]⟩, ⟨none, none, (.st 7), [.t 99, .t 94]⟩, ⟨some 100, none, (.ixS 7), [.t 89, .t 90]⟩, ⟨none, none, (.st 7), [.t 100, .t 98]⟩]) (.seq (.reg [⟨some 101, none, .mv, [.t 12]⟩, ⟨some 102, none, (.bin .add), [.t 101, .c (.int .i64 1)]⟩, ⟨some 12, none, .mv, [.t 102]⟩]) (.seq (.reg [⟨some 103, none, .mv, [.t 13]⟩, ⟨some 104, none, (.bin .sub), [.t 103, .c (.int .i64 1)]⟩, ⟨some 13, none, .mv, [.t 104]⟩]) (.seq (.blk 4 wb_z7z_4 (.loop wl_z7z_4 c_z7z_l4)) c_z7z_k2)))))
def c_z7z_k4 : Cd := (.seq (.blk 2 wb_z7z_2 (.loop wl_z7z_2 c_z7z_l2)) c_z7z_k3)
def c_z7z : Cd := (.seq (.reg [⟨some 10, none, .mv, [.c (.int .i64 0)]⟩, ⟨some 11, none, .mv, [.c (.bool false)]⟩]) (.seq (.reg [⟨some 14, none, .mv, [.t 0]⟩, ⟨some 15, none, .mv, [.t 1]⟩, ⟨some 16, none, .mv, [.t 0]⟩, ⟨some 17, none, .mv, [.t 3]⟩, ⟨some 18, none, .mv, [.t 0]⟩, ⟨some 19, none, .mv, [.t 3]⟩, ⟨some 20, none, (.ixS 7), [.t 18, .t 19]⟩, ⟨some 21, none, (.ldn 7), [.t 20]⟩, ⟨some 22, none, .mv, [.t 0]⟩, ⟨some 23, none, .mv, [.t 1]⟩, ⟨some 24, none, (.ixS 7), [.t 22, .t 23]⟩, ⟨some 25, none, (.ldn 7), [.t 24]⟩, ⟨some 26, none, (.ixS 7), [.t 14, .t 15]⟩, ⟨none, none, (.st 7), [.t 26, .t 21]⟩, ⟨some 27, none, (.ixS 7), [.t 16, .t 17]⟩, ⟨none, none, (.st 7), [.t 27, .t 25]⟩]) (.seq (.reg [⟨some 28, none, .mv, [.t 1]⟩, ⟨some 29, none, (.bin .add), [.t 28, .c (.int .i64 1)]⟩, ⟨some 30, none, .mv, [.t 2]⟩, ⟨some 31, none, (.bin .sub), [.t 30, .c (.int .i64 1)]⟩, ⟨some 12, none, .mv, [.t 29]⟩, ⟨some 13, none, .mv, [.t 31]⟩]) (.seq (.blk 0 wb_z7z_0 (.loop wl_z7z_0 c_z7z_l0)) c_z7z_k4))))
theorem comp_z7z : compF Try.prog (mset [] [] []) (cset [] [] []) (wset [(0, wl_z7z_0, wb_z7z_0), (2, wl_z7z_2, wb_z7z_2), (6, wl_z7z_6, wb_z7z_6), (8, wl_z7z_8, wb_z7z_8), (5, ⟨[], []⟩, wb_z7z_5), (4, wl_z7z_4, wb_z7z_4)] []) Try.f217 = some c_z7z := by kernel_rfl
theorem ok_z7z : fnOk Try.prog F_z7z = true := by kernel_rfl
theorem calls_z7z {args : List AV} {r : AV} (h : RunsX Try.prog 0 (Gives [.t 10, .t 11] r) [.c c_z7z] (args ++ List.replicate (178 - args.length) (.tup [])) [] zeroC) : PCalls Try.prog F_z7z args r :=
  pcallsF Try.checked.mixed Try.func217 ok_z7z comp_z7z rfl (rs := [.t 10, .t 11]) (by kernel_rfl) h
theorem hcalls_z7z {args : List AV} {Hin Hout : Heap} {nx nx2 : Ctr} {r : AV} (φ : Nat) (ks : List (Nat × Nat)) (h : RunsX Try.prog φ (GivesH ks [.t 10, .t 11] r Hout nx2) [.c c_z7z] (args ++ List.replicate (178 - args.length) (.tup [])) Hin nx) : HCalls Try.prog F_z7z args Hin nx r Hout nx2 :=
  hcallsF Try.checked.mixed Try.func217 ok_z7z comp_z7z rfl (rs := [.t 10, .t 11]) (by kernel_rfl) φ ks h

/-- slices.pdqsortCmpFunc[pedlar/api.Version]: parameters [78, 3, 3, 3, 174], results [], calls slices_insertionSortCmpFunc_api_Version, slices_heapSortCmpFunc_api_Version, slices_breakPatternsCmpFunc_api_Version, slices_choosePivotCmpFunc_api_Version, slices_reverseRangeCmpFunc_api_Version, slices_partialInsertionSortCmpFunc_api_Version, slices_partitionEqualCmpFunc_api_Version, slices_partitionCmpFunc_api_Version, slices_pdqsortCmpFunc_api_Version -/
def wl_z10z_0 : Mk := ⟨[false, false, false, false, false, true, true, true, true, true, false, false, true, true, true, true, true, true, true, true, true, true, true, true, true, true, true, true, true, true, true, true, true, true, true, true, true, true, true, true, true, true, true, true, true, true, true, true, true, true, true, true, true, true, true, true, true, true, true, true, true, true, true, true, true, true, true, true, true, true, true, true, true, true, true, true, true, true, true, true, true, true, true, true, true, true, true, true, true, true, true, true, true, true, true, true, true, true, true, true, true, true, true, true, true, true, true, true, true, true, true, true, true, true, true, true, true, true, true, true, true, true, true, true, true, true, true, true, true, true, true, true, true, true, true, true, true, true, true, true, true, true, true, true, true, true, true, true], []⟩
abbrev s_z10z_0 (t0 t1 t2 t3 t4 t10 t11 : AV) : List AV := [t0, t1, t2, t3, t4, .any, .any, .any, .any, .any, t10, t11, .any, .any, .any, .any, .any, .any, .any, .any, .any, .any, .any, .any, .any, .any, .any, .any, .any, .any, .any, .any, .any, .any, .any, .any, .any, .any, .any, .any, .any, .any, .any, .any, .any, .any, .any, .any, .any, .any, .any, .any, .any, .any, .any, .any, .any, .any, .any, .any, .any, .any, .any, .any, .any, .any, .any, .any, .any, .any, .any, .any, .any, .any, .any, .any, .any, .any, .any, .any, .any, .any, .any, .any, .any, .any, .any, .any, .any, .any, .any, .any, .any, .any, .any, .any, .any, .any, .any, .any, .any, .any, .any, .any, .any, .any, .any, .any, .any, .any, .any, .any, .any, .any, .any, .any, .any, .any, .any, .any, .any, .any, .any, .any, .any, .any, .any, .any, .any, .any, .any, .any, .any, .any, .any, .any, .any, .any, .any, .any, .any, .any, .any, .any, .any, .any, .any, .any]
def c_z10z_l0 : Cd := (.blk 1 [] (.seq (.reg [⟨some 21, none, .mv, [.t 2]⟩, ⟨some 22, none, .mv, [.t 1]⟩, ⟨some 23, none, (.bin .sub), [.t 21, .t 22]⟩, ⟨some 12, none, .mv, [.t 23]⟩]) (.seq (.seq (.reg [⟨some 24, none, .mv, [.t 12]⟩, ⟨some 25, none, (.bin .leq), [.t 24, .c (.int .i64 12)]⟩]) (.cond (.t 25) (.seq (.reg [⟨some 26, none, .mv, [.t 0]⟩, ⟨some 27, none, .mv, [.t 1]⟩, ⟨some 28, none, .mv, [.t 2]⟩, ⟨some 29, none, .mv, [.t 4]⟩, ⟨some 30, none, (.call F_z3z 2), [.t 26, .t 27, .t 28, .t 29]⟩]) .ret) .skip)) (.seq (.seq (.reg [⟨some 31, none, .mv, [.t 3]⟩, ⟨some 32, none, (.bin .eql), [.t 31, .c (.int .i64 0)]⟩]) (.cond (.t 32) (.seq (.reg [⟨some 33, none, .mv, [.t 0]⟩, ⟨some 34, none, .mv, [.t 1]⟩, ⟨some 35, none, .mv, [.t 2]⟩, ⟨some 36, none, .mv, [.t 4]⟩, ⟨some 37, none, (.call F_z8z 2), [.t 33, .t 34, .t 35, .t 36]⟩]) .ret) .skip)) (.seq (.seq (.reg [⟨some 38, none, .mv, [.t 10]⟩, ⟨some 39, none, .not, [.t 38]⟩]) (.cond (.t 39) (.seq (.reg [⟨some 40, none, .mv, [.t 0]⟩, ⟨some 41, none, .mv, [.t 1]⟩, ⟨some 42, none, .mv, [.t 2]⟩, ⟨some 43, none, .mv, [.t 4]⟩, ⟨some 44, none, (.call F_z4z 2), [.t 40, .t 41, .t 42, .t 43]⟩]) (.reg [⟨some 45, none, .mv, [.t 3]⟩, ⟨some 46, none, (.bin .sub), [.t 45, .c (.int .i64 1)]⟩, ⟨some 3, none, .mv, [.t 46]⟩])) .skip)) (.seq (.reg [⟨some 48, none, .mv, [.t 0]⟩, ⟨some 49, none, .mv, [.t 1]⟩, ⟨some 50, none, .mv, [.t 2]⟩, ⟨some 51, none, .mv, [.t 4]⟩, ⟨some 52, none, (.call F_z6z 2), [.t 48, .t 49, .t 50, .t 51]⟩, ⟨some 47, none, .mv, [.t 52]⟩, ⟨some 53, none, (.ext 0), [.t 47]⟩, ⟨some 54, none, (.ext 1), [.t 47]⟩, ⟨some 13, none, .mv, [.t 53]⟩, ⟨some 14, none, .mv, [.t 54]⟩]) (.seq (.seq (.reg [⟨some 55, none, .mv, [.t 14]⟩, ⟨some 56, none, (.bin .eql), [.t 55, .c (.int .i64 2)]⟩]) (.cond (.t 56) (.seq (.reg [⟨some 57, none, .mv, [.t 0]⟩, ⟨some 58, none, .mv, [.t 1]⟩, ⟨some 59, none, .mv, [.t 2]⟩, ⟨some 60, none, .mv, [.t 4]⟩, ⟨some 61, none, (.call F_z5z 2), [.t 57, .t 58, .t 59, .t 60]⟩]) (.seq (.reg [⟨some 62, none, .mv, [.t 2]⟩, ⟨some 63, none, (.bin .sub), [.t 62, .c (.int .i64 1)]⟩, ⟨some 64, none, .mv, [.t 13]⟩, ⟨some 65, none, .mv, [.t 1]⟩, ⟨some 66, none, (.bin .sub), [.t 64, .t 65]⟩, ⟨some 67, none, (.bin .sub), [.t 63, .t 66]⟩, ⟨some 13, none, .mv, [.t 67]⟩]) (.reg [⟨some 14, none, .mv, [.c (.int .i64 1)]⟩]))) .skip)) (.seq (.seq (.reg [⟨some 68, none, .mv, [.t 10]⟩, ⟨some 69, none, .mv, [.t 68]⟩, ⟨some 70, (some (69, true)), .mv, [.t 11]⟩, ⟨some 71, none, .pick, [.t 69, .t 70, .c (.bool false)]⟩, ⟨some 72, none, .mv, [.t 71]⟩, ⟨some 73, (some (72, true)), .mv, [.t 14]⟩, ⟨some 74, (some (72, true)), (.bin .eql), [.t 73, .c (.int .i64 1)]⟩, ⟨some 75, none, .pick, [.t 72, .t 74, .c (.bool false)]⟩]) (.cond (.t 75) (.seq (.reg [⟨some 76, none, .mv, [.t 0]⟩, ⟨some 77, none, .mv, [.t 1]⟩, ⟨some 78, none, .mv, [.t 2]⟩, ⟨some 79, none, .mv, [.t 4]⟩, ⟨some 80, none, (.call F_z0z 2), [.t 76, .t 77, .t 78, .t 79]⟩]) (.cond (.t 80) .ret .skip)) .skip)) (.seq (.seq (.reg [⟨some 81, none, .mv, [.t 1]⟩, ⟨some 82, none, (.bin .gtr), [.t 81, .c (.int .i64 0)]⟩, ⟨some 83, none, .mv, [.t 82]⟩, ⟨some 84, (some (83, true)), .mv, [.t 4]⟩, ⟨some 85, (some (83, true)), .mv, [.t 0]⟩, ⟨some 86, (some (83, true)), .mv, [.t 1]⟩, ⟨some 87, (some (83, true)), (.bin .sub), [.t 86, .c (.int .i64 1)]⟩, ⟨some 88, (some (83, true)), (.ixS 7), [.t 85, .t 87]⟩, ⟨some 89, (some (83, true)), (.ldn 7), [.t 88]⟩, ⟨some 90, (some (83, true)), .mv, [.t 0]⟩, ⟨some 91, (some (83, true)), .mv, [.t 13]⟩, ⟨some 92, (some (83, true)), (.ixS 7), [.t 90, .t 91]⟩, ⟨some 93, (some (83, true)), (.ldn 7), [.t 92]⟩, ⟨some 94, (some (83, true)), (.callv 0), [.t 84, .t 89, .t 93]⟩, ⟨some 95, (some (83, true)), (.bin .lss), [.t 94, .c (.int .i64 0)]⟩, ⟨some 96, (some (83, true)), .not, [.t 95]⟩, ⟨some 97, none, .pick, [.t 83, .t 96, .c (.bool false)]⟩]) (.cond (.t 97) (.seq (.reg [⟨some 98, none, .mv, [.t 0]⟩, ⟨some 99, none, .mv, [.t 1]⟩, ⟨some 100, none, .mv, [.t 2]⟩, ⟨some 101, none, .mv, [.t 13]⟩, ⟨some 102, none, .mv, [.t 4]⟩, ⟨some 103, none, (.call F_z1z 2), [.t 98, .t 99, .t 100, .t 101, .t 102]⟩, ⟨some 15, none, .mv, [.t 103]⟩]) (.seq (.reg [⟨some 104, none, .mv, [.t 15]⟩, ⟨some 1, none, .mv, [.t 104]⟩]) (.exit 1))) .skip)) (.seq (.reg [⟨some 106, none, .mv, [.t 0]⟩, ⟨some 107, none, .mv, [.t 1]⟩, ⟨some 108, none, .mv, [.t 2]⟩, ⟨some 109, none, .mv, [.t 13]⟩, ⟨some 110, none, .mv, [.t 4]⟩, ⟨some 111, none, (.call F_z7z 2), [.t 106, .t 107, .t 108, .t 109, .t 110]⟩, ⟨some 105, none, .mv, [.t 111]⟩, ⟨some 112, none, (.ext 0), [.t 105]⟩, ⟨some 113, none, (.ext 1), [.t 105]⟩, ⟨some 16, none, .mv, [.t 112]⟩, ⟨some 17, none, .mv, [.t 113]⟩]) (.seq (.reg [⟨some 114, none, .mv, [.t 17]⟩, ⟨some 11, none, .mv, [.t 114]⟩]) (.seq (.reg [⟨some 115, none, .mv, [.t 16]⟩, ⟨some 116, none, .mv, [.t 1]⟩, ⟨some 117, none, (.bin .sub), [.t 115, .t 116]⟩, ⟨some 118, none, .mv, [.t 2]⟩, ⟨some 119, none, .mv, [.t 16]⟩, ⟨some 120, none, (.bin .sub), [.t 118, .t 119]⟩, ⟨some 18, none, .mv, [.t 117]⟩, ⟨some 19, none, .mv, [.t 120]⟩]) (.seq (.reg [⟨some 121, none, .mv, [.t 12]⟩, ⟨some 122, none, (.bin .quo), [.t 121, .c (.int .i64 8)]⟩, ⟨some 20, none, .mv, [.t 122]⟩]) (.seq (.reg [⟨some 123, none, .mv, [.t 18]⟩, ⟨some 124, none, .mv, [.t 19]⟩, ⟨some 125, none, (.bin .lss), [.t 123, .t 124]⟩]) (.cond (.t 125) (.seq (.reg [⟨some 126, none, .mv, [.t 18]⟩, ⟨some 127, none, .mv, [.t 20]⟩, ⟨some 128, none, (.bin .geq), [.t 126, .t 127]⟩, ⟨some 10, none, .mv, [.t 128]⟩]) (.seq (.reg [⟨some 129, none, .mv, [.t 0]⟩, ⟨some 130, none, .mv, [.t 1]⟩, ⟨some 131, none, .mv, [.t 16]⟩, ⟨some 132, none, .mv, [.t 3]⟩, ⟨some 133, none, .mv, [.t 4]⟩, ⟨some 134, none, (.call F_z10z 2), [.t 129, .t 130, .t 131, .t 132, .t 133]⟩]) (.reg [⟨some 135, none, .mv, [.t 16]⟩, ⟨some 136, none, (.bin .add), [.t 135, .c (.int .i64 1)]⟩, ⟨some 1, none, .mv, [.t 136]⟩]))) (.seq (.reg [⟨some 137, none, .mv, [.t 19]⟩, ⟨some 138, none, .mv, [.t 20]⟩, ⟨some 139, none, (.bin .geq), [.t 137, .t 138]⟩, ⟨some 10, none, .mv, [.t 139]⟩]) (.seq (.reg [⟨some 140, none, .mv, [.t 0]⟩, ⟨some 141, none, .mv, [.t 16]⟩, ⟨some 142, none, (.bin .add), [.t 141, .c (.int .i64 1)]⟩, ⟨some 143, none, .mv, [.t 2]⟩, ⟨some 144, none, .mv, [.t 3]⟩, ⟨some 145, none, .mv, [.t 4]⟩, ⟨some 146, none, (.call F_z10z 2), [.t 140, .t 142, .t 143, .t 144, .t 145]⟩]) (.reg [⟨some 147, none, .mv, [.t 16]⟩, ⟨some 2, none, .mv, [.t 147]⟩]))))))))))))))))))
def wb_z10z_0 : List Bool := [true, true, true, true, true, true, true, true, true, true, true, true, true, true, true, true, true, true, true, true, true, true, true, true, true, true, true, true, true, true, true, true, true, true, true, true, true, true, true, true, true, true, true, true, true, true, true, true, true, true, true, true, true, true, true, true, true, true, true, true, true, true, true, true, true, true, true, true, true, true, true, true, true, true, true, true, true, true, true, true, true, true, true, true, true, true, true, true, true, true, true, true, true, true, true, true, true, true, true, true, true, true, true, true, true, true, true, true, true, true, true, true, true, true, true, true, true, true, true, true, true, true, true, true, true, true, true, true, true, true, true, true, true, true, true, true, true, true, true, true, true, true, true, true, true, true, true, true]
abbrev e_z10z_0 : List AV := [.any, .any, .any, .any, .any, .any, .any, .any, .any, .any, .any, .any, .any, .any, .any, .any, .any, .any, .any, .any, .any, .any, .any, .any, .any, .any, .any, .any, .any, .any, .any, .any, .any, .any, .any, .any, .any, .any, .any, .any, .any, .any, .any, .any, .any, .any, .any, .any, .any, .any, .any, .any, .any, .any, .any, .any, .any, .any, .any, .any, .any, .any, .any, .any, .any, .any, .any, .any, .any, .any, .any, .any, .any, .any, .any, .any, .any, .any, .any, .any, .any, .any, .any, .any, .any, .any, .any, .any, .any, .any, .any, .any, .any, .any, .any, .any, .any, .any, .any, .any, .any, .any, .any, .any, .any, .any, .any, .any, .any, .any, .any, .any, .any, .any, .any, .any, .any, .any, .any, .any, .any, .any, .any, .any, .any, .any, .any, .any, .any, .any, .any, .any, .any, .any, .any, .any, .any, .any, .any, .any, .any, .any, .any, .any, .any, .any, .any, .any]
abbrev i_z10z_0 : List It := [.lp wl_z10z_0 c_z10z_l0, .blk 0 wb_z10z_0]
def c_z10z : Cd := (.seq (.reg [⟨some 10, none, .mv, [.c (.bool true)]⟩]) (.seq (.reg [⟨some 11, none, .mv, [.c (.bool true)]⟩]) (.blk 0 wb_z10z_0 (.loop wl_z10z_0 c_z10z_l0))))
theorem comp_z10z : compF Try.prog (mset [] [] []) (cset [] [F_z3z, F_z8z, F_z4z, F_z6z, F_z5z, F_z0z, F_z1z, F_z7z, F_z10z] []) (wset [(0, wl_z10z_0, wb_z10z_0)] []) Try.f171 = some c_z10z := by kernel_rfl
theorem ok_z10z : fnOk Try.prog F_z10z = true := by kernel_rfl
theorem calls_z10z {args : List AV} {r : AV} (h : RunsX Try.prog 0 (Gives [] r) [.c c_z10z] (args ++ List.replicate (148 - args.length) (.tup [])) [] zeroC) : PCalls Try.prog F_z10z args r :=
  pcallsF Try.checked.mixed Try.func171 ok_z10z comp_z10z rfl (rs := []) (by kernel_rfl) h
theorem hcalls_z10z {args : List AV} {Hin Hout : Heap} {nx nx2 : Ctr} {r : AV} (φ : Nat) (ks : List (Nat × Nat)) (h : RunsX Try.prog φ (GivesH ks [] r Hout nx2) [.c c_z10z] (args ++ List.replicate (148 - args.length) (.tup [])) Hin nx) : HCalls Try.prog F_z10z args Hin nx r Hout nx2 :=
  hcallsF Try.checked.mixed Try.func171 ok_z10z comp_z10z rfl (rs := []) (by kernel_rfl) φ ks h

/-- slices.SortFunc[[]pedlar/api.Version,pedlar/api.Version]: parameters [78, 174], results [], calls math_bits_Len, slices_pdqsortCmpFunc_api_Version -/
def c_z16z : Cd := (.seq (.reg [⟨some 5, none, .mv, [.t 0]⟩, ⟨some 6, none, .len, [.t 5]⟩, ⟨some 4, none, .mv, [.t 6]⟩]) (.reg [⟨some 7, none, .mv, [.t 0]⟩, ⟨some 8, none, .mv, [.t 4]⟩, ⟨some 9, none, .mv, [.t 4]⟩, ⟨some 10, none, (.conv .u64), [.t 9]⟩, ⟨some 11, none, (.call F_math_bits_Len 0), [.t 10]⟩, ⟨some 12, none, .mv, [.t 1]⟩, ⟨some 13, none, (.call F_z10z 2), [.t 7, .c (.int .i64 0), .t 8, .t 11, .t 12]⟩]))
theorem comp_z16z : compF Try.prog (mset [] [] []) (cset [] [F_z10z] []) (wset [] []) Try.f109 = some c_z16z := by kernel_rfl
theorem ok_z16z : fnOk Try.prog F_z16z = true := by kernel_rfl
theorem calls_z16z {args : List AV} {r : AV} (h : RunsX Try.prog 0 (Gives [] r) [.c c_z16z] (args ++ List.replicate (14 - args.length) (.tup [])) [] zeroC) : PCalls Try.prog F_z16z args r :=
  pcallsF Try.checked.mixed Try.func109 ok_z16z comp_z16z rfl (rs := []) (by kernel_rfl) h
theorem hcalls_z16z {args : List AV} {Hin Hout : Heap} {nx nx2 : Ctr} {r : AV} (φ : Nat) (ks : List (Nat × Nat)) (h : RunsX Try.prog φ (GivesH ks [] r Hout nx2) [.c c_z16z] (args ++ List.replicate (14 - args.length) (.tup [])) Hin nx) : HCalls Try.prog F_z16z args Hin nx r Hout nx2 :=
  hcallsF Try.checked.mixed Try.func109 ok_z16z comp_z16z rfl (rs := []) (by kernel_rfl) φ ks h

def tab_CdSort : List (Nat × Cd × Nat × List RS) := [(F_z12z, c_z12z, 32, [.t 10, .t 11]), (F_z11z, c_z11z, 41, [.t 12]), (F_z2z, c_z2z, 18, [.t 8]), (F_z6z, c_z6z, 63, [.t 8, .t 9]), (F_z3z, c_z3z, 53, []), (F_z9z, c_z9z, 82, []), (F_z8z, c_z8z, 60, []), (F_slices_xorshift_Next, c_slices_xorshift_Next, 33, [.t 2]), (F_z17z, c_z17z, 7, [.t 2]), (F_math_bits_Len, c_math_bits_Len, 8, [.t 2]), (F_math_bits_Len32, c_math_bits_Len32, 19, [.t 2]), (F_math_bits_Len64, c_math_bits_Len64, 25, [.t 2]), (F_z4z, c_z4z, 67, []), (F_z5z, c_z5z, 34, []), (F_z0z, c_z0z, 141, [.t 8]), (F_z1z, c_z1z, 90, [.t 10]), (F_z7z, c_z7z, 178, [.t 10, .t 11]), (F_z10z, c_z10z, 148, []), (F_z16z, c_z16z, 14, [])]
theorem tok_CdSort : TabOk Try.prog (tabOf tab_CdSort) := tab_cons calls_z12z hcalls_z12z (tab_cons calls_z11z hcalls_z11z (tab_cons calls_z2z hcalls_z2z (tab_cons calls_z6z hcalls_z6z (tab_cons calls_z3z hcalls_z3z (tab_cons calls_z9z hcalls_z9z (tab_cons calls_z8z hcalls_z8z (tab_cons calls_slices_xorshift_Next hcalls_slices_xorshift_Next (tab_cons calls_z17z hcalls_z17z (tab_cons calls_math_bits_Len hcalls_math_bits_Len (tab_cons calls_math_bits_Len32 hcalls_math_bits_Len32 (tab_cons calls_math_bits_Len64 hcalls_math_bits_Len64 (tab_cons calls_z4z hcalls_z4z (tab_cons calls_z5z hcalls_z5z (tab_cons calls_z0z hcalls_z0z (tab_cons calls_z1z hcalls_z1z (tab_cons calls_z7z hcalls_z7z (tab_cons calls_z10z hcalls_z10z (tab_cons calls_z16z hcalls_z16z (tab_nil)))))))))))))))))))
end Go.Proofs.Ytmokhopjnjecbac
/- The elements that are sorted: versions. -/
namespace Go.Ev
/-! ### whole numbers of the machine's kind, as naturals, where they are within it -/
theorem nz_add (a b : Nat) : (a : Int) + (b : Int) = ((a + b : Nat) : Int) := by omega
theorem nz_add1 (a : Nat) : (a : Int) + 1 = ((a + 1 : Nat) : Int) := by omega
theorem nz_sub {a b : Nat} (h : b ≤ a) : (a : Int) - (b : Int) = ((a - b : Nat) : Int) := by omega
theorem nz_sub1 {a : Nat} (h : 1 ≤ a) : (a : Int) - 1 = ((a - 1 : Nat) : Int) := by omega
theorem nz_mul2 (a : Nat) : 2 * (a : Int) = ((2 * a : Nat) : Int) := by omega
theorem nz_wrap {a : Nat} (h : a < 9223372036854775808) : IntKind.i64.wrap (a : Int) = (a : Int) := wrap64 (by omega) (by omega)
end Go.Ev
namespace Go.Proofs.Ytmokhopjnjecbac
open Go.Ev
set_option linter.unusedVariables false
instance : Inhabited Ver := ⟨⟨0, 0, ⟨#[]⟩, ⟨#[]⟩, false, .mk 0 []⟩⟩
/-- A version's cells. -/
def ev7 (v : Ver) : List AV := vcs v
theorem ev7_len (v : Ver) : (ev7 v).length = 7 := rfl
theorem ev7_all (v : Ver) : (ev7 v).all scal1 = true := rfl
theorem ev7_frz {α : Type} (n : Nat) (H : Heap) (v : Ver) (ok : List AV → List (Nat × Nat) → α) (bd : α) : mapK (frzK (n + 1) H) (ev7 v) ok bd = ok (ev7 v) [] := rfl
attribute [go_sem] c_z16z c_z4z c_z4z_l0 c_z6z c_z8z c_z8z_k0 c_z8z_l0 c_z8z_l2 c_z3z c_z3z_k0 c_z3z_l0 c_z3z_l2 c_z2z c_z11z c_z12z c_z0z c_z0z_k0 c_z0z_k1 c_z0z_k2 c_z0z_k3 c_z0z_l0 c_z0z_l2 c_z0z_l4 c_z0z_l6 c_z7z c_z7z_k0 c_z7z_k1 c_z7z_k2 c_z7z_k3 c_z7z_k4 c_z7z_l0 c_z7z_l2 c_z7z_l4 c_z7z_l6 c_z7z_l8 c_z1z c_z1z_k0 c_z1z_k1 c_z1z_k2 c_z1z_l0 c_z1z_l2 c_z1z_l4 c_z10z c_z10z_l0 c_z5z c_z5z_l0 c_z9z c_z9z_l0 s_z4z_0 s_z8z_0 s_z8z_2 s_z3z_0 s_z3z_2 s_z0z_0 s_z0z_2 s_z0z_4 s_z0z_6 s_z7z_0 s_z7z_2 s_z7z_4 s_z7z_6 s_z7z_8 s_z1z_0 s_z1z_2 s_z1z_4 s_z10z_0 s_z5z_0 s_z9z_0 wb_z4z_0 wb_z8z_0 wb_z8z_2 wb_z3z_0 wb_z3z_1 wb_z3z_2 wb_z0z_0 wb_z0z_1 wb_z0z_2 wb_z0z_4 wb_z0z_6 wb_z7z_0 wb_z7z_2 wb_z7z_4 wb_z7z_5 wb_z7z_6 wb_z7z_8 wb_z1z_0 wb_z1z_1 wb_z1z_2 wb_z1z_4 wb_z10z_0 wb_z5z_0 wb_z9z_0 wl_z4z_0 wl_z8z_0 wl_z8z_2 wl_z3z_0 wl_z3z_2 wl_z0z_0 wl_z0z_2 wl_z0z_4 wl_z0z_6 wl_z7z_0 wl_z7z_2 wl_z7z_4 wl_z7z_6 wl_z7z_8 wl_z1z_0 wl_z1z_2 wl_z1z_4 wl_z10z_0 wl_z5z_0 wl_z9z_0
end Go.Proofs.Ytmokhopjnjecbac
/- A row of elements of several cells each, as the sort moves them. -/
namespace Go.Ev
set_option linter.unusedVariables false
set_option linter.unusedSectionVars false
open Go.Sort
section
variable {α : Type} [Inhabited α] {cl : α → List AV} {sz : Nat}
def rowC (cl : α → List AV) (d : Array α) : List AV := (d.toList.map cl).flatten
theorem rowL_len (hz : ∀ x, (cl x).length = sz) : ∀ l : List α, (l.map cl).flatten.length = l.length * sz
  | [] => by simp
  | a :: l => by simp only [List.map_cons, List.flatten_cons, List.length_append, hz, rowL_len hz l, List.length_cons, Nat.succ_mul]; omega
theorem rowC_len (hz : ∀ x, (cl x).length = sz) (d : Array α) : (rowC cl d).length = d.size * sz := by
  unfold rowC; rw [rowL_len hz]; simp
theorem rowL_at (hz : ∀ x, (cl x).length = sz) : ∀ (l : List α) (i : Nat) (h : i < l.length), ((l.map cl).flatten.drop (i * sz)).take sz = cl l[i]
  | a :: l, 0, _ => by simp only [List.map_cons, List.flatten_cons, Nat.zero_mul, List.drop_zero, List.getElem_cons_zero]; rw [List.take_append_of_le_length (by rw [hz]; exact Nat.le_refl _), List.take_of_length_le (by rw [hz]; exact Nat.le_refl _)]
  | a :: l, i + 1, h => by
    simp only [List.map_cons, List.flatten_cons, List.getElem_cons_succ]
    rw [List.drop_append, List.drop_eq_nil_of_le (by rw [hz, Nat.succ_mul]; omega), List.nil_append, hz, show (i + 1) * sz - sz = i * sz by rw [Nat.succ_mul]; omega]
    exact rowL_at hz l i (by simpa using h)
theorem rowC_at (hz : ∀ x, (cl x).length = sz) {d : Array α} {i : Nat} (h : i < d.size) : ((rowC cl d).drop (i * sz)).take sz = cl d[i]! := by
  unfold rowC
  rw [rowL_at hz d.toList i (by simpa using h), getElem!_pos d i h]; simp
theorem rowL_set (hz : ∀ x, (cl x).length = sz) (x : α) : ∀ (l : List α) (i : Nat) (h : i < l.length), (l.map cl).flatten.take (i * sz) ++ (cl x ++ (l.map cl).flatten.drop (i * sz + sz)) = ((l.set i x).map cl).flatten
  | a :: l, 0, _ => by
    simp only [List.map_cons, List.flatten_cons, Nat.zero_mul, List.take_zero, List.nil_append, Nat.zero_add, List.set_cons_zero]
    rw [List.drop_append, List.drop_eq_nil_of_le (by rw [hz]; exact Nat.le_refl _), hz, Nat.sub_self, List.drop_zero, List.nil_append]
  | a :: l, i + 1, h => by
    simp only [List.map_cons, List.flatten_cons, List.set_cons_succ]
    rw [List.take_append, List.drop_append, List.take_of_length_le (by rw [hz, Nat.succ_mul]; omega), List.drop_eq_nil_of_le (by rw [hz, Nat.succ_mul]; omega), hz, List.nil_append, show (i + 1) * sz - sz = i * sz by rw [Nat.succ_mul]; omega,
      show (i + 1) * sz + sz - sz = i * sz + sz by rw [Nat.succ_mul]; omega, List.append_assoc, rowL_set hz x l i (by simpa using h)]
theorem rowC_set (hz : ∀ x, (cl x).length = sz) {d : Array α} {i : Nat} (x : α) (h : i < d.size) : (rowC cl d).take (i * sz) ++ (cl x ++ (rowC cl d).drop (i * sz + sz)) = rowC cl (d.setIfInBounds i x) := by
  unfold rowC
  rw [rowL_set hz x d.toList i (by simpa using h)]; simp
theorem rowC_toArray (l : List α) : rowC cl l.toArray = (l.map cl).flatten := rfl
end
end Go.Ev
/- The library's sort at elements of 7 cells: how a row is looked at and turned; the insertion sort. Printed by a program of mine (sortgen.py). -/
-- short
-- om
-- fuel 300
namespace Go.Proofs.Ytmokhopjnjecbac
open Go.Ev Go.Sort
set_option linter.unusedVariables false
set_option linter.unusedSimpArgs false
set_option linter.unusedSectionVars false
set_option maxRecDepth 100000
set_option maxHeartbeats 3200000
/-- A comparison: whatever two. -/
structure vsCmp (F : Nat) (c : Ver → Ver → Int) : Prop where
  calls : ∀ x y, PCalls Try.prog F [.agg (ev7 x), .agg (ev7 y)] (.int .i64 (c x y))
def vslt (c : Ver → Ver → Int) (x y : Ver) : Bool := decide (c x y < 0)
theorem vsat {D : Array Ver} {i : Nat} (h : i < D.size) : ((rowC ev7 D).drop (i * 7)).take 7 = ev7 D[i]! := rowC_at ev7_len h
theorem vslen (D : Array Ver) : (rowC ev7 D).length = D.size * 7 := rowC_len ev7_len D
theorem vsset {D : Array Ver} {i : Nat} (x : Ver) (h : i < D.size) : (rowC ev7 D).take (i * 7) ++ ev7 x ++ (rowC ev7 D).drop (i * 7 + 7) = rowC ev7 (D.setIfInBounds i x) := by
  rw [List.append_assoc]; exact rowC_set ev7_len x h
theorem vsset2 {D : Array Ver} {i j : Nat} (x y : Ver) (h : i < D.size) : (rowC ev7 (D.setIfInBounds j y)).take (i * 7) ++ ev7 x ++ (rowC ev7 (D.setIfInBounds j y)).drop (i * 7 + 7) = rowC ev7 ((D.setIfInBounds j y).setIfInBounds i x) :=
  vsset x (by simpa using h)
theorem vsswp (D : Array Ver) (i j : Nat) : (D.setIfInBounds i D[j]!).setIfInBounds j D[i]! = swp D i j := rfl
theorem vsswpc (D : Array Ver) (i j : Nat) (hi : i < D.size) (hj : j < D.size) : (D.setIfInBounds j D[i]!).setIfInBounds i D[j]! = swp D j i := rfl
/-- The row, as it lies. -/
abbrev vsH (f d g : Nat) (D : Array Ver) : Heap := [(f, d, g, some (rowC ev7 D))]
theorem vsltT {c : Ver → Ver → Int} {x y : Ver} (h : vslt c x y = true) : c x y < 0 := by simpa [vslt] using h
theorem vsltF {c : Ver → Ver → Int} {x y : Ver} (h : vslt c x y = false) : ¬ c x y < 0 := by simpa [vslt] using h
section
variable {F : Nat} {c : Ver → Ver → Int} (hc : vsCmp F c) {f d g n : Nat} {k : List It} (hk : flat k) {R : List AV → Heap → Ctr → Prop} {φ : Nat}
include hc hk
theorem vsins_inner (hn : n ≤ 1000) (a b i : Nat) (nx : Ctr) : ∀ (j : Nat) (D : Array Ver), D.size = n → j < n →
    RunsX Try.prog φ R k (e_z3z_2 (.sl f d g 7 0 n) (.int .i64 (a : Nat)) (.int .i64 (b : Nat)) (.func F []) (.int .i64 (i : Nat))) (vsH f d g (insInner (vslt c) a j D)) nx →
    RunsX Try.prog φ R (i_z3z_2 ++ k) (s_z3z_2 (.sl f d g 7 0 n) (.int .i64 (a : Nat)) (.int .i64 (b : Nat)) (.func F []) (.int .i64 (i : Nat)) (.int .i64 (j : Nat))) (vsH f d g D) nx
  | 0, D, hD, hj, h => by
    refine round (its := [.blk 2 wb_z3z_2]) 300 hk trivial (fun A eA => ?_)
    simp (disch := omega) only [go_sem, eA, scal1]
    exact h
  | j + 1, D, hD, hj, h => by
    by_cases hja : a < j + 1
    · have hc1 := hc.calls D[j + 1]! D[j]!
      cases hl : vslt c D[j + 1]! D[j]! with
      | true =>
        have hl' := vsltT hl
        have ih := vsins_inner hn a b i nx j (swp D (j + 1) j) (by rw [size_swp]; exact hD) (by omega)
        simp only [insInner, hl, Bool.and_true, gt_iff_lt, hja, decide_true, if_true] at h
        have ih := ih h
        refine round (its := [.blk 2 wb_z3z_2]) 300 hk trivial (fun A eA => ?_)
        simp (disch := omega) only [go_sem, eA, scal1, nz_wrap, nz_sub1, nz_add1, zz15, zz16, vsat, vslen, ev7_frz]
        refine call0 300 hk trivial hc1 (.inl rfl) (fun A eA => ?_)
        simp (disch := omega) only [go_sem, eA, scal1, nz_wrap, nz_sub1, nz_add1, zz15, zz16, vsat, vslen, vsset, vsset2, vsswp, ev7_len, ev7_all, zz14]
        exact ih
      | false =>
        have hl' := vsltF hl
        simp only [insInner, hl, Bool.and_false, Bool.false_eq_true, if_false] at h
        refine round (its := [.blk 2 wb_z3z_2]) 300 hk trivial (fun A eA => ?_)
        simp (disch := omega) only [go_sem, eA, scal1, nz_wrap, nz_sub1, nz_add1, zz15, zz16, vsat, vslen, ev7_frz]
        refine call0 300 hk trivial hc1 (.inl rfl) (fun A eA => ?_)
        simp (disch := omega) only [go_sem, eA, scal1]
        exact h
    · have e : insInner (vslt c) a (j + 1) D = D := by simp only [insInner]; rw [if_neg]; simp; intro h; omega
      rw [e] at h
      refine round (its := [.blk 2 wb_z3z_2]) 300 hk trivial (fun A eA => ?_)
      simp (disch := omega) only [go_sem, eA, scal1]
      exact h
end
end Go.Proofs.Ytmokhopjnjecbac
/- The library's sort at elements of 7 cells: the insertion sort, the heap. Printed by a program of mine (sortgen.py). -/
-- short
-- om
-- fuel 300
namespace Go.Proofs.Ytmokhopjnjecbac
open Go.Ev Go.Sort
set_option linter.unusedVariables false
set_option linter.unusedSimpArgs false
set_option linter.unusedSectionVars false
set_option maxRecDepth 100000
set_option maxHeartbeats 3200000
theorem vsszI (lt : Ver → Ver → Bool) (a : Nat) : ∀ (j : Nat) (D : Array Ver), (insInner lt a j D).size = D.size
  | 0, D => rfl
  | j + 1, D => by
    unfold insInner
    split
    · rw [vsszI lt a j, size_swp]
    · rfl
theorem vsendH {φ : Nat} {ks : List (Nat × Nat)} {rs : List RS} {r : AV} {Hout : Heap} {nx' : Ctr} {t : List AV} {H : Heap} {nx : Ctr} (h1 : Ev.sel ks H = Hout) (h2 : getsK rs t H (fun vs => some (retv vs)) none = some r) (h3 : nx = nx') : RunsX Try.prog φ (GivesH ks rs r Hout nx') [] t H nx :=
  RunsX.of (.nil (GivesH.of h1 h2 h3))
theorem vssel (f d g : Nat) (D : Array Ver) : Ev.sel [(f, d)] (vsH f d g D) = vsH f d g D := by simp only [go_sem]
section
variable {F : Nat} {c : Ver → Ver → Int} (hc : vsCmp F c) {f d g n : Nat}
include hc
theorem vsins_outer (hn : n ≤ 1000) {k : List It} (hk : flat k) {R : List AV → Heap → Ctr → Prop} {φ : Nat} (a b : Nat) (hb : b ≤ n) (nx : Ctr) : ∀ (m i : Nat) (D : Array Ver), b - i = m → i ≤ 1001 → D.size = n →
    RunsX Try.prog φ R k e_z3z_0 (vsH f d g (insOuter (vslt c) a b i D)) nx →
    RunsX Try.prog φ R (i_z3z_0 ++ k) (s_z3z_0 (.sl f d g 7 0 n) (.int .i64 (a : Nat)) (.int .i64 (b : Nat)) (.func F []) (.int .i64 (i : Nat))) (vsH f d g D) nx := by
  intro m
  induction m with
  | zero =>
    intro i D hm hi hD h
    rw [insOuter, if_neg (by omega)] at h
    refine round (its := [.blk 0 wb_z3z_0]) 300 hk trivial (fun A eA => ?_)
    simp (disch := omega) only [go_sem, eA, scal1]
    exact h
  | succ m ih =>
    intro i D hm hi hD h
    rw [insOuter, if_pos (by omega)] at h
    have hsz : (insInner (vslt c) a i D).size = n := by rw [← hD]; exact vsszI (vslt c) a i D
    refine round (its := [.blk 0 wb_z3z_0]) 300 hk trivial (fun A eA => ?_)
    simp (disch := omega) only [go_sem, eA, scal1, nz_wrap, nz_sub1, nz_sub, nz_add1, nz_add, nz_mul2, zz15, zz16, vsat, vslen, vsset, vsset2, vsswp, ev7_len, ev7_all, ev7_frz, zz14]
    refine vsins_inner hc (k := .blk 1 wb_z3z_1 :: .c c_z3z_k0 :: .lp wl_z3z_0 c_z3z_l0 :: .blk 0 wb_z3z_0 :: k) hk hn a b i _ i D hD (by omega) ?_
    refine walk (its := [.blk 1 wb_z3z_1, .c c_z3z_k0, .lp wl_z3z_0 c_z3z_l0, .blk 0 wb_z3z_0]) (k0 := k) 300 hk trivial (fun A eA => ?_)
    simp (disch := omega) only [go_sem, eA, scal1, nz_wrap, nz_sub1, nz_sub, nz_add1, nz_add, nz_mul2, zz15, zz16, vsat, vslen, vsset, vsset2, vsswp, ev7_len, ev7_all, ev7_frz, zz14]
    exact ih (i + 1) _ (by omega) (by omega) hsz h
theorem vsins_h (hn : n ≤ 1000) (a b : Nat) (hb : b ≤ n) (ha : a ≤ 1000) (D : Array Ver) (hD : D.size = n) (nx : Ctr) :
    HCalls Try.prog F_z3z [.sl f d g 7 0 n, .int .i64 (a : Nat), .int .i64 (b : Nat), .func F []] (vsH f d g D) nx (.tup []) (vsH f d g (insertionSort (vslt c) D a b)) nx := by
  refine hcalls_z3z 9 [(f, d)] (walk0 300 trivial (fun A eA => ?_))
  simp (disch := omega) only [go_sem, eA, scal1, nz_wrap, nz_sub1, nz_sub, nz_add1, nz_add, nz_mul2, zz15, zz16, vsat, vslen, vsset, vsset2, vsswp, ev7_len, ev7_all, ev7_frz, zz14]
  exact vsins_outer hc hn (k := []) trivial a b hb _ (b - (a + 1)) (a + 1) D rfl (by omega) hD (vsendH (vssel _ _ _ _) rfl rfl)
theorem vssift_loop (hn : n ≤ 1000) (hi first : Nat) (hf : first + hi ≤ n) (nx : Ctr) : ∀ (m root : Nat) (D : Array Ver), hi - root ≤ m → root ≤ 1000 → D.size = n →
    RunsX Try.prog 9 (GivesH [(f, d)] [] (.tup []) (vsH f d g (siftDown (vslt c) hi first root D)) nx) (i_z9z_0 ++ []) (s_z9z_0 (.sl f d g 7 0 n) (.int .i64 (hi : Nat)) (.int .i64 (first : Nat)) (.func F []) (.int .i64 (root : Nat))) (vsH f d g D) nx := by
  intro m
  induction m with
  | zero =>
    intro root D hm hr hD
    have e : siftDown (vslt c) hi first root D = D := by rw [siftDown, dif_pos (by omega)]
    rw [e]
    refine round (its := [.blk 0 wb_z9z_0]) (k0 := []) 300 trivial trivial (fun A eA => ?_)
    simp (disch := omega) only [go_sem, eA, scal1, nz_wrap, nz_sub1, nz_sub, nz_add1, nz_add, nz_mul2, zz15, zz16, vsat, vslen, vsset, vsset2, vsswp, ev7_len, ev7_all, ev7_frz, zz14]
    exact vsendH (vssel _ _ _ _) rfl rfl
  | succ m ih =>
    intro root D hm hr hD
    by_cases h1 : 2 * root + 1 ≥ hi
    · have e : siftDown (vslt c) hi first root D = D := by rw [siftDown, dif_pos h1]
      rw [e]
      refine round (its := [.blk 0 wb_z9z_0]) (k0 := []) 300 trivial trivial (fun A eA => ?_)
      simp (disch := omega) only [go_sem, eA, scal1, nz_wrap, nz_sub1, nz_sub, nz_add1, nz_add, nz_mul2, zz15, zz16, vsat, vslen, vsset, vsset2, vsswp, ev7_len, ev7_all, ev7_frz, zz14]
      exact vsendH (vssel _ _ _ _) rfl rfl
    have e22 : 2 * root + 1 + 1 = 2 * root + 2 := rfl
    have e23 : first + (2 * root + 1) + 1 = first + (2 * root + 2) := rfl
    -- the greater child stands at q
    have go : ∀ q : Nat, root < q → q < hi → siftDown (vslt c) hi first root D = (if !vslt c D[first + root]! D[first + q]! then D else siftDown (vslt c) hi first q (swp D (first + root) (first + q))) →
        (vslt c D[first + root]! D[first + q]! = false → ∀ t : List AV, GivesH [(f, d)] [] (.tup []) (vsH f d g (siftDown (vslt c) hi first root D)) nx t (vsH f d g D) nx) ∧
        (vslt c D[first + root]! D[first + q]! = true → RunsX Try.prog 9 (GivesH [(f, d)] [] (.tup []) (vsH f d g (siftDown (vslt c) hi first root D)) nx) (i_z9z_0 ++ []) (s_z9z_0 (.sl f d g 7 0 n) (.int .i64 (hi : Nat)) (.int .i64 (first : Nat)) (.func F []) (.int .i64 (q : Nat))) (vsH f d g (swp D (first + root) (first + q))) nx) := by
      intro q hq1 hq2 he
      refine ⟨fun hl t => ?_, fun hl => ?_⟩
      · rw [he, hl]; exact GivesH.of (vssel _ _ _ _) rfl rfl
      · rw [he, hl]; exact ih q _ (by omega) (by omega) (by rw [size_swp]; exact hD)
    by_cases h2 : 2 * root + 2 < hi
    · have hc1 := hc.calls D[first + (2 * root + 1)]! D[first + (2 * root + 2)]!
      cases hl : vslt c D[first + (2 * root + 1)]! D[first + (2 * root + 2)]! with
      | true =>
        have hl' := vsltT hl
        have hc2 := hc.calls D[first + root]! D[first + (2 * root + 2)]!
        have he : siftDown (vslt c) hi first root D = (if !vslt c D[first + root]! D[first + (2 * root + 2)]! then D else siftDown (vslt c) hi first (2 * root + 2) (swp D (first + root) (first + (2 * root + 2)))) := by
          rw [siftDown, dif_neg h1, if_pos (by rw [e23, hl]; simp; omega)]
          split
          · rfl
          · first | rfl | rw [dif_pos h2]
        obtain ⟨g1, g2⟩ := go _ (by omega) h2 he
        refine round (its := [.blk 0 wb_z9z_0]) (k0 := []) 300 trivial trivial (fun A eA => ?_)
        simp (disch := omega) only [go_sem, eA, scal1, nz_wrap, nz_sub1, nz_sub, nz_add1, nz_add, nz_mul2, zz15, zz16, vsat, vslen, vsset, vsset2, vsswp, ev7_len, ev7_all, ev7_frz, zz14, e22, e23]
        refine call0 300 trivial trivial hc1 (.inl rfl) (fun A eA => ?_)
        simp (disch := omega) only [go_sem, eA, scal1, nz_wrap, nz_sub1, nz_sub, nz_add1, nz_add, nz_mul2, zz15, zz16, vsat, vslen, vsset, vsset2, vsswp, ev7_len, ev7_all, ev7_frz, zz14, e22, e23]
        refine call0 300 trivial trivial hc2 (.inl rfl) (fun A eA => ?_)
        cases hl2 : vslt c D[first + root]! D[first + (2 * root + 2)]! with
        | true =>
          have hl2' := vsltT hl2
          simp (disch := omega) only [go_sem, eA, scal1, nz_wrap, nz_sub1, nz_sub, nz_add1, nz_add, nz_mul2, zz15, zz16, vsat, vslen, vsset, vsset2, vsswp, ev7_len, ev7_all, ev7_frz, zz14, e22, e23]
          exact g2 hl2
        | false =>
          have hl2' := vsltF hl2
          simp (disch := omega) only [go_sem, eA, scal1, nz_wrap, nz_sub1, nz_sub, nz_add1, nz_add, nz_mul2, zz15, zz16, vsat, vslen, vsset, vsset2, vsswp, ev7_len, ev7_all, ev7_frz, zz14, e22, e23]
          exact g1 hl2 _
      | false =>
        have hl' := vsltF hl
        have hc2 := hc.calls D[first + root]! D[first + (2 * root + 1)]!
        have he : siftDown (vslt c) hi first root D = (if !vslt c D[first + root]! D[first + (2 * root + 1)]! then D else siftDown (vslt c) hi first (2 * root + 1) (swp D (first + root) (first + (2 * root + 1)))) := by
          rw [siftDown, dif_neg h1, if_neg (by rw [e23, hl]; simp)]
        obtain ⟨g1, g2⟩ := go _ (by omega) (by omega) he
        refine round (its := [.blk 0 wb_z9z_0]) (k0 := []) 300 trivial trivial (fun A eA => ?_)
        simp (disch := omega) only [go_sem, eA, scal1, nz_wrap, nz_sub1, nz_sub, nz_add1, nz_add, nz_mul2, zz15, zz16, vsat, vslen, vsset, vsset2, vsswp, ev7_len, ev7_all, ev7_frz, zz14, e22, e23]
        refine call0 300 trivial trivial hc1 (.inl rfl) (fun A eA => ?_)
        simp (disch := omega) only [go_sem, eA, scal1, nz_wrap, nz_sub1, nz_sub, nz_add1, nz_add, nz_mul2, zz15, zz16, vsat, vslen, vsset, vsset2, vsswp, ev7_len, ev7_all, ev7_frz, zz14, e22, e23]
        refine call0 300 trivial trivial hc2 (.inl rfl) (fun A eA => ?_)
        cases hl2 : vslt c D[first + root]! D[first + (2 * root + 1)]! with
        | true =>
          have hl2' := vsltT hl2
          simp (disch := omega) only [go_sem, eA, scal1, nz_wrap, nz_sub1, nz_sub, nz_add1, nz_add, nz_mul2, zz15, zz16, vsat, vslen, vsset, vsset2, vsswp, ev7_len, ev7_all, ev7_frz, zz14, e22, e23]
          exact g2 hl2
        | false =>
          have hl2' := vsltF hl2
          simp (disch := omega) only [go_sem, eA, scal1, nz_wrap, nz_sub1, nz_sub, nz_add1, nz_add, nz_mul2, zz15, zz16, vsat, vslen, vsset, vsset2, vsswp, ev7_len, ev7_all, ev7_frz, zz14, e22, e23]
          exact g1 hl2 _
    · have hc2 := hc.calls D[first + root]! D[first + (2 * root + 1)]!
      have he : siftDown (vslt c) hi first root D = (if !vslt c D[first + root]! D[first + (2 * root + 1)]! then D else siftDown (vslt c) hi first (2 * root + 1) (swp D (first + root) (first + (2 * root + 1)))) := by
        rw [siftDown, dif_neg h1, if_neg (by simp; intro h; omega)]
      obtain ⟨g1, g2⟩ := go _ (by omega) (by omega) he
      refine round (its := [.blk 0 wb_z9z_0]) (k0 := []) 300 trivial trivial (fun A eA => ?_)
      simp (disch := omega) only [go_sem, eA, scal1, nz_wrap, nz_sub1, nz_sub, nz_add1, nz_add, nz_mul2, zz15, zz16, vsat, vslen, vsset, vsset2, vsswp, ev7_len, ev7_all, ev7_frz, zz14, e22, e23]
      refine call0 300 trivial trivial hc2 (.inl rfl) (fun A eA => ?_)
      cases hl2 : vslt c D[first + root]! D[first + (2 * root + 1)]! with
      | true =>
        have hl2' := vsltT hl2
        simp (disch := omega) only [go_sem, eA, scal1, nz_wrap, nz_sub1, nz_sub, nz_add1, nz_add, nz_mul2, zz15, zz16, vsat, vslen, vsset, vsset2, vsswp, ev7_len, ev7_all, ev7_frz, zz14, e22, e23]
        exact g2 hl2
      | false =>
        have hl2' := vsltF hl2
        simp (disch := omega) only [go_sem, eA, scal1, nz_wrap, nz_sub1, nz_sub, nz_add1, nz_add, nz_mul2, zz15, zz16, vsat, vslen, vsset, vsset2, vsswp, ev7_len, ev7_all, ev7_frz, zz14, e22, e23]
        exact g1 hl2 _
theorem vssift_h (hn : n ≤ 1000) (lo hi first : Nat) (hlo : lo ≤ 1000) (hf : first + hi ≤ n) (D : Array Ver) (hD : D.size = n) (nx : Ctr) :
    HCalls Try.prog F_z9z [.sl f d g 7 0 n, .int .i64 (lo : Nat), .int .i64 (hi : Nat), .int .i64 (first : Nat), .func F []] (vsH f d g D) nx (.tup []) (vsH f d g (siftDown (vslt c) hi first lo D)) nx := by
  refine hcalls_z9z 9 [(f, d)] (walk0 300 trivial (fun A eA => ?_))
  simp (disch := omega) only [go_sem, eA, scal1, nz_wrap, nz_sub1, nz_sub, nz_add1, nz_add, nz_mul2, zz15, zz16, vsat, vslen, vsset, vsset2, vsswp, ev7_len, ev7_all, ev7_frz, zz14]
  exact vssift_loop hc hn hi first hf nx (hi - lo) lo D (Nat.le_refl _) hlo hD
end
end Go.Proofs.Ytmokhopjnjecbac
