/- The functions' bodies, compiled; printed by a program of mine (gen.py); that they are is checked here. -/
import Derived.Test.YtmokhopjnjecbaaRows
import Derived.Test.YtmokhopjnjecbaaEvS
import Derived.Test.YtmokhopjnjecbaaFns
import Derived.Eval
import Derived.KernelRfl
namespace Go.Proofs.Ytmokhopjnjecbaa
open Go.Ev
set_option maxRecDepth 100000

/-- pedlar/sum.add: parameters [24, 5], results [.t 4], calls  -/
def wl_sum_add_0 : Mk := ⟨[false, true, true, true, true, true, true, true, true, true, false, true, true, true, true, true, true, true, true, true, true, true], []⟩
abbrev s_sum_add_0 (t0 t10 : AV) : List AV := [t0, .any, .any, .any, .any, .any, .any, .any, .any, .any, t10, .any, .any, .any, .any, .any, .any, .any, .any, .any, .any, .any]
def c_sum_add_l0 : Cd := (.seq (.reg [⟨(some 11), none, (.bin .lss), [.t 10, .c (.int .i64 8)]⟩]) (.seq (.cond (.t 11) .skip (.exit 0)) (.seq (.blk 1 [] (.seq (.reg [⟨(some 12), none, .mv, [.t 0]⟩, ⟨(some 13), none, (.bin .and), [.t 12, .c (.int .u32 1)]⟩, ⟨(some 14), none, (.bin .eql), [.t 13, .c (.int .u32 1)]⟩, ⟨(some 5), none, .mv, [.t 14]⟩]) (.seq (.reg [⟨(some 15), none, .mv, [.t 0]⟩, ⟨(some 16), none, (.bin .shr), [.t 15, .c (.int .u64 1)]⟩, ⟨(some 0), none, .mv, [.t 16]⟩]) (.seq (.reg [⟨(some 17), none, .mv, [.t 5]⟩]) (.cond (.t 17) (.reg [⟨(some 18), none, .mv, [.t 0]⟩, ⟨(some 19), none, (.bin .xor), [.t 18, .c (.int .u32 2197175160)]⟩, ⟨(some 0), none, .mv, [.t 19]⟩]) .skip))))) (.reg [⟨(some 20), none, (.bin .add), [.t 10, .c (.int .i64 1)]⟩, ⟨(some 10), none, .mv, [.t 20]⟩]))))
def wb_sum_add_0 : List Bool := [false, true, true, true, true, true, true, true, true, true, true, true, true, true, true, true, true, true, true, true, true, true]
abbrev e_sum_add_0 (t0 : AV) : List AV := [t0, .any, .any, .any, .any, .any, .any, .any, .any, .any, .any, .any, .any, .any, .any, .any, .any, .any, .any, .any, .any, .any]
abbrev i_sum_add_0 : List It := [.lp wl_sum_add_0 c_sum_add_l0, .blk 0 wb_sum_add_0]
def c_sum_add_k0 : Cd := (.seq (.reg [⟨(some 21), none, .mv, [.t 0]⟩, ⟨(some 4), none, .mv, [.t 21]⟩]) .ret)
def c_sum_add : Cd := (.seq (.reg [⟨(some 4), none, .mv, [.c (.int .u32 0)]⟩]) (.seq (.reg [⟨(some 6), none, .mv, [.t 0]⟩, ⟨(some 7), none, .mv, [.t 1]⟩, ⟨(some 8), none, (.conv .u32), [.t 7]⟩, ⟨(some 9), none, (.bin .xor), [.t 6, .t 8]⟩, ⟨(some 0), none, .mv, [.t 9]⟩]) (.seq (.seq (.reg [⟨(some 10), none, .mv, [.c (.int .i64 0)]⟩]) (.blk 0 wb_sum_add_0 (.loop wl_sum_add_0 c_sum_add_l0))) c_sum_add_k0)))
theorem comp_sum_add : compF Try.prog (mset [] [] []) (cset [] [] []) (wset [(0, wl_sum_add_0, wb_sum_add_0)] []) Try.f79 = some c_sum_add := by kernel_rfl
theorem ok_sum_add : fnOk Try.prog F_sum_add = true := by kernel_rfl
theorem calls_sum_add {args : List AV} {r : AV} (h : RunsX Try.prog 0 (Gives [.t 4] r) [.c c_sum_add] (args ++ List.replicate (22 - args.length) (.tup [])) [] zeroC) : PCalls Try.prog F_sum_add args r :=
  pcallsF Try.checked.mixed Try.func79 ok_sum_add comp_sum_add rfl (rs := [.t 4]) (by kernel_rfl) h
theorem hcalls_sum_add {args : List AV} {Hin Hout : Heap} {nx nx2 : Ctr} {r : AV} (φ : Nat) (ks : List (Nat × Nat)) (h : RunsX Try.prog φ (GivesH ks [.t 4] r Hout nx2) [.c c_sum_add] (args ++ List.replicate (22 - args.length) (.tup [])) Hin nx) : HCalls Try.prog F_sum_add args Hin nx r Hout nx2 :=
  hcallsF Try.checked.mixed Try.func79 ok_sum_add comp_sum_add rfl (rs := [.t 4]) (by kernel_rfl) φ ks h

/-- pedlar/sum.CRC: parameters [22], results [.t 2], calls sum_add -/
def wl_sum_CRC_0 : Mk := ⟨[true, true, true, false, true, true, false, false, false, true, true, true, true, true, true, true, true, true], []⟩
abbrev s_sum_CRC_0 (t3 t6 t7 t8 : AV) : List AV := [.any, .any, .any, t3, .any, .any, t6, t7, t8, .any, .any, .any, .any, .any, .any, .any, .any, .any]
def c_sum_CRC_l0 : Cd := (.seq (.reg [⟨(some 9), none, (.bin .lss), [.t 8, .t 7]⟩]) (.seq (.cond (.t 9) .skip (.exit 0)) (.seq (.blk 1 [] (.seq (.reg [⟨(some 10), none, (.ixS 1), [.t 6, .t 8]⟩, ⟨(some 11), none, .ld1, [.t 10]⟩, ⟨(some 5), none, .mv, [.t 11]⟩]) (.reg [⟨(some 12), none, .mv, [.t 3]⟩, ⟨(some 13), none, .mv, [.t 5]⟩, ⟨(some 14), none, (.call F_sum_add 0), [.t 12, .t 13]⟩, ⟨(some 3), none, .mv, [.t 14]⟩]))) (.reg [⟨(some 15), none, (.bin .add), [.t 8, .c (.int .i64 1)]⟩, ⟨(some 8), none, .mv, [.t 15]⟩]))))
def wb_sum_CRC_0 : List Bool := [true, true, true, false, true, true, true, true, true, true, true, true, true, true, true, true, true, true]
abbrev e_sum_CRC_0 (t3 : AV) : List AV := [.any, .any, .any, t3, .any, .any, .any, .any, .any, .any, .any, .any, .any, .any, .any, .any, .any, .any]
abbrev i_sum_CRC_0 : List It := [.lp wl_sum_CRC_0 c_sum_CRC_l0, .blk 0 wb_sum_CRC_0]
def c_sum_CRC_k0 : Cd := (.seq (.reg [⟨(some 16), none, .mv, [.t 3]⟩, ⟨(some 17), none, (.bin .xor), [.t 16, .c (.int .u32 4294967295)]⟩, ⟨(some 2), none, .mv, [.t 17]⟩]) .ret)
def c_sum_CRC : Cd := (.seq (.reg [⟨(some 2), none, .mv, [.c (.int .u32 0)]⟩]) (.seq (.reg [⟨(some 3), none, .mv, [.c (.int .u32 4294967295)]⟩]) (.seq (.seq (.reg [⟨(some 6), none, .mv, [.t 0]⟩, ⟨(some 7), none, .len, [.t 6]⟩, ⟨(some 8), none, .mv, [.c (.int .i64 0)]⟩]) (.blk 0 wb_sum_CRC_0 (.loop wl_sum_CRC_0 c_sum_CRC_l0))) c_sum_CRC_k0)))
theorem comp_sum_CRC : compF Try.prog (mset [] [] []) (cset [] [] []) (wset [(0, wl_sum_CRC_0, wb_sum_CRC_0)] []) Try.f16 = some c_sum_CRC := by kernel_rfl
theorem ok_sum_CRC : fnOk Try.prog F_sum_CRC = true := by kernel_rfl
theorem calls_sum_CRC {args : List AV} {r : AV} (h : RunsX Try.prog 0 (Gives [.t 2] r) [.c c_sum_CRC] (args ++ List.replicate (18 - args.length) (.tup [])) [] zeroC) : PCalls Try.prog F_sum_CRC args r :=
  pcallsF Try.checked.mixed Try.func16 ok_sum_CRC comp_sum_CRC rfl (rs := [.t 2]) (by kernel_rfl) h
theorem hcalls_sum_CRC {args : List AV} {Hin Hout : Heap} {nx nx2 : Ctr} {r : AV} (φ : Nat) (ks : List (Nat × Nat)) (h : RunsX Try.prog φ (GivesH ks [.t 2] r Hout nx2) [.c c_sum_CRC] (args ++ List.replicate (18 - args.length) (.tup [])) Hin nx) : HCalls Try.prog F_sum_CRC args Hin nx r Hout nx2 :=
  hcallsF Try.checked.mixed Try.func16 ok_sum_CRC comp_sum_CRC rfl (rs := [.t 2]) (by kernel_rfl) φ ks h

/-- pedlar/pedlarref01.CRC: parameters [22], results [.t 2], calls  -/
def wl_ref01_CRC_2 : Mk := ⟨[false, true, true, false, false, true, true, true, false, false, true, true, false, true, true, true, true, true, true, true, true, true, true, true, true, true, true, true, true, true, true, true, true, true, true, true, true, true], []⟩
abbrev s_ref01_CRC_2 (t0 t3 t4 t8 t9 t12 : AV) : List AV := [t0, .any, .any, t3, t4, .any, .any, .any, t8, t9, .any, .any, t12, .any, .any, .any, .any, .any, .any, .any, .any, .any, .any, .any, .any, .any, .any, .any, .any, .any, .any, .any, .any, .any, .any, .any, .any, .any]
def c_ref01_CRC_l2 : Cd := (.seq (.reg [⟨(some 13), none, (.bin .lss), [.t 12, .c (.int .i64 8)]⟩]) (.seq (.cond (.t 13) .skip (.exit 2)) (.seq (.blk 3 [] (.seq (.reg [⟨(some 14), none, .mv, [.t 12]⟩, ⟨(some 5), none, .mv, [.t 14]⟩]) (.seq (.reg [⟨(some 15), none, .mv, [.t 3]⟩, ⟨(some 16), none, (.bin .rem), [.t 15, .c (.int .u64 2)]⟩, ⟨(some 17), none, .mv, [.t 0]⟩, ⟨(some 18), none, .mv, [.t 4]⟩, ⟨(some 19), none, (.ixS 1), [.t 17, .t 18]⟩, ⟨(some 20), none, .ld1, [.t 19]⟩, ⟨(some 21), none, .mv, [.t 5]⟩, ⟨(some 22), none, (.conv .u64), [.t 21]⟩, ⟨(some 23), none, (.bin .shr), [.t 20, .t 22]⟩, ⟨(some 24), none, (.bin .and), [.t 23, .c (.int .u8 1)]⟩, ⟨(some 25), none, (.conv .u64), [.t 24]⟩, ⟨(some 26), none, (.bin .xor), [.t 16, .t 25]⟩, ⟨(some 6), none, .mv, [.t 26]⟩]) (.seq (.reg [⟨(some 27), none, .mv, [.t 3]⟩, ⟨(some 28), none, (.bin .quo), [.t 27, .c (.int .u64 2)]⟩, ⟨(some 3), none, .mv, [.t 28]⟩]) (.seq (.reg [⟨(some 29), none, .mv, [.t 6]⟩, ⟨(some 30), none, (.bin .eql), [.t 29, .c (.int .u64 1)]⟩]) (.cond (.t 30) (.reg [⟨(some 31), none, .mv, [.t 3]⟩, ⟨(some 32), none, (.bin .xor), [.t 31, .c (.int .u64 2197175160)]⟩, ⟨(some 3), none, .mv, [.t 32]⟩]) .skip)))))) (.reg [⟨(some 33), none, (.bin .add), [.t 12, .c (.int .i64 1)]⟩, ⟨(some 12), none, .mv, [.t 33]⟩]))))
def wb_ref01_CRC_2 : List Bool := [false, true, true, false, true, true, true, true, false, false, true, true, true, true, true, true, true, true, true, true, true, true, true, true, true, true, true, true, true, true, true, true, true, true, true, true, true, true]
abbrev e_ref01_CRC_2 (t0 t3 t8 t9 : AV) : List AV := [t0, .any, .any, t3, .any, .any, .any, .any, t8, t9, .any, .any, .any, .any, .any, .any, .any, .any, .any, .any, .any, .any, .any, .any, .any, .any, .any, .any, .any, .any, .any, .any, .any, .any, .any, .any, .any, .any]
abbrev i_ref01_CRC_2 : List It := [.lp wl_ref01_CRC_2 c_ref01_CRC_l2, .blk 2 wb_ref01_CRC_2]
def wb_ref01_CRC_1 : List Bool := [false, true, true, false, true, true, true, true, false, false, true, true, true, true, true, true, true, true, true, true, true, true, true, true, true, true, true, true, true, true, true, true, true, true, true, true, true, true]
abbrev e_ref01_CRC_1 (t0 t3 t8 t9 : AV) : List AV := [t0, .any, .any, t3, .any, .any, .any, .any, t8, t9, .any, .any, .any, .any, .any, .any, .any, .any, .any, .any, .any, .any, .any, .any, .any, .any, .any, .any, .any, .any, .any, .any, .any, .any, .any, .any, .any, .any]
def c_ref01_CRC_k0 : Cd := (.reg [⟨(some 34), none, (.bin .add), [.t 9, .c (.int .i64 1)]⟩, ⟨(some 9), none, .mv, [.t 34]⟩])
def wl_ref01_CRC_0 : Mk := ⟨[false, true, true, false, true, true, true, true, false, false, true, true, true, true, true, true, true, true, true, true, true, true, true, true, true, true, true, true, true, true, true, true, true, true, true, true, true, true], []⟩
abbrev s_ref01_CRC_0 (t0 t3 t8 t9 : AV) : List AV := [t0, .any, .any, t3, .any, .any, .any, .any, t8, t9, .any, .any, .any, .any, .any, .any, .any, .any, .any, .any, .any, .any, .any, .any, .any, .any, .any, .any, .any, .any, .any, .any, .any, .any, .any, .any, .any, .any]
def c_ref01_CRC_l0 : Cd := (.seq (.reg [⟨(some 10), none, (.bin .lss), [.t 9, .t 8]⟩]) (.seq (.cond (.t 10) .skip (.exit 0)) (.seq (.blk 1 wb_ref01_CRC_1 (.seq (.reg [⟨(some 11), none, .mv, [.t 9]⟩, ⟨(some 4), none, .mv, [.t 11]⟩]) (.seq (.reg [⟨(some 12), none, .mv, [.c (.int .i64 0)]⟩]) (.blk 2 wb_ref01_CRC_2 (.loop wl_ref01_CRC_2 c_ref01_CRC_l2))))) c_ref01_CRC_k0)))
def wb_ref01_CRC_0 : List Bool := [true, true, true, false, true, true, true, true, true, true, true, true, true, true, true, true, true, true, true, true, true, true, true, true, true, true, true, true, true, true, true, true, true, true, true, true, true, true]
abbrev e_ref01_CRC_0 (t3 : AV) : List AV := [.any, .any, .any, t3, .any, .any, .any, .any, .any, .any, .any, .any, .any, .any, .any, .any, .any, .any, .any, .any, .any, .any, .any, .any, .any, .any, .any, .any, .any, .any, .any, .any, .any, .any, .any, .any, .any, .any]
abbrev i_ref01_CRC_0 : List It := [.lp wl_ref01_CRC_0 c_ref01_CRC_l0, .blk 0 wb_ref01_CRC_0]
def c_ref01_CRC_k1 : Cd := (.seq (.reg [⟨(some 35), none, .mv, [.t 3]⟩, ⟨(some 36), none, (.bin .xor), [.t 35, .c (.int .u64 4294967295)]⟩, ⟨(some 37), none, (.conv .u32), [.t 36]⟩, ⟨(some 2), none, .mv, [.t 37]⟩]) .ret)
def c_ref01_CRC : Cd := (.seq (.reg [⟨(some 2), none, .mv, [.c (.int .u32 0)]⟩]) (.seq (.reg [⟨(some 3), none, .mv, [.c (.int .u64 4294967295)]⟩]) (.seq (.seq (.reg [⟨(some 7), none, .mv, [.t 0]⟩, ⟨(some 8), none, .len, [.t 7]⟩, ⟨(some 9), none, .mv, [.c (.int .i64 0)]⟩]) (.blk 0 wb_ref01_CRC_0 (.loop wl_ref01_CRC_0 c_ref01_CRC_l0))) c_ref01_CRC_k1)))
theorem comp_ref01_CRC : compF Try.prog (mset [] [] []) (cset [] [] []) (wset [(2, wl_ref01_CRC_2, wb_ref01_CRC_2), (1, ⟨[], []⟩, wb_ref01_CRC_1), (0, wl_ref01_CRC_0, wb_ref01_CRC_0)] []) Try.f17 = some c_ref01_CRC := by kernel_rfl
theorem ok_ref01_CRC : fnOk Try.prog F_ref01_CRC = true := by kernel_rfl
theorem calls_ref01_CRC {args : List AV} {r : AV} (h : RunsX Try.prog 0 (Gives [.t 2] r) [.c c_ref01_CRC] (args ++ List.replicate (38 - args.length) (.tup [])) [] zeroC) : PCalls Try.prog F_ref01_CRC args r :=
  pcallsF Try.checked.mixed Try.func17 ok_ref01_CRC comp_ref01_CRC rfl (rs := [.t 2]) (by kernel_rfl) h
theorem hcalls_ref01_CRC {args : List AV} {Hin Hout : Heap} {nx nx2 : Ctr} {r : AV} (φ : Nat) (ks : List (Nat × Nat)) (h : RunsX Try.prog φ (GivesH ks [.t 2] r Hout nx2) [.c c_ref01_CRC] (args ++ List.replicate (38 - args.length) (.tup [])) Hin nx) : HCalls Try.prog F_ref01_CRC args Hin nx r Hout nx2 :=
  hcallsF Try.checked.mixed Try.func17 ok_ref01_CRC comp_ref01_CRC rfl (rs := [.t 2]) (by kernel_rfl) φ ks h

def tab_CdSum : List (Nat × Cd × Nat × List RS) := [(F_sum_add, c_sum_add, 22, [.t 4]), (F_sum_CRC, c_sum_CRC, 18, [.t 2]), (F_ref01_CRC, c_ref01_CRC, 38, [.t 2])]
theorem tok_CdSum : TabOk Try.prog (tabOf tab_CdSum) := tab_cons calls_sum_add hcalls_sum_add (tab_cons calls_sum_CRC hcalls_sum_CRC (tab_cons calls_ref01_CRC hcalls_ref01_CRC (tab_nil)))
end Go.Proofs.Ytmokhopjnjecbaa
