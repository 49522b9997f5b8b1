/- The functions' bodies, compiled; printed by a program of mine (gen.py); that they are is checked here. -/
import Derived.Test.YtmokhopjnjecbabM2
import Derived.Test.YtmokhopjnjecbabRows
import Derived.Eval
import Derived.KernelRfl
import Derived.ChangeKeysEq
import Derived.Attr
namespace Go.Proofs.Ytmokhopjnjecbab
open Go.Ev
set_option maxRecDepth 100000

/-- pedlar/pedlarref01.Wide: parameters [188, 3], results [.t 4], calls  -/
def wl_ref01_Wide_0 : Mk := ⟨[false, true, true, true, true, false, false, true, true, true, true, true, true, true, true, true, true, true, true, true, true, true, true, true], []⟩
abbrev s_ref01_Wide_0 (t0 t5 t6 : AV) : List AV := [t0, .any, .any, .any, .any, t5, t6, .any, .any, .any, .any, .any, .any, .any, .any, .any, .any, .any, .any, .any, .any, .any, .any, .any]
def c_ref01_Wide_l0 : Cd := (.seq (.seq (.reg [⟨(some 11), none, .mv, [.t 6]⟩, ⟨(some 12), none, (.bin .geq), [.t 11, .c (.int .i64 0)]⟩]) (.cond (.t 12) .skip (.exit 0))) (.seq (.blk 1 [] (.seq (.reg [⟨(some 15), none, .mv, [.t 5]⟩, ⟨(some 16), none, .mv, [.t 6]⟩, ⟨(some 17), none, .mv, [.t 0]⟩, ⟨(some 18), none, (.bin .rem), [.t 17, .c (.int .u64 256)]⟩, ⟨(some 19), none, (.conv .u8), [.t 18]⟩, ⟨(some 20), none, (.ixS 1), [.t 15, .t 16]⟩, ⟨none, none, (.st 1), [.t 20, .t 19]⟩]) (.reg [⟨(some 21), none, .mv, [.t 0]⟩, ⟨(some 22), none, (.bin .quo), [.t 21, .c (.int .u64 256)]⟩, ⟨(some 0), none, .mv, [.t 22]⟩]))) (.reg [⟨(some 13), none, .mv, [.t 6]⟩, ⟨(some 14), none, (.bin .sub), [.t 13, .c (.int .i64 1)]⟩, ⟨(some 6), none, .mv, [.t 14]⟩])))
def wb_ref01_Wide_0 : List Bool := [true, true, true, true, true, false, true, true, true, true, true, true, true, true, true, true, true, true, true, true, true, true, true, true]
abbrev e_ref01_Wide_0 (t5 : AV) : List AV := [.any, .any, .any, .any, .any, t5, .any, .any, .any, .any, .any, .any, .any, .any, .any, .any, .any, .any, .any, .any, .any, .any, .any, .any]
abbrev i_ref01_Wide_0 : List It := [.lp wl_ref01_Wide_0 c_ref01_Wide_l0, .blk 0 wb_ref01_Wide_0]
def c_ref01_Wide_k0 : Cd := (.seq (.reg [⟨(some 23), none, .mv, [.t 5]⟩, ⟨(some 4), none, .mv, [.t 23]⟩]) .ret)
def c_ref01_Wide : Cd := (.seq (.reg [⟨(some 4), none, .mv, [.c .nils]⟩]) (.seq (.reg [⟨(some 7), none, .mv, [.t 1]⟩, ⟨(some 8), none, (.mk (.int .u8 0) 1 8), [.t 7]⟩, ⟨(some 5), none, .mv, [.t 8]⟩]) (.seq (.seq (.reg [⟨(some 9), none, .mv, [.t 1]⟩, ⟨(some 10), none, (.bin .sub), [.t 9, .c (.int .i64 1)]⟩, ⟨(some 6), none, .mv, [.t 10]⟩]) (.blk 0 wb_ref01_Wide_0 (.loop wl_ref01_Wide_0 c_ref01_Wide_l0))) c_ref01_Wide_k0)))
theorem comp_ref01_Wide : compF Try.prog (mset [] [] []) (cset [] [] []) (wset [(0, wl_ref01_Wide_0, wb_ref01_Wide_0)] []) Try.f159 = some c_ref01_Wide := by kernel_rfl
theorem ok_ref01_Wide : fnOk Try.prog F_ref01_Wide = true := by kernel_rfl
theorem calls_ref01_Wide {args : List AV} {r : AV} (h : RunsX Try.prog 0 (Gives [.t 4] r) [.c c_ref01_Wide] (args ++ List.replicate (24 - args.length) (.tup [])) [] zeroC) : PCalls Try.prog F_ref01_Wide args r :=
  pcallsF Try.checked.mixed Try.func159 ok_ref01_Wide comp_ref01_Wide rfl (rs := [.t 4]) (by kernel_rfl) h
theorem hcalls_ref01_Wide {args : List AV} {Hin Hout : Heap} {nx nx2 : Ctr} {r : AV} (φ : Nat) (ks : List (Nat × Nat)) (h : RunsX Try.prog φ (GivesH ks [.t 4] r Hout nx2) [.c c_ref01_Wide] (args ++ List.replicate (24 - args.length) (.tup [])) Hin nx) : HCalls Try.prog F_ref01_Wide args Hin nx r Hout nx2 :=
  hcallsF Try.checked.mixed Try.func159 ok_ref01_Wide comp_ref01_Wide rfl (rs := [.t 4]) (by kernel_rfl) φ ks h

/-- pedlar/pedlarref01.Mix: parameters [152, 152], results [.t 4], calls ref01_Wide, ref01_CRC -/
def c_ref01_Mix : Cd := (.seq (.reg [⟨(some 4), none, .mv, [.c (.int .u32 0)]⟩]) (.seq (.reg [⟨(some 5), none, .mv, [.t 0]⟩, ⟨(some 6), none, (.conv .u64), [.t 5]⟩, ⟨(some 7), none, (.call F_ref01_Wide 2), [.t 6, .c (.int .i64 4)]⟩, ⟨(some 8), none, .mv, [.t 1]⟩, ⟨(some 9), none, (.conv .u64), [.t 8]⟩, ⟨(some 10), none, (.call F_ref01_Wide 2), [.t 9, .c (.int .i64 4)]⟩, ⟨(some 11), none, (.app 1 1 11), [.t 7, .t 10]⟩, ⟨(some 12), none, (.call F_ref01_CRC 0), [.t 11]⟩, ⟨(some 4), none, .mv, [.t 12]⟩]) .ret))
theorem comp_ref01_Mix : compF Try.prog (mset [] [] []) (cset [] [F_ref01_Wide] []) (wset [] []) Try.f121 = some c_ref01_Mix := by kernel_rfl
theorem ok_ref01_Mix : fnOk Try.prog F_ref01_Mix = true := by kernel_rfl
theorem calls_ref01_Mix {args : List AV} {r : AV} (h : RunsX Try.prog 0 (Gives [.t 4] r) [.c c_ref01_Mix] (args ++ List.replicate (13 - args.length) (.tup [])) [] zeroC) : PCalls Try.prog F_ref01_Mix args r :=
  pcallsF Try.checked.mixed Try.func121 ok_ref01_Mix comp_ref01_Mix rfl (rs := [.t 4]) (by kernel_rfl) h
theorem hcalls_ref01_Mix {args : List AV} {Hin Hout : Heap} {nx nx2 : Ctr} {r : AV} (φ : Nat) (ks : List (Nat × Nat)) (h : RunsX Try.prog φ (GivesH ks [.t 4] r Hout nx2) [.c c_ref01_Mix] (args ++ List.replicate (13 - args.length) (.tup [])) Hin nx) : HCalls Try.prog F_ref01_Mix args Hin nx r Hout nx2 :=
  hcallsF Try.checked.mixed Try.func121 ok_ref01_Mix comp_ref01_Mix rfl (rs := [.t 4]) (by kernel_rfl) φ ks h

/-- pedlar/sum.Mix: parameters [152, 152], results [.t 4], calls sum_add -/
def wl_sum_Mix_2 : Mk := ⟨[true, true, true, true, true, false, true, false, false, true, true, false, false, true, true, true, true, true, true, true, true, true, true, true, true, true, true, true], []⟩
abbrev s_sum_Mix_2 (t5 t7 t8 t11 t12 : AV) : List AV := [.any, .any, .any, .any, .any, t5, .any, t7, t8, .any, .any, t11, t12, .any, .any, .any, .any, .any, .any, .any, .any, .any, .any, .any, .any, .any, .any, .any]
def c_sum_Mix_l2 : Cd := (.seq (.seq (.reg [⟨(some 15), none, .mv, [.t 8]⟩, ⟨(some 16), none, (.bin .geq), [.t 15, .c (.int .i64 0)]⟩]) (.cond (.t 16) .skip (.exit 2))) (.seq (.blk 3 [] (.reg [⟨(some 19), none, .mv, [.t 5]⟩, ⟨(some 20), none, .mv, [.t 7]⟩, ⟨(some 21), none, .mv, [.t 8]⟩, ⟨(some 22), none, (.bin .shr), [.t 20, .t 21]⟩, ⟨(some 23), none, (.conv .u8), [.t 22]⟩, ⟨(some 24), none, (.call F_sum_add 0), [.t 19, .t 23]⟩, ⟨(some 5), none, .mv, [.t 24]⟩])) (.reg [⟨(some 17), none, .mv, [.t 8]⟩, ⟨(some 18), none, (.bin .sub), [.t 17, .c (.int .i64 8)]⟩, ⟨(some 8), none, .mv, [.t 18]⟩])))
def wb_sum_Mix_2 : List Bool := [true, true, true, true, true, false, true, true, true, true, true, false, false, true, true, true, true, true, true, true, true, true, true, true, true, true, true, true]
abbrev e_sum_Mix_2 (t5 t11 t12 : AV) : List AV := [.any, .any, .any, .any, .any, t5, .any, .any, .any, .any, .any, t11, t12, .any, .any, .any, .any, .any, .any, .any, .any, .any, .any, .any, .any, .any, .any, .any]
abbrev i_sum_Mix_2 : List It := [.lp wl_sum_Mix_2 c_sum_Mix_l2, .blk 2 wb_sum_Mix_2]
def wb_sum_Mix_1 : List Bool := [true, true, true, true, true, false, true, true, true, true, true, false, false, true, true, true, true, true, true, true, true, true, true, true, true, true, true, true]
abbrev e_sum_Mix_1 (t5 t11 t12 : AV) : List AV := [.any, .any, .any, .any, .any, t5, .any, .any, .any, .any, .any, t11, t12, .any, .any, .any, .any, .any, .any, .any, .any, .any, .any, .any, .any, .any, .any, .any]
def c_sum_Mix_k0 : Cd := (.reg [⟨(some 25), none, (.bin .add), [.t 12, .c (.int .i64 1)]⟩, ⟨(some 12), none, .mv, [.t 25]⟩])
def wl_sum_Mix_0 : Mk := ⟨[true, true, true, true, true, false, true, true, true, true, true, false, false, true, true, true, true, true, true, true, true, true, true, true, true, true, true, true], []⟩
abbrev s_sum_Mix_0 (t5 t11 t12 : AV) : List AV := [.any, .any, .any, .any, .any, t5, .any, .any, .any, .any, .any, t11, t12, .any, .any, .any, .any, .any, .any, .any, .any, .any, .any, .any, .any, .any, .any, .any]
def c_sum_Mix_l0 : Cd := (.seq (.reg [⟨(some 13), none, (.bin .lss), [.t 12, .c (.int .i64 2)]⟩]) (.seq (.cond (.t 13) .skip (.exit 0)) (.seq (.blk 1 wb_sum_Mix_1 (.seq (.reg [⟨(some 14), none, (.ixA1 2), [.t 11, .t 12]⟩, ⟨(some 7), none, .mv, [.t 14]⟩]) (.seq (.reg [⟨(some 8), none, .mv, [.c (.int .i64 24)]⟩]) (.blk 2 wb_sum_Mix_2 (.loop wl_sum_Mix_2 c_sum_Mix_l2))))) c_sum_Mix_k0)))
def wb_sum_Mix_0 : List Bool := [true, true, true, true, true, false, true, true, true, true, true, true, true, true, true, true, true, true, true, true, true, true, true, true, true, true, true, true]
abbrev e_sum_Mix_0 (t5 : AV) : List AV := [.any, .any, .any, .any, .any, t5, .any, .any, .any, .any, .any, .any, .any, .any, .any, .any, .any, .any, .any, .any, .any, .any, .any, .any, .any, .any, .any, .any]
abbrev i_sum_Mix_0 : List It := [.lp wl_sum_Mix_0 c_sum_Mix_l0, .blk 0 wb_sum_Mix_0]
def c_sum_Mix_k1 : Cd := (.seq (.reg [⟨(some 26), none, .mv, [.t 5]⟩, ⟨(some 27), none, (.bin .xor), [.t 26, .c (.int .u32 4294967295)]⟩, ⟨(some 4), none, .mv, [.t 27]⟩]) .ret)
def c_sum_Mix : Cd := (.seq (.reg [⟨(some 4), none, .mv, [.c (.int .u32 0)]⟩]) (.seq (.reg [⟨(some 5), none, .mv, [.c (.int .u32 4294967295)]⟩]) (.seq (.seq (.reg [⟨(some 9), none, .mv, [.t 0]⟩, ⟨(some 10), none, .mv, [.t 1]⟩, ⟨(some 11), none, (.bld [(.int .u32 0), (.int .u32 0)] [(0, 1), (1, 1)]), [.t 9, .t 10]⟩, ⟨(some 12), none, .mv, [.c (.int .i64 0)]⟩]) (.blk 0 wb_sum_Mix_0 (.loop wl_sum_Mix_0 c_sum_Mix_l0))) c_sum_Mix_k1)))
theorem comp_sum_Mix : compF Try.prog (mset [] [] []) (cset [] [] []) (wset [(2, wl_sum_Mix_2, wb_sum_Mix_2), (1, ⟨[], []⟩, wb_sum_Mix_1), (0, wl_sum_Mix_0, wb_sum_Mix_0)] []) Try.f126 = some c_sum_Mix := by kernel_rfl
theorem ok_sum_Mix : fnOk Try.prog F_sum_Mix = true := by kernel_rfl
theorem calls_sum_Mix {args : List AV} {r : AV} (h : RunsX Try.prog 0 (Gives [.t 4] r) [.c c_sum_Mix] (args ++ List.replicate (28 - args.length) (.tup [])) [] zeroC) : PCalls Try.prog F_sum_Mix args r :=
  pcallsF Try.checked.mixed Try.func126 ok_sum_Mix comp_sum_Mix rfl (rs := [.t 4]) (by kernel_rfl) h
theorem hcalls_sum_Mix {args : List AV} {Hin Hout : Heap} {nx nx2 : Ctr} {r : AV} (φ : Nat) (ks : List (Nat × Nat)) (h : RunsX Try.prog φ (GivesH ks [.t 4] r Hout nx2) [.c c_sum_Mix] (args ++ List.replicate (28 - args.length) (.tup [])) Hin nx) : HCalls Try.prog F_sum_Mix args Hin nx r Hout nx2 :=
  hcallsF Try.checked.mixed Try.func126 ok_sum_Mix comp_sum_Mix rfl (rs := [.t 4]) (by kernel_rfl) φ ks h

/-- cmp.isNaN[uint32]: parameters [152], results [.t 2], calls  -/
def c_cmp_isNaN_uint32 : Cd := (.seq (.reg [⟨(some 2), none, .mv, [.c (.bool false)]⟩]) (.seq (.reg [⟨(some 3), none, .mv, [.t 0]⟩, ⟨(some 4), none, .mv, [.t 0]⟩, ⟨(some 5), none, (.bin .neq), [.t 3, .t 4]⟩, ⟨(some 2), none, .mv, [.t 5]⟩]) .ret))
theorem comp_cmp_isNaN_uint32 : compF Try.prog (mset [] [] []) (cset [] [] []) (wset [] []) Try.f162 = some c_cmp_isNaN_uint32 := by kernel_rfl
theorem ok_cmp_isNaN_uint32 : fnOk Try.prog F_cmp_isNaN_uint32 = true := by kernel_rfl
theorem calls_cmp_isNaN_uint32 {args : List AV} {r : AV} (h : RunsX Try.prog 0 (Gives [.t 2] r) [.c c_cmp_isNaN_uint32] (args ++ List.replicate (6 - args.length) (.tup [])) [] zeroC) : PCalls Try.prog F_cmp_isNaN_uint32 args r :=
  pcallsF Try.checked.mixed Try.func162 ok_cmp_isNaN_uint32 comp_cmp_isNaN_uint32 rfl (rs := [.t 2]) (by kernel_rfl) h
theorem hcalls_cmp_isNaN_uint32 {args : List AV} {Hin Hout : Heap} {nx nx2 : Ctr} {r : AV} (φ : Nat) (ks : List (Nat × Nat)) (h : RunsX Try.prog φ (GivesH ks [.t 2] r Hout nx2) [.c c_cmp_isNaN_uint32] (args ++ List.replicate (6 - args.length) (.tup [])) Hin nx) : HCalls Try.prog F_cmp_isNaN_uint32 args Hin nx r Hout nx2 :=
  hcallsF Try.checked.mixed Try.func162 ok_cmp_isNaN_uint32 comp_cmp_isNaN_uint32 rfl (rs := [.t 2]) (by kernel_rfl) φ ks h

/-- cmp.Compare[uint32]: parameters [152, 152], results [.t 4], calls cmp_isNaN_uint32 -/
def c_cmp_Compare_uint32 : Cd := (.seq (.reg [⟨(some 4), none, .mv, [.c (.int .i64 0)]⟩]) (.seq (.reg [⟨(some 7), none, .mv, [.t 0]⟩, ⟨(some 8), none, (.call F_cmp_isNaN_uint32 0), [.t 7]⟩, ⟨(some 5), none, .mv, [.t 8]⟩]) (.seq (.reg [⟨(some 9), none, .mv, [.t 1]⟩, ⟨(some 10), none, (.call F_cmp_isNaN_uint32 0), [.t 9]⟩, ⟨(some 6), none, .mv, [.t 10]⟩]) (.seq (.seq (.reg [⟨(some 11), none, .mv, [.t 5]⟩]) (.cond (.t 11) (.seq (.seq (.reg [⟨(some 12), none, .mv, [.t 6]⟩]) (.cond (.t 12) (.seq (.reg [⟨(some 4), none, .mv, [.c (.int .i64 0)]⟩]) .ret) .skip)) (.seq (.reg [⟨(some 4), none, .mv, [.c (.int .i64 (-1))]⟩]) .ret)) .skip)) (.seq (.seq (.reg [⟨(some 13), none, .mv, [.t 6]⟩]) (.cond (.t 13) (.seq (.reg [⟨(some 4), none, .mv, [.c (.int .i64 1)]⟩]) .ret) .skip)) (.seq (.seq (.reg [⟨(some 14), none, .mv, [.t 0]⟩, ⟨(some 15), none, .mv, [.t 1]⟩, ⟨(some 16), none, (.bin .lss), [.t 14, .t 15]⟩]) (.cond (.t 16) (.seq (.reg [⟨(some 4), none, .mv, [.c (.int .i64 (-1))]⟩]) .ret) .skip)) (.seq (.seq (.reg [⟨(some 17), none, .mv, [.t 0]⟩, ⟨(some 18), none, .mv, [.t 1]⟩, ⟨(some 19), none, (.bin .gtr), [.t 17, .t 18]⟩]) (.cond (.t 19) (.seq (.reg [⟨(some 4), none, .mv, [.c (.int .i64 1)]⟩]) .ret) .skip)) (.seq (.reg [⟨(some 4), none, .mv, [.c (.int .i64 0)]⟩]) .ret))))))))
theorem comp_cmp_Compare_uint32 : compF Try.prog (mset [] [] []) (cset [] [] []) (wset [] []) Try.f125 = some c_cmp_Compare_uint32 := by kernel_rfl
theorem ok_cmp_Compare_uint32 : fnOk Try.prog F_cmp_Compare_uint32 = true := by kernel_rfl
theorem calls_cmp_Compare_uint32 {args : List AV} {r : AV} (h : RunsX Try.prog 0 (Gives [.t 4] r) [.c c_cmp_Compare_uint32] (args ++ List.replicate (20 - args.length) (.tup [])) [] zeroC) : PCalls Try.prog F_cmp_Compare_uint32 args r :=
  pcallsF Try.checked.mixed Try.func125 ok_cmp_Compare_uint32 comp_cmp_Compare_uint32 rfl (rs := [.t 4]) (by kernel_rfl) h
theorem hcalls_cmp_Compare_uint32 {args : List AV} {Hin Hout : Heap} {nx nx2 : Ctr} {r : AV} (φ : Nat) (ks : List (Nat × Nat)) (h : RunsX Try.prog φ (GivesH ks [.t 4] r Hout nx2) [.c c_cmp_Compare_uint32] (args ++ List.replicate (20 - args.length) (.tup [])) Hin nx) : HCalls Try.prog F_cmp_Compare_uint32 args Hin nx r Hout nx2 :=
  hcallsF Try.checked.mixed Try.func125 ok_cmp_Compare_uint32 comp_cmp_Compare_uint32 rfl (rs := [.t 4]) (by kernel_rfl) φ ks h

/-- pedlar/ring.List$1: parameters [3, 3], results [.t 5], calls sum_Mix, cmp_Compare_uint32 -/
def c_ring_List_1 : Cd := (.seq (.reg [⟨(some 5), none, .mv, [.c (.int .i64 0)]⟩]) (.seq (.reg [⟨(some 6), none, .ld1, [.t 2]⟩, ⟨(some 7), none, .mv, [.t 0]⟩, ⟨(some 8), none, (.conv .u32), [.t 7]⟩, ⟨(some 9), none, (.call F_sum_Mix 0), [.t 6, .t 8]⟩, ⟨(some 10), none, .ld1, [.t 2]⟩, ⟨(some 11), none, .mv, [.t 1]⟩, ⟨(some 12), none, (.conv .u32), [.t 11]⟩, ⟨(some 13), none, (.call F_sum_Mix 0), [.t 10, .t 12]⟩, ⟨(some 14), none, (.call F_cmp_Compare_uint32 0), [.t 9, .t 13]⟩, ⟨(some 5), none, .mv, [.t 14]⟩]) .ret))
theorem comp_ring_List_1 : compF Try.prog (mset [] [] []) (cset [] [] []) (wset [] []) Try.f124 = some c_ring_List_1 := by kernel_rfl
theorem ok_ring_List_1 : fnOk Try.prog F_ring_List_1 = true := by kernel_rfl
theorem calls_ring_List_1 {args : List AV} {r : AV} (h : RunsX Try.prog 0 (Gives [.t 5] r) [.c c_ring_List_1] (args ++ List.replicate (15 - args.length) (.tup [])) [] zeroC) : PCalls Try.prog F_ring_List_1 args r :=
  pcallsF Try.checked.mixed Try.func124 ok_ring_List_1 comp_ring_List_1 rfl (rs := [.t 5]) (by kernel_rfl) h
theorem hcalls_ring_List_1 {args : List AV} {Hin Hout : Heap} {nx nx2 : Ctr} {r : AV} (φ : Nat) (ks : List (Nat × Nat)) (h : RunsX Try.prog φ (GivesH ks [.t 5] r Hout nx2) [.c c_ring_List_1] (args ++ List.replicate (15 - args.length) (.tup [])) Hin nx) : HCalls Try.prog F_ring_List_1 args Hin nx r Hout nx2 :=
  hcallsF Try.checked.mixed Try.func124 ok_ring_List_1 comp_ring_List_1 rfl (rs := [.t 5]) (by kernel_rfl) φ ks h

/-- slices.insertionSortCmpFunc[int]: parameters [87, 3, 3, 157], results [], calls  -/
def wl_slices_insertionSortCmpFunc_int_2 : Mk := ⟨[false, false, false, false, true, true, true, true, false, false, true, true, true, true, true, true, true, true, true, true, true, true, true, true, true, true, true, true, true, true, true, true, true, true, true, true, true, true, true, true, true, true, true, true, true, true, true, true, true, true, true, true, true], []⟩
abbrev s_slices_insertionSortCmpFunc_int_2 (t0 t1 t2 t3 t8 t9 : AV) : List AV := [t0, t1, t2, t3, .any, .any, .any, .any, t8, t9, .any, .any, .any, .any, .any, .any, .any, .any, .any, .any, .any, .any, .any, .any, .any, .any, .any, .any, .any, .any, .any, .any, .any, .any, .any, .any, .any, .any, .any, .any, .any, .any, .any, .any, .any, .any, .any, .any, .any, .any, .any, .any, .any]
def c_slices_insertionSortCmpFunc_int_l2 : Cd := (.seq (.seq (.reg [⟨(some 18), none, .mv, [.t 9]⟩, ⟨(some 19), none, .mv, [.t 1]⟩, ⟨(some 20), none, (.bin .gtr), [.t 18, .t 19]⟩, ⟨(some 21), none, .mv, [.t 20]⟩, ⟨(some 22), (some (21, true)), .mv, [.t 3]⟩, ⟨(some 23), (some (21, true)), .mv, [.t 0]⟩, ⟨(some 24), (some (21, true)), .mv, [.t 9]⟩, ⟨(some 25), (some (21, true)), (.ixS 1), [.t 23, .t 24]⟩, ⟨(some 26), (some (21, true)), .ld1, [.t 25]⟩, ⟨(some 27), (some (21, true)), .mv, [.t 0]⟩, ⟨(some 28), (some (21, true)), .mv, [.t 9]⟩, ⟨(some 29), (some (21, true)), (.bin .sub), [.t 28, .c (.int .i64 1)]⟩, ⟨(some 30), (some (21, true)), (.ixS 1), [.t 27, .t 29]⟩, ⟨(some 31), (some (21, true)), .ld1, [.t 30]⟩, ⟨(some 32), (some (21, true)), (.callv 0), [.t 22, .t 26, .t 31]⟩, ⟨(some 33), (some (21, true)), (.bin .lss), [.t 32, .c (.int .i64 0)]⟩, ⟨(some 34), none, .pick, [.t 21, .t 33, .c (.bool false)]⟩]) (.cond (.t 34) .skip (.exit 2))) (.seq (.blk 3 [] (.reg [⟨(some 37), none, .mv, [.t 0]⟩, ⟨(some 38), none, .mv, [.t 9]⟩, ⟨(some 39), none, .mv, [.t 0]⟩, ⟨(some 40), none, .mv, [.t 9]⟩, ⟨(some 41), none, (.bin .sub), [.t 40, .c (.int .i64 1)]⟩, ⟨(some 42), none, .mv, [.t 0]⟩, ⟨(some 43), none, .mv, [.t 9]⟩, ⟨(some 44), none, (.bin .sub), [.t 43, .c (.int .i64 1)]⟩, ⟨(some 45), none, (.ixS 1), [.t 42, .t 44]⟩, ⟨(some 46), none, .ld1, [.t 45]⟩, ⟨(some 47), none, .mv, [.t 0]⟩, ⟨(some 48), none, .mv, [.t 9]⟩, ⟨(some 49), none, (.ixS 1), [.t 47, .t 48]⟩, ⟨(some 50), none, .ld1, [.t 49]⟩, ⟨(some 51), none, (.ixS 1), [.t 37, .t 38]⟩, ⟨none, none, (.st 1), [.t 51, .t 46]⟩, ⟨(some 52), none, (.ixS 1), [.t 39, .t 41]⟩, ⟨none, none, (.st 1), [.t 52, .t 50]⟩])) (.reg [⟨(some 35), none, .mv, [.t 9]⟩, ⟨(some 36), none, (.bin .sub), [.t 35, .c (.int .i64 1)]⟩, ⟨(some 9), none, .mv, [.t 36]⟩])))
def wb_slices_insertionSortCmpFunc_int_2 : List Bool := [false, false, false, false, true, true, true, true, false, true, true, true, true, true, true, true, true, true, true, true, true, true, true, true, true, true, true, true, true, true, true, true, true, true, true, true, true, true, true, true, true, true, true, true, true, true, true, true, true, true, true, true, true]
abbrev e_slices_insertionSortCmpFunc_int_2 (t0 t1 t2 t3 t8 : AV) : List AV := [t0, t1, t2, t3, .any, .any, .any, .any, t8, .any, .any, .any, .any, .any, .any, .any, .any, .any, .any, .any, .any, .any, .any, .any, .any, .any, .any, .any, .any, .any, .any, .any, .any, .any, .any, .any, .any, .any, .any, .any, .any, .any, .any, .any, .any, .any, .any, .any, .any, .any, .any, .any, .any]
abbrev i_slices_insertionSortCmpFunc_int_2 : List It := [.lp wl_slices_insertionSortCmpFunc_int_2 c_slices_insertionSortCmpFunc_int_l2, .blk 2 wb_slices_insertionSortCmpFunc_int_2]
def wb_slices_insertionSortCmpFunc_int_1 : List Bool := [false, false, false, false, true, true, true, true, false, true, true, true, true, true, true, true, true, true, true, true, true, true, true, true, true, true, true, true, true, true, true, true, true, true, true, true, true, true, true, true, true, true, true, true, true, true, true, true, true, true, true, true, true]
abbrev e_slices_insertionSortCmpFunc_int_1 (t0 t1 t2 t3 t8 : AV) : List AV := [t0, t1, t2, t3, .any, .any, .any, .any, t8, .any, .any, .any, .any, .any, .any, .any, .any, .any, .any, .any, .any, .any, .any, .any, .any, .any, .any, .any, .any, .any, .any, .any, .any, .any, .any, .any, .any, .any, .any, .any, .any, .any, .any, .any, .any, .any, .any, .any, .any, .any, .any, .any, .any]
def c_slices_insertionSortCmpFunc_int_k0 : Cd := (.reg [⟨(some 15), none, .mv, [.t 8]⟩, ⟨(some 16), none, (.bin .add), [.t 15, .c (.int .i64 1)]⟩, ⟨(some 8), none, .mv, [.t 16]⟩])
def wl_slices_insertionSortCmpFunc_int_0 : Mk := ⟨[false, false, false, false, true, true, true, true, false, true, true, true, true, true, true, true, true, true, true, true, true, true, true, true, true, true, true, true, true, true, true, true, true, true, true, true, true, true, true, true, true, true, true, true, true, true, true, true, true, true, true, true, true], []⟩
abbrev s_slices_insertionSortCmpFunc_int_0 (t0 t1 t2 t3 t8 : AV) : List AV := [t0, t1, t2, t3, .any, .any, .any, .any, t8, .any, .any, .any, .any, .any, .any, .any, .any, .any, .any, .any, .any, .any, .any, .any, .any, .any, .any, .any, .any, .any, .any, .any, .any, .any, .any, .any, .any, .any, .any, .any, .any, .any, .any, .any, .any, .any, .any, .any, .any, .any, .any, .any, .any]
def c_slices_insertionSortCmpFunc_int_l0 : Cd := (.seq (.seq (.reg [⟨(some 12), none, .mv, [.t 8]⟩, ⟨(some 13), none, .mv, [.t 2]⟩, ⟨(some 14), none, (.bin .lss), [.t 12, .t 13]⟩]) (.cond (.t 14) .skip (.exit 0))) (.seq (.blk 1 wb_slices_insertionSortCmpFunc_int_1 (.seq (.reg [⟨(some 17), none, .mv, [.t 8]⟩, ⟨(some 9), none, .mv, [.t 17]⟩]) (.blk 2 wb_slices_insertionSortCmpFunc_int_2 (.loop wl_slices_insertionSortCmpFunc_int_2 c_slices_insertionSortCmpFunc_int_l2)))) c_slices_insertionSortCmpFunc_int_k0))
def wb_slices_insertionSortCmpFunc_int_0 : List Bool := [true, true, true, true, true, true, true, true, true, true, true, true, true, true, true, true, true, true, true, true, true, true, true, true, true, true, true, true, true, true, true, true, true, true, true, true, true, true, true, true, true, true, true, true, true, true, true, true, true, true, true, true, true]
abbrev e_slices_insertionSortCmpFunc_int_0 : List AV := [.any, .any, .any, .any, .any, .any, .any, .any, .any, .any, .any, .any, .any, .any, .any, .any, .any, .any, .any, .any, .any, .any, .any, .any, .any, .any, .any, .any, .any, .any, .any, .any, .any, .any, .any, .any, .any, .any, .any, .any, .any, .any, .any, .any, .any, .any, .any, .any, .any, .any, .any, .any, .any]
abbrev i_slices_insertionSortCmpFunc_int_0 : List It := [.lp wl_slices_insertionSortCmpFunc_int_0 c_slices_insertionSortCmpFunc_int_l0, .blk 0 wb_slices_insertionSortCmpFunc_int_0]
def c_slices_insertionSortCmpFunc_int : Cd := (.seq (.reg [⟨(some 10), none, .mv, [.t 1]⟩, ⟨(some 11), none, (.bin .add), [.t 10, .c (.int .i64 1)]⟩, ⟨(some 8), none, .mv, [.t 11]⟩]) (.blk 0 wb_slices_insertionSortCmpFunc_int_0 (.loop wl_slices_insertionSortCmpFunc_int_0 c_slices_insertionSortCmpFunc_int_l0)))
theorem comp_slices_insertionSortCmpFunc_int : compF Try.prog (mset [] [] []) (cset [] [] []) (wset [(2, wl_slices_insertionSortCmpFunc_int_2, wb_slices_insertionSortCmpFunc_int_2), (1, ⟨[], []⟩, wb_slices_insertionSortCmpFunc_int_1), (0, wl_slices_insertionSortCmpFunc_int_0, wb_slices_insertionSortCmpFunc_int_0)] []) Try.f177 = some c_slices_insertionSortCmpFunc_int := by kernel_rfl
theorem ok_slices_insertionSortCmpFunc_int : fnOk Try.prog F_slices_insertionSortCmpFunc_int = true := by kernel_rfl
theorem calls_slices_insertionSortCmpFunc_int {args : List AV} {r : AV} (h : RunsX Try.prog 0 (Gives [] r) [.c c_slices_insertionSortCmpFunc_int] (args ++ List.replicate (53 - args.length) (.tup [])) [] zeroC) : PCalls Try.prog F_slices_insertionSortCmpFunc_int args r :=
  pcallsF Try.checked.mixed Try.func177 ok_slices_insertionSortCmpFunc_int comp_slices_insertionSortCmpFunc_int rfl (rs := []) (by kernel_rfl) h
theorem hcalls_slices_insertionSortCmpFunc_int {args : List AV} {Hin Hout : Heap} {nx nx2 : Ctr} {r : AV} (φ : Nat) (ks : List (Nat × Nat)) (h : RunsX Try.prog φ (GivesH ks [] r Hout nx2) [.c c_slices_insertionSortCmpFunc_int] (args ++ List.replicate (53 - args.length) (.tup [])) Hin nx) : HCalls Try.prog F_slices_insertionSortCmpFunc_int args Hin nx r Hout nx2 :=
  hcallsF Try.checked.mixed Try.func177 ok_slices_insertionSortCmpFunc_int comp_slices_insertionSortCmpFunc_int rfl (rs := []) (by kernel_rfl) φ ks h

/-- slices.stableCmpFunc[int]: parameters [87, 3, 157], results [], calls slices_insertionSortCmpFunc_int, slices_symMergeCmpFunc_int -/
def wl_slices_stableCmpFunc_int_0 : Mk := ⟨[false, false, false, true, true, true, false, false, false, true, true, true, true, true, true, true, true, true, true, true, true, true, true, true, true, true, true, true, true, true, true, true, true, true, true, true, true, true, true, true, true, true, true, true, true, true, true, true, true, true, true, true, true, true, true, true, true, true, true, true, true, true, true], []⟩
abbrev s_slices_stableCmpFunc_int_0 (t0 t1 t2 t6 t7 t8 : AV) : List AV := [t0, t1, t2, .any, .any, .any, t6, t7, t8, .any, .any, .any, .any, .any, .any, .any, .any, .any, .any, .any, .any, .any, .any, .any, .any, .any, .any, .any, .any, .any, .any, .any, .any, .any, .any, .any, .any, .any, .any, .any, .any, .any, .any, .any, .any, .any, .any, .any, .any, .any, .any, .any, .any, .any, .any, .any, .any, .any, .any, .any, .any, .any, .any]
def c_slices_stableCmpFunc_int_l0 : Cd := (.seq (.seq (.reg [⟨(some 11), none, .mv, [.t 8]⟩, ⟨(some 12), none, .mv, [.t 1]⟩, ⟨(some 13), none, (.bin .leq), [.t 11, .t 12]⟩]) (.cond (.t 13) .skip (.exit 0))) (.blk 1 [] (.seq (.reg [⟨(some 14), none, .mv, [.t 0]⟩, ⟨(some 15), none, .mv, [.t 7]⟩, ⟨(some 16), none, .mv, [.t 8]⟩, ⟨(some 17), none, .mv, [.t 2]⟩, ⟨(some 18), none, (.call F_slices_insertionSortCmpFunc_int 2), [.t 14, .t 15, .t 16, .t 17]⟩]) (.seq (.reg [⟨(some 19), none, .mv, [.t 8]⟩, ⟨(some 7), none, .mv, [.t 19]⟩]) (.reg [⟨(some 20), none, .mv, [.t 8]⟩, ⟨(some 21), none, .mv, [.t 6]⟩, ⟨(some 22), none, (.bin .add), [.t 20, .t 21]⟩, ⟨(some 8), none, .mv, [.t 22]⟩])))))
def wb_slices_stableCmpFunc_int_0 : List Bool := [false, false, false, true, true, true, false, false, true, true, true, true, true, true, true, true, true, true, true, true, true, true, true, true, true, true, true, true, true, true, true, true, true, true, true, true, true, true, true, true, true, true, true, true, true, true, true, true, true, true, true, true, true, true, true, true, true, true, true, true, true, true, true]
abbrev e_slices_stableCmpFunc_int_0 (t0 t1 t2 t6 t7 : AV) : List AV := [t0, t1, t2, .any, .any, .any, t6, t7, .any, .any, .any, .any, .any, .any, .any, .any, .any, .any, .any, .any, .any, .any, .any, .any, .any, .any, .any, .any, .any, .any, .any, .any, .any, .any, .any, .any, .any, .any, .any, .any, .any, .any, .any, .any, .any, .any, .any, .any, .any, .any, .any, .any, .any, .any, .any, .any, .any, .any, .any, .any, .any, .any, .any]
abbrev i_slices_stableCmpFunc_int_0 : List It := [.lp wl_slices_stableCmpFunc_int_0 c_slices_stableCmpFunc_int_l0, .blk 0 wb_slices_stableCmpFunc_int_0]
def wl_slices_stableCmpFunc_int_4 : Mk := ⟨[false, false, false, true, true, true, false, false, false, true, true, true, true, true, true, true, true, true, true, true, true, true, true, true, true, true, true, true, true, true, true, true, true, true, true, true, true, true, true, true, true, true, true, true, true, true, true, true, true, true, true, true, true, true, true, true, true, true, true, true, true, true, true], []⟩
abbrev s_slices_stableCmpFunc_int_4 (t0 t1 t2 t6 t7 t8 : AV) : List AV := [t0, t1, t2, .any, .any, .any, t6, t7, t8, .any, .any, .any, .any, .any, .any, .any, .any, .any, .any, .any, .any, .any, .any, .any, .any, .any, .any, .any, .any, .any, .any, .any, .any, .any, .any, .any, .any, .any, .any, .any, .any, .any, .any, .any, .any, .any, .any, .any, .any, .any, .any, .any, .any, .any, .any, .any, .any, .any, .any, .any, .any, .any, .any]
def c_slices_stableCmpFunc_int_l4 : Cd := (.seq (.seq (.reg [⟨(some 33), none, .mv, [.t 8]⟩, ⟨(some 34), none, .mv, [.t 1]⟩, ⟨(some 35), none, (.bin .leq), [.t 33, .t 34]⟩]) (.cond (.t 35) .skip (.exit 4))) (.blk 5 [] (.seq (.reg [⟨(some 36), none, .mv, [.t 0]⟩, ⟨(some 37), none, .mv, [.t 7]⟩, ⟨(some 38), none, .mv, [.t 7]⟩, ⟨(some 39), none, .mv, [.t 6]⟩, ⟨(some 40), none, (.bin .add), [.t 38, .t 39]⟩, ⟨(some 41), none, .mv, [.t 8]⟩, ⟨(some 42), none, .mv, [.t 2]⟩, ⟨(some 43), none, (.call F_slices_symMergeCmpFunc_int 0), [.t 36, .t 37, .t 40, .t 41, .t 42]⟩]) (.seq (.reg [⟨(some 44), none, .mv, [.t 8]⟩, ⟨(some 7), none, .mv, [.t 44]⟩]) (.reg [⟨(some 45), none, .mv, [.t 8]⟩, ⟨(some 46), none, .mv, [.t 6]⟩, ⟨(some 47), none, (.bin .mul), [.c (.int .i64 2), .t 46]⟩, ⟨(some 48), none, (.bin .add), [.t 45, .t 47]⟩, ⟨(some 8), none, .mv, [.t 48]⟩])))))
def wb_slices_stableCmpFunc_int_4 : List Bool := [false, false, false, true, true, true, false, false, true, true, true, true, true, true, true, true, true, true, true, true, true, true, true, true, true, true, true, true, true, true, true, true, true, true, true, true, true, true, true, true, true, true, true, true, true, true, true, true, true, true, true, true, true, true, true, true, true, true, true, true, true, true, true]
abbrev e_slices_stableCmpFunc_int_4 (t0 t1 t2 t6 t7 : AV) : List AV := [t0, t1, t2, .any, .any, .any, t6, t7, .any, .any, .any, .any, .any, .any, .any, .any, .any, .any, .any, .any, .any, .any, .any, .any, .any, .any, .any, .any, .any, .any, .any, .any, .any, .any, .any, .any, .any, .any, .any, .any, .any, .any, .any, .any, .any, .any, .any, .any, .any, .any, .any, .any, .any, .any, .any, .any, .any, .any, .any, .any, .any, .any, .any]
abbrev i_slices_stableCmpFunc_int_4 : List It := [.lp wl_slices_stableCmpFunc_int_4 c_slices_stableCmpFunc_int_l4, .blk 4 wb_slices_stableCmpFunc_int_4]
def c_slices_stableCmpFunc_int_k0 : Cd := (.seq (.seq (.reg [⟨(some 49), none, .mv, [.t 7]⟩, ⟨(some 50), none, .mv, [.t 6]⟩, ⟨(some 51), none, (.bin .add), [.t 49, .t 50]⟩, ⟨(some 9), none, .mv, [.t 51]⟩]) (.seq (.reg [⟨(some 52), none, .mv, [.t 9]⟩, ⟨(some 53), none, .mv, [.t 1]⟩, ⟨(some 54), none, (.bin .lss), [.t 52, .t 53]⟩]) (.cond (.t 54) (.reg [⟨(some 55), none, .mv, [.t 0]⟩, ⟨(some 56), none, .mv, [.t 7]⟩, ⟨(some 57), none, .mv, [.t 9]⟩, ⟨(some 58), none, .mv, [.t 1]⟩, ⟨(some 59), none, .mv, [.t 2]⟩, ⟨(some 60), none, (.call F_slices_symMergeCmpFunc_int 0), [.t 55, .t 56, .t 57, .t 58, .t 59]⟩]) .skip))) (.reg [⟨(some 61), none, .mv, [.t 6]⟩, ⟨(some 62), none, (.bin .mul), [.t 61, .c (.int .i64 2)]⟩, ⟨(some 6), none, .mv, [.t 62]⟩]))
def wb_slices_stableCmpFunc_int_3 : List Bool := [false, false, false, true, true, true, false, true, true, true, true, true, true, true, true, true, true, true, true, true, true, true, true, true, true, true, true, true, true, true, true, true, true, true, true, true, true, true, true, true, true, true, true, true, true, true, true, true, true, true, true, true, true, true, true, true, true, true, true, true, true, true, true]
abbrev e_slices_stableCmpFunc_int_3 (t0 t1 t2 t6 : AV) : List AV := [t0, t1, t2, .any, .any, .any, t6, .any, .any, .any, .any, .any, .any, .any, .any, .any, .any, .any, .any, .any, .any, .any, .any, .any, .any, .any, .any, .any, .any, .any, .any, .any, .any, .any, .any, .any, .any, .any, .any, .any, .any, .any, .any, .any, .any, .any, .any, .any, .any, .any, .any, .any, .any, .any, .any, .any, .any, .any, .any, .any, .any, .any, .any]
def wl_slices_stableCmpFunc_int_2 : Mk := ⟨[false, false, false, true, true, true, false, true, true, true, true, true, true, true, true, true, true, true, true, true, true, true, true, true, true, true, true, true, true, true, true, true, true, true, true, true, true, true, true, true, true, true, true, true, true, true, true, true, true, true, true, true, true, true, true, true, true, true, true, true, true, true, true], []⟩
abbrev s_slices_stableCmpFunc_int_2 (t0 t1 t2 t6 : AV) : List AV := [t0, t1, t2, .any, .any, .any, t6, .any, .any, .any, .any, .any, .any, .any, .any, .any, .any, .any, .any, .any, .any, .any, .any, .any, .any, .any, .any, .any, .any, .any, .any, .any, .any, .any, .any, .any, .any, .any, .any, .any, .any, .any, .any, .any, .any, .any, .any, .any, .any, .any, .any, .any, .any, .any, .any, .any, .any, .any, .any, .any, .any, .any, .any]
def c_slices_stableCmpFunc_int_l2 : Cd := (.seq (.seq (.reg [⟨(some 28), none, .mv, [.t 6]⟩, ⟨(some 29), none, .mv, [.t 1]⟩, ⟨(some 30), none, (.bin .lss), [.t 28, .t 29]⟩]) (.cond (.t 30) .skip (.exit 2))) (.blk 3 wb_slices_stableCmpFunc_int_3 (.seq (.reg [⟨(some 31), none, .mv, [.t 6]⟩, ⟨(some 32), none, (.bin .mul), [.c (.int .i64 2), .t 31]⟩, ⟨(some 7), none, .mv, [.c (.int .i64 0)]⟩, ⟨(some 8), none, .mv, [.t 32]⟩]) (.seq (.blk 4 wb_slices_stableCmpFunc_int_4 (.loop wl_slices_stableCmpFunc_int_4 c_slices_stableCmpFunc_int_l4)) c_slices_stableCmpFunc_int_k0))))
def wb_slices_stableCmpFunc_int_2 : List Bool := [true, true, true, true, true, true, true, true, true, true, true, true, true, true, true, true, true, true, true, true, true, true, true, true, true, true, true, true, true, true, true, true, true, true, true, true, true, true, true, true, true, true, true, true, true, true, true, true, true, true, true, true, true, true, true, true, true, true, true, true, true, true, true]
abbrev e_slices_stableCmpFunc_int_2 : List AV := [.any, .any, .any, .any, .any, .any, .any, .any, .any, .any, .any, .any, .any, .any, .any, .any, .any, .any, .any, .any, .any, .any, .any, .any, .any, .any, .any, .any, .any, .any, .any, .any, .any, .any, .any, .any, .any, .any, .any, .any, .any, .any, .any, .any, .any, .any, .any, .any, .any, .any, .any, .any, .any, .any, .any, .any, .any, .any, .any, .any, .any, .any, .any]
abbrev i_slices_stableCmpFunc_int_2 : List It := [.lp wl_slices_stableCmpFunc_int_2 c_slices_stableCmpFunc_int_l2, .blk 2 wb_slices_stableCmpFunc_int_2]
def c_slices_stableCmpFunc_int_k1 : Cd := (.seq (.reg [⟨(some 23), none, .mv, [.t 0]⟩, ⟨(some 24), none, .mv, [.t 7]⟩, ⟨(some 25), none, .mv, [.t 1]⟩, ⟨(some 26), none, .mv, [.t 2]⟩, ⟨(some 27), none, (.call F_slices_insertionSortCmpFunc_int 2), [.t 23, .t 24, .t 25, .t 26]⟩]) (.blk 2 wb_slices_stableCmpFunc_int_2 (.loop wl_slices_stableCmpFunc_int_2 c_slices_stableCmpFunc_int_l2)))
def c_slices_stableCmpFunc_int : Cd := (.seq (.reg [⟨(some 6), none, .mv, [.c (.int .i64 20)]⟩]) (.seq (.reg [⟨(some 10), none, .mv, [.t 6]⟩, ⟨(some 7), none, .mv, [.c (.int .i64 0)]⟩, ⟨(some 8), none, .mv, [.t 10]⟩]) (.seq (.blk 0 wb_slices_stableCmpFunc_int_0 (.loop wl_slices_stableCmpFunc_int_0 c_slices_stableCmpFunc_int_l0)) c_slices_stableCmpFunc_int_k1)))
theorem comp_slices_stableCmpFunc_int : compF Try.prog (mset [] [] []) (cset [] [F_slices_insertionSortCmpFunc_int] []) (wset [(0, wl_slices_stableCmpFunc_int_0, wb_slices_stableCmpFunc_int_0), (4, wl_slices_stableCmpFunc_int_4, wb_slices_stableCmpFunc_int_4), (3, ⟨[], []⟩, wb_slices_stableCmpFunc_int_3), (2, wl_slices_stableCmpFunc_int_2, wb_slices_stableCmpFunc_int_2)] []) Try.f161 = some c_slices_stableCmpFunc_int := by kernel_rfl
theorem ok_slices_stableCmpFunc_int : fnOk Try.prog F_slices_stableCmpFunc_int = true := by kernel_rfl
theorem calls_slices_stableCmpFunc_int {args : List AV} {r : AV} (h : RunsX Try.prog 0 (Gives [] r) [.c c_slices_stableCmpFunc_int] (args ++ List.replicate (63 - args.length) (.tup [])) [] zeroC) : PCalls Try.prog F_slices_stableCmpFunc_int args r :=
  pcallsF Try.checked.mixed Try.func161 ok_slices_stableCmpFunc_int comp_slices_stableCmpFunc_int rfl (rs := []) (by kernel_rfl) h
theorem hcalls_slices_stableCmpFunc_int {args : List AV} {Hin Hout : Heap} {nx nx2 : Ctr} {r : AV} (φ : Nat) (ks : List (Nat × Nat)) (h : RunsX Try.prog φ (GivesH ks [] r Hout nx2) [.c c_slices_stableCmpFunc_int] (args ++ List.replicate (63 - args.length) (.tup [])) Hin nx) : HCalls Try.prog F_slices_stableCmpFunc_int args Hin nx r Hout nx2 :=
  hcallsF Try.checked.mixed Try.func161 ok_slices_stableCmpFunc_int comp_slices_stableCmpFunc_int rfl (rs := []) (by kernel_rfl) φ ks h

/-- slices.SortStableFunc[[]int,int]: parameters [87, 157], results [], calls slices_stableCmpFunc_int -/
def c_slices_SortStableFunc_int : Cd := (.reg [⟨(some 4), none, .mv, [.t 0]⟩, ⟨(some 5), none, .mv, [.t 0]⟩, ⟨(some 6), none, .len, [.t 5]⟩, ⟨(some 7), none, .mv, [.t 1]⟩, ⟨(some 8), none, (.call F_slices_stableCmpFunc_int 2), [.t 4, .t 6, .t 7]⟩])
theorem comp_slices_SortStableFunc_int : compF Try.prog (mset [] [] []) (cset [] [F_slices_stableCmpFunc_int] []) (wset [] []) Try.f123 = some c_slices_SortStableFunc_int := by kernel_rfl
theorem ok_slices_SortStableFunc_int : fnOk Try.prog F_slices_SortStableFunc_int = true := by kernel_rfl
theorem calls_slices_SortStableFunc_int {args : List AV} {r : AV} (h : RunsX Try.prog 0 (Gives [] r) [.c c_slices_SortStableFunc_int] (args ++ List.replicate (9 - args.length) (.tup [])) [] zeroC) : PCalls Try.prog F_slices_SortStableFunc_int args r :=
  pcallsF Try.checked.mixed Try.func123 ok_slices_SortStableFunc_int comp_slices_SortStableFunc_int rfl (rs := []) (by kernel_rfl) h
theorem hcalls_slices_SortStableFunc_int {args : List AV} {Hin Hout : Heap} {nx nx2 : Ctr} {r : AV} (φ : Nat) (ks : List (Nat × Nat)) (h : RunsX Try.prog φ (GivesH ks [] r Hout nx2) [.c c_slices_SortStableFunc_int] (args ++ List.replicate (9 - args.length) (.tup [])) Hin nx) : HCalls Try.prog F_slices_SortStableFunc_int args Hin nx r Hout nx2 :=
  hcallsF Try.checked.mixed Try.func123 ok_slices_SortStableFunc_int comp_slices_SortStableFunc_int rfl (rs := []) (by kernel_rfl) φ ks h

/-- pedlar/ring.List: parameters [9, 3, 3], results [.t 6], calls sum_CRC, slices_SortStableFunc_int -/
def wl_ring_List_0 : Mk := ⟨[true, false, false, true, true, true, true, false, false, true, true, true, true, true, true, true, true, true, true, false, false, true, true, true, true, true, true, true, true, true, true, true, true, true, true, true, true], []⟩
abbrev s_ring_List_0 (t1 t2 t7 t8 t19 t20 : AV) : List AV := [.any, t1, t2, .any, .any, .any, .any, t7, t8, .any, .any, .any, .any, .any, .any, .any, .any, .any, .any, t19, t20, .any, .any, .any, .any, .any, .any, .any, .any, .any, .any, .any, .any, .any, .any, .any, .any]
def c_ring_List_l0 : Cd := (.seq (.reg [⟨(some 21), none, (.bin .lss), [.t 20, .t 19]⟩]) (.seq (.cond (.t 21) .skip (.exit 0)) (.seq (.blk 1 [] (.seq (.reg [⟨(some 22), none, .mv, [.t 20]⟩, ⟨(some 9), none, .mv, [.t 22]⟩]) (.reg [⟨(some 23), none, .mv, [.t 8]⟩, ⟨(some 24), none, .mv, [.t 9]⟩, ⟨(some 25), none, (.lit 1 1), [.t 24]⟩, ⟨(some 26), none, (.app 1 8 26), [.t 23, .t 25]⟩, ⟨(some 8), none, .mv, [.t 26]⟩]))) (.reg [⟨(some 27), none, (.bin .add), [.t 20, .c (.int .i64 1)]⟩, ⟨(some 20), none, .mv, [.t 27]⟩]))))
def wb_ring_List_0 : List Bool := [true, false, false, true, true, true, true, false, false, true, true, true, true, true, true, true, true, true, true, true, true, true, true, true, true, true, true, true, true, true, true, true, true, true, true, true, true]
abbrev e_ring_List_0 (t1 t2 t7 t8 : AV) : List AV := [.any, t1, t2, .any, .any, .any, .any, t7, t8, .any, .any, .any, .any, .any, .any, .any, .any, .any, .any, .any, .any, .any, .any, .any, .any, .any, .any, .any, .any, .any, .any, .any, .any, .any, .any, .any, .any]
abbrev i_ring_List_0 : List It := [.lp wl_ring_List_0 c_ring_List_l0, .blk 0 wb_ring_List_0]
def c_ring_List_k0 : Cd := (.seq (.reg [⟨(some 28), none, .mv, [.t 8]⟩, ⟨(some 29), none, (.mkf 124), [.t 7]⟩, ⟨(some 30), none, (.call F_slices_SortStableFunc_int 2), [.t 28, .t 29]⟩]) (.seq (.reg [⟨(some 31), none, .mv, [.t 8]⟩, ⟨(some 32), none, .mv, [.t 2]⟩, ⟨(some 33), none, .mv, [.t 1]⟩, ⟨(some 34), none, .mn, [.t 32, .t 33]⟩, ⟨(some 35), none, .mx, [.t 34, .c (.int .i64 1)]⟩, ⟨(some 36), none, (.slc 1 false true false), [.t 31, .t 35]⟩, ⟨(some 6), none, .mv, [.t 36]⟩]) .ret))
def c_ring_List : Cd := (.seq (.reg [⟨(some 6), none, .mv, [.c .nils]⟩]) (.seq (.seq (.reg [⟨(some 10), none, .mv, [.t 1]⟩, ⟨(some 11), none, (.bin .lss), [.t 10, .c (.int .i64 1)]⟩, ⟨(some 12), none, .mv, [.t 11]⟩, ⟨(some 13), (some (12, false)), .mv, [.t 1]⟩, ⟨(some 14), (some (12, false)), (.bin .gtr), [.t 13, .c (.int .i64 3)]⟩, ⟨(some 15), none, .pick, [.t 12, .c (.bool true), .t 14]⟩]) (.cond (.t 15) (.seq (.reg [⟨(some 6), none, .mv, [.c .nils]⟩]) .ret) .skip)) (.seq (.regf [⟨(some 16), none, .mv, [.t 0]⟩, ⟨(some 17), none, .s2b, [.t 16]⟩, ⟨(some 18), none, (.call F_sum_CRC 0), [.t 17]⟩, ⟨(some 7), none, (.new [(.int .u32 0)] 7), []⟩, ⟨none, none, (.st 1), [.t 7, .t 18]⟩] [7]) (.seq (.reg [⟨(some 8), none, .mv, [.c .nils]⟩]) (.seq (.seq (.reg [⟨(some 19), none, .mv, [.t 1]⟩, ⟨(some 20), none, .mv, [.c (.int .i64 0)]⟩]) (.blk 0 wb_ring_List_0 (.loop wl_ring_List_0 c_ring_List_l0))) c_ring_List_k0)))))
theorem comp_ring_List : compF Try.prog (mset [] [] []) (cset [] [F_slices_SortStableFunc_int] []) (wset [(0, wl_ring_List_0, wb_ring_List_0)] [7]) Try.f56 = some c_ring_List := by kernel_rfl
theorem ok_ring_List : fnOk Try.prog F_ring_List = true := by kernel_rfl
theorem calls_ring_List {args : List AV} {r : AV} (h : RunsX Try.prog 0 (Gives [.t 6] r) [.c c_ring_List] (args ++ List.replicate (37 - args.length) (.tup [])) [] zeroC) : PCalls Try.prog F_ring_List args r :=
  pcallsF Try.checked.mixed Try.func56 ok_ring_List comp_ring_List rfl (rs := [.t 6]) (by kernel_rfl) h
theorem hcalls_ring_List {args : List AV} {Hin Hout : Heap} {nx nx2 : Ctr} {r : AV} (φ : Nat) (ks : List (Nat × Nat)) (h : RunsX Try.prog φ (GivesH ks [.t 6] r Hout nx2) [.c c_ring_List] (args ++ List.replicate (37 - args.length) (.tup [])) Hin nx) : HCalls Try.prog F_ring_List args Hin nx r Hout nx2 :=
  hcallsF Try.checked.mixed Try.func56 ok_ring_List comp_ring_List rfl (rs := [.t 6]) (by kernel_rfl) φ ks h

/-- pedlar/ring.First: parameters [9, 3], results [.t 4], calls ring_List -/
def c_ring_First : Cd := (.seq (.reg [⟨(some 4), none, .mv, [.c (.int .i64 0)]⟩]) (.seq (.reg [⟨(some 6), none, .mv, [.t 0]⟩, ⟨(some 7), none, .mv, [.t 1]⟩, ⟨(some 8), none, (.call F_ring_List 0), [.t 6, .t 7, .c (.int .i64 1)]⟩, ⟨(some 5), none, .mv, [.t 8]⟩]) (.seq (.seq (.reg [⟨(some 9), none, .mv, [.t 5]⟩, ⟨(some 10), none, .len, [.t 9]⟩, ⟨(some 11), none, (.bin .eql), [.t 10, .c (.int .i64 0)]⟩]) (.cond (.t 11) (.seq (.reg [⟨(some 4), none, .mv, [.c (.int .i64 (-1))]⟩]) .ret) .skip)) (.seq (.reg [⟨(some 12), none, .mv, [.t 5]⟩, ⟨(some 13), none, (.ixS 1), [.t 12, .c (.int .i64 0)]⟩, ⟨(some 14), none, .ld1, [.t 13]⟩, ⟨(some 4), none, .mv, [.t 14]⟩]) .ret))))
theorem comp_ring_First : compF Try.prog (mset [] [] []) (cset [] [] []) (wset [] []) Try.f57 = some c_ring_First := by kernel_rfl
theorem ok_ring_First : fnOk Try.prog F_ring_First = true := by kernel_rfl
theorem calls_ring_First {args : List AV} {r : AV} (h : RunsX Try.prog 0 (Gives [.t 4] r) [.c c_ring_First] (args ++ List.replicate (15 - args.length) (.tup [])) [] zeroC) : PCalls Try.prog F_ring_First args r :=
  pcallsF Try.checked.mixed Try.func57 ok_ring_First comp_ring_First rfl (rs := [.t 4]) (by kernel_rfl) h
theorem hcalls_ring_First {args : List AV} {Hin Hout : Heap} {nx nx2 : Ctr} {r : AV} (φ : Nat) (ks : List (Nat × Nat)) (h : RunsX Try.prog φ (GivesH ks [.t 4] r Hout nx2) [.c c_ring_First] (args ++ List.replicate (15 - args.length) (.tup [])) Hin nx) : HCalls Try.prog F_ring_First args Hin nx r Hout nx2 :=
  hcallsF Try.checked.mixed Try.func57 ok_ring_First comp_ring_First rfl (rs := [.t 4]) (by kernel_rfl) φ ks h

/-- slices.Index[[]int,int]: parameters [87, 3], results [.t 4], calls  -/
def wl_slices_Index_int_0 : Mk := ⟨[false, false, true, true, true, true, true, false, false, true, true, true, true, true, true, true, true, true, true], []⟩
abbrev s_slices_Index_int_0 (t0 t1 t7 t8 : AV) : List AV := [t0, t1, .any, .any, .any, .any, .any, t7, t8, .any, .any, .any, .any, .any, .any, .any, .any, .any, .any]
def c_slices_Index_int_l0 : Cd := (.seq (.reg [⟨(some 9), none, (.bin .lss), [.t 8, .t 7]⟩]) (.seq (.cond (.t 9) .skip (.exit 0)) (.seq (.blk 1 [] (.seq (.reg [⟨(some 10), none, .mv, [.t 8]⟩, ⟨(some 5), none, .mv, [.t 10]⟩]) (.seq (.reg [⟨(some 11), none, .mv, [.t 1]⟩, ⟨(some 12), none, .mv, [.t 0]⟩, ⟨(some 13), none, .mv, [.t 5]⟩, ⟨(some 14), none, (.ixS 1), [.t 12, .t 13]⟩, ⟨(some 15), none, .ld1, [.t 14]⟩, ⟨(some 16), none, (.bin .eql), [.t 11, .t 15]⟩]) (.cond (.t 16) (.seq (.reg [⟨(some 17), none, .mv, [.t 5]⟩, ⟨(some 4), none, .mv, [.t 17]⟩]) .ret) .skip)))) (.reg [⟨(some 18), none, (.bin .add), [.t 8, .c (.int .i64 1)]⟩, ⟨(some 8), none, .mv, [.t 18]⟩]))))
def wb_slices_Index_int_0 : List Bool := [true, true, true, true, true, true, true, true, true, true, true, true, true, true, true, true, true, true, true]
abbrev e_slices_Index_int_0 : List AV := [.any, .any, .any, .any, .any, .any, .any, .any, .any, .any, .any, .any, .any, .any, .any, .any, .any, .any, .any]
abbrev i_slices_Index_int_0 : List It := [.lp wl_slices_Index_int_0 c_slices_Index_int_l0, .blk 0 wb_slices_Index_int_0]
def c_slices_Index_int_k0 : Cd := (.seq (.reg [⟨(some 4), none, .mv, [.c (.int .i64 (-1))]⟩]) .ret)
def c_slices_Index_int : Cd := (.seq (.reg [⟨(some 4), none, .mv, [.c (.int .i64 0)]⟩]) (.seq (.seq (.reg [⟨(some 6), none, .mv, [.t 0]⟩, ⟨(some 7), none, .len, [.t 6]⟩, ⟨(some 8), none, .mv, [.c (.int .i64 0)]⟩]) (.blk 0 wb_slices_Index_int_0 (.loop wl_slices_Index_int_0 c_slices_Index_int_l0))) c_slices_Index_int_k0))
theorem comp_slices_Index_int : compF Try.prog (mset [] [] []) (cset [] [] []) (wset [(0, wl_slices_Index_int_0, wb_slices_Index_int_0)] []) Try.f163 = some c_slices_Index_int := by kernel_rfl
theorem ok_slices_Index_int : fnOk Try.prog F_slices_Index_int = true := by kernel_rfl
theorem calls_slices_Index_int {args : List AV} {r : AV} (h : RunsX Try.prog 0 (Gives [.t 4] r) [.c c_slices_Index_int] (args ++ List.replicate (19 - args.length) (.tup [])) [] zeroC) : PCalls Try.prog F_slices_Index_int args r :=
  pcallsF Try.checked.mixed Try.func163 ok_slices_Index_int comp_slices_Index_int rfl (rs := [.t 4]) (by kernel_rfl) h
theorem hcalls_slices_Index_int {args : List AV} {Hin Hout : Heap} {nx nx2 : Ctr} {r : AV} (φ : Nat) (ks : List (Nat × Nat)) (h : RunsX Try.prog φ (GivesH ks [.t 4] r Hout nx2) [.c c_slices_Index_int] (args ++ List.replicate (19 - args.length) (.tup [])) Hin nx) : HCalls Try.prog F_slices_Index_int args Hin nx r Hout nx2 :=
  hcallsF Try.checked.mixed Try.func163 ok_slices_Index_int comp_slices_Index_int rfl (rs := [.t 4]) (by kernel_rfl) φ ks h

/-- slices.Contains[[]int,int]: parameters [87, 3], results [.t 4], calls slices_Index_int -/
def c_slices_Contains_int : Cd := (.seq (.reg [⟨(some 4), none, .mv, [.c (.bool false)]⟩]) (.seq (.reg [⟨(some 5), none, .mv, [.t 0]⟩, ⟨(some 6), none, .mv, [.t 1]⟩, ⟨(some 7), none, (.call F_slices_Index_int 0), [.t 5, .t 6]⟩, ⟨(some 8), none, (.bin .geq), [.t 7, .c (.int .i64 0)]⟩, ⟨(some 4), none, .mv, [.t 8]⟩]) .ret))
theorem comp_slices_Contains_int : compF Try.prog (mset [] [] []) (cset [] [] []) (wset [] []) Try.f127 = some c_slices_Contains_int := by kernel_rfl
theorem ok_slices_Contains_int : fnOk Try.prog F_slices_Contains_int = true := by kernel_rfl
theorem calls_slices_Contains_int {args : List AV} {r : AV} (h : RunsX Try.prog 0 (Gives [.t 4] r) [.c c_slices_Contains_int] (args ++ List.replicate (9 - args.length) (.tup [])) [] zeroC) : PCalls Try.prog F_slices_Contains_int args r :=
  pcallsF Try.checked.mixed Try.func127 ok_slices_Contains_int comp_slices_Contains_int rfl (rs := [.t 4]) (by kernel_rfl) h
theorem hcalls_slices_Contains_int {args : List AV} {Hin Hout : Heap} {nx nx2 : Ctr} {r : AV} (φ : Nat) (ks : List (Nat × Nat)) (h : RunsX Try.prog φ (GivesH ks [.t 4] r Hout nx2) [.c c_slices_Contains_int] (args ++ List.replicate (9 - args.length) (.tup [])) Hin nx) : HCalls Try.prog F_slices_Contains_int args Hin nx r Hout nx2 :=
  hcallsF Try.checked.mixed Try.func127 ok_slices_Contains_int comp_slices_Contains_int rfl (rs := [.t 4]) (by kernel_rfl) φ ks h

/-- pedlar/ring.Keeps: parameters [9, 3, 3, 3], results [.t 8], calls ring_List, slices_Contains_int -/
def c_ring_Keeps : Cd := (.seq (.reg [⟨(some 8), none, .mv, [.c (.bool false)]⟩]) (.seq (.reg [⟨(some 9), none, .mv, [.t 0]⟩, ⟨(some 10), none, .mv, [.t 1]⟩, ⟨(some 11), none, .mv, [.t 2]⟩, ⟨(some 12), none, (.call F_ring_List 0), [.t 9, .t 10, .t 11]⟩, ⟨(some 13), none, .mv, [.t 3]⟩, ⟨(some 14), none, (.call F_slices_Contains_int 0), [.t 12, .t 13]⟩, ⟨(some 8), none, .mv, [.t 14]⟩]) .ret))
theorem comp_ring_Keeps : compF Try.prog (mset [] [] []) (cset [] [] []) (wset [] []) Try.f58 = some c_ring_Keeps := by kernel_rfl
theorem ok_ring_Keeps : fnOk Try.prog F_ring_Keeps = true := by kernel_rfl
theorem calls_ring_Keeps {args : List AV} {r : AV} (h : RunsX Try.prog 0 (Gives [.t 8] r) [.c c_ring_Keeps] (args ++ List.replicate (15 - args.length) (.tup [])) [] zeroC) : PCalls Try.prog F_ring_Keeps args r :=
  pcallsF Try.checked.mixed Try.func58 ok_ring_Keeps comp_ring_Keeps rfl (rs := [.t 8]) (by kernel_rfl) h
theorem hcalls_ring_Keeps {args : List AV} {Hin Hout : Heap} {nx nx2 : Ctr} {r : AV} (φ : Nat) (ks : List (Nat × Nat)) (h : RunsX Try.prog φ (GivesH ks [.t 8] r Hout nx2) [.c c_ring_Keeps] (args ++ List.replicate (15 - args.length) (.tup [])) Hin nx) : HCalls Try.prog F_ring_Keeps args Hin nx r Hout nx2 :=
  hcallsF Try.checked.mixed Try.func58 ok_ring_Keeps comp_ring_Keeps rfl (rs := [.t 8]) (by kernel_rfl) φ ks h

/-- pedlar/pedlarref12.List: parameters [9, 3, 3], results [.t 6], calls ref01_CRC, ref01_Mix -/
def wl_ref12_List_4 : Mk := ⟨[true, false, false, true, true, true, true, false, false, false, false, false, true, true, true, true, true, true, true, true, true, true, true, true, true, true, false, false, true, true, true, false, false, true, true, true, true, true, true, true, true, true, true, true, true, true, true, true, true, true, true, true, true, true, true, true, true, true, true, true, true, true, true, true, true, true, true, true, true, true, true, true, true, true], []⟩
abbrev s_ref12_List_4 (t1 t2 t7 t8 t9 t10 t11 t26 t27 t31 t32 : AV) : List AV := [.any, t1, t2, .any, .any, .any, .any, t7, t8, t9, t10, t11, .any, .any, .any, .any, .any, .any, .any, .any, .any, .any, .any, .any, .any, .any, t26, t27, .any, .any, .any, t31, t32, .any, .any, .any, .any, .any, .any, .any, .any, .any, .any, .any, .any, .any, .any, .any, .any, .any, .any, .any, .any, .any, .any, .any, .any, .any, .any, .any, .any, .any, .any, .any, .any, .any, .any, .any, .any, .any, .any, .any, .any, .any]
def c_ref12_List_l4 : Cd := (.seq (.reg [⟨(some 33), none, (.bin .lss), [.t 32, .t 31]⟩]) (.seq (.cond (.t 33) .skip (.exit 4)) (.seq (.blk 5 [] (.seq (.reg [⟨(some 34), none, .mv, [.t 32]⟩, ⟨(some 12), none, .mv, [.t 34]⟩]) (.reg [⟨(some 35), none, .mv, [.t 11]⟩, ⟨(some 36), none, .mv, [.t 35]⟩, ⟨(some 37), (some (36, false)), .mv, [.t 8]⟩, ⟨(some 38), (some (36, false)), .mv, [.t 12]⟩, ⟨(some 39), (some (36, false)), (.ixS 1), [.t 37, .t 38]⟩, ⟨(some 40), (some (36, false)), .ld1, [.t 39]⟩, ⟨(some 41), (some (36, false)), .mv, [.t 10]⟩, ⟨(some 42), (some (36, false)), (.bin .eql), [.t 40, .t 41]⟩, ⟨(some 43), none, .pick, [.t 36, .c (.bool true), .t 42]⟩, ⟨(some 11), none, .mv, [.t 43]⟩]))) (.reg [⟨(some 44), none, (.bin .add), [.t 32, .c (.int .i64 1)]⟩, ⟨(some 32), none, .mv, [.t 44]⟩]))))
def wb_ref12_List_4 : List Bool := [true, false, false, true, true, true, true, false, false, false, false, false, true, true, true, true, true, true, true, true, true, true, true, true, true, true, false, false, true, true, true, true, true, true, true, true, true, true, true, true, true, true, true, true, true, true, true, true, true, true, true, true, true, true, true, true, true, true, true, true, true, true, true, true, true, true, true, true, true, true, true, true, true, true]
abbrev e_ref12_List_4 (t1 t2 t7 t8 t9 t10 t11 t26 t27 : AV) : List AV := [.any, t1, t2, .any, .any, .any, .any, t7, t8, t9, t10, t11, .any, .any, .any, .any, .any, .any, .any, .any, .any, .any, .any, .any, .any, .any, t26, t27, .any, .any, .any, .any, .any, .any, .any, .any, .any, .any, .any, .any, .any, .any, .any, .any, .any, .any, .any, .any, .any, .any, .any, .any, .any, .any, .any, .any, .any, .any, .any, .any, .any, .any, .any, .any, .any, .any, .any, .any, .any, .any, .any, .any, .any, .any]
abbrev i_ref12_List_4 : List It := [.lp wl_ref12_List_4 c_ref12_List_l4, .blk 4 wb_ref12_List_4]
def c_ref12_List_k0 : Cd := (.seq (.reg [⟨(some 45), none, .mv, [.t 11]⟩, ⟨(some 46), none, .not, [.t 45]⟩, ⟨(some 47), none, .mv, [.t 46]⟩, ⟨(some 48), (some (47, true)), .mv, [.t 9]⟩, ⟨(some 49), (some (47, true)), (.bin .lss), [.t 48, .c (.int .i64 0)]⟩, ⟨(some 50), (some (47, true)), .mv, [.t 49]⟩, ⟨(some 51), (some (50, false)), .mv, [.t 7]⟩, ⟨(some 52), (some (50, false)), .mv, [.t 10]⟩, ⟨(some 53), (some (50, false)), (.conv .u32), [.t 52]⟩, ⟨(some 54), (some (50, false)), (.call F_ref01_Mix 0), [.t 51, .t 53]⟩, ⟨(some 55), (some (50, false)), .mv, [.t 7]⟩, ⟨(some 56), (some (50, false)), .mv, [.t 9]⟩, ⟨(some 57), (some (50, false)), (.conv .u32), [.t 56]⟩, ⟨(some 58), (some (50, false)), (.call F_ref01_Mix 0), [.t 55, .t 57]⟩, ⟨(some 59), (some (50, false)), (.bin .lss), [.t 54, .t 58]⟩, ⟨(some 60), (some (47, true)), .pick, [.t 50, .c (.bool true), .t 59]⟩, ⟨(some 61), none, .pick, [.t 47, .t 60, .c (.bool false)]⟩]) (.cond (.t 61) (.reg [⟨(some 62), none, .mv, [.t 10]⟩, ⟨(some 9), none, .mv, [.t 62]⟩]) .skip))
def wb_ref12_List_3 : List Bool := [true, false, false, true, true, true, true, false, false, false, true, true, true, true, true, true, true, true, true, true, true, true, true, true, true, true, false, false, true, true, true, true, true, true, true, true, true, true, true, true, true, true, true, true, true, true, true, true, true, true, true, true, true, true, true, true, true, true, true, true, true, true, true, true, true, true, true, true, true, true, true, true, true, true]
abbrev e_ref12_List_3 (t1 t2 t7 t8 t9 t26 t27 : AV) : List AV := [.any, t1, t2, .any, .any, .any, .any, t7, t8, t9, .any, .any, .any, .any, .any, .any, .any, .any, .any, .any, .any, .any, .any, .any, .any, .any, t26, t27, .any, .any, .any, .any, .any, .any, .any, .any, .any, .any, .any, .any, .any, .any, .any, .any, .any, .any, .any, .any, .any, .any, .any, .any, .any, .any, .any, .any, .any, .any, .any, .any, .any, .any, .any, .any, .any, .any, .any, .any, .any, .any, .any, .any, .any, .any]
def c_ref12_List_k1 : Cd := (.reg [⟨(some 63), none, (.bin .add), [.t 27, .c (.int .i64 1)]⟩, ⟨(some 27), none, .mv, [.t 63]⟩])
def wl_ref12_List_2 : Mk := ⟨[true, false, false, true, true, true, true, false, false, false, true, true, true, true, true, true, true, true, true, true, true, true, true, true, true, true, false, false, true, true, true, true, true, true, true, true, true, true, true, true, true, true, true, true, true, true, true, true, true, true, true, true, true, true, true, true, true, true, true, true, true, true, true, true, true, true, true, true, true, true, true, true, true, true], []⟩
abbrev s_ref12_List_2 (t1 t2 t7 t8 t9 t26 t27 : AV) : List AV := [.any, t1, t2, .any, .any, .any, .any, t7, t8, t9, .any, .any, .any, .any, .any, .any, .any, .any, .any, .any, .any, .any, .any, .any, .any, .any, t26, t27, .any, .any, .any, .any, .any, .any, .any, .any, .any, .any, .any, .any, .any, .any, .any, .any, .any, .any, .any, .any, .any, .any, .any, .any, .any, .any, .any, .any, .any, .any, .any, .any, .any, .any, .any, .any, .any, .any, .any, .any, .any, .any, .any, .any, .any, .any]
def c_ref12_List_l2 : Cd := (.seq (.reg [⟨(some 28), none, (.bin .lss), [.t 27, .t 26]⟩]) (.seq (.cond (.t 28) .skip (.exit 2)) (.seq (.blk 3 wb_ref12_List_3 (.seq (.reg [⟨(some 29), none, .mv, [.t 27]⟩, ⟨(some 10), none, .mv, [.t 29]⟩]) (.seq (.reg [⟨(some 11), none, .mv, [.c (.bool false)]⟩]) (.seq (.seq (.reg [⟨(some 30), none, .mv, [.t 8]⟩, ⟨(some 31), none, .len, [.t 30]⟩, ⟨(some 32), none, .mv, [.c (.int .i64 0)]⟩]) (.blk 4 wb_ref12_List_4 (.loop wl_ref12_List_4 c_ref12_List_l4))) c_ref12_List_k0)))) c_ref12_List_k1)))
def wb_ref12_List_2 : List Bool := [true, false, false, true, true, true, true, false, false, false, true, true, true, true, true, true, true, true, true, true, true, true, true, true, true, true, true, true, true, true, true, true, true, true, true, true, true, true, true, true, true, true, true, true, true, true, true, true, true, true, true, true, true, true, true, true, true, true, true, true, true, true, true, true, true, true, true, true, true, true, true, true, true, true]
abbrev e_ref12_List_2 (t1 t2 t7 t8 t9 : AV) : List AV := [.any, t1, t2, .any, .any, .any, .any, t7, t8, t9, .any, .any, .any, .any, .any, .any, .any, .any, .any, .any, .any, .any, .any, .any, .any, .any, .any, .any, .any, .any, .any, .any, .any, .any, .any, .any, .any, .any, .any, .any, .any, .any, .any, .any, .any, .any, .any, .any, .any, .any, .any, .any, .any, .any, .any, .any, .any, .any, .any, .any, .any, .any, .any, .any, .any, .any, .any, .any, .any, .any, .any, .any, .any, .any]
abbrev i_ref12_List_2 : List It := [.lp wl_ref12_List_2 c_ref12_List_l2, .blk 2 wb_ref12_List_2]
def c_ref12_List_k2 : Cd := (.reg [⟨(some 64), none, .mv, [.t 8]⟩, ⟨(some 65), none, .mv, [.t 9]⟩, ⟨(some 66), none, (.lit 1 1), [.t 65]⟩, ⟨(some 67), none, (.app 1 8 67), [.t 64, .t 66]⟩, ⟨(some 8), none, .mv, [.t 67]⟩])
def wb_ref12_List_1 : List Bool := [true, false, false, true, true, true, true, false, false, true, true, true, true, true, true, true, true, true, true, true, true, true, true, true, true, true, true, true, true, true, true, true, true, true, true, true, true, true, true, true, true, true, true, true, true, true, true, true, true, true, true, true, true, true, true, true, true, true, true, true, true, true, true, true, true, true, true, true, true, true, true, true, true, true]
abbrev e_ref12_List_1 (t1 t2 t7 t8 : AV) : List AV := [.any, t1, t2, .any, .any, .any, .any, t7, t8, .any, .any, .any, .any, .any, .any, .any, .any, .any, .any, .any, .any, .any, .any, .any, .any, .any, .any, .any, .any, .any, .any, .any, .any, .any, .any, .any, .any, .any, .any, .any, .any, .any, .any, .any, .any, .any, .any, .any, .any, .any, .any, .any, .any, .any, .any, .any, .any, .any, .any, .any, .any, .any, .any, .any, .any, .any, .any, .any, .any, .any, .any, .any, .any, .any]
def wl_ref12_List_0 : Mk := ⟨[true, false, false, true, true, true, true, false, false, true, true, true, true, true, true, true, true, true, true, true, true, true, true, true, true, true, true, true, true, true, true, true, true, true, true, true, true, true, true, true, true, true, true, true, true, true, true, true, true, true, true, true, true, true, true, true, true, true, true, true, true, true, true, true, true, true, true, true, true, true, true, true, true, true], []⟩
abbrev s_ref12_List_0 (t1 t2 t7 t8 : AV) : List AV := [.any, t1, t2, .any, .any, .any, .any, t7, t8, .any, .any, .any, .any, .any, .any, .any, .any, .any, .any, .any, .any, .any, .any, .any, .any, .any, .any, .any, .any, .any, .any, .any, .any, .any, .any, .any, .any, .any, .any, .any, .any, .any, .any, .any, .any, .any, .any, .any, .any, .any, .any, .any, .any, .any, .any, .any, .any, .any, .any, .any, .any, .any, .any, .any, .any, .any, .any, .any, .any, .any, .any, .any, .any, .any]
def c_ref12_List_l0 : Cd := (.seq (.seq (.reg [⟨(some 22), none, .mv, [.t 8]⟩, ⟨(some 23), none, .len, [.t 22]⟩, ⟨(some 24), none, .mv, [.t 1]⟩, ⟨(some 25), none, (.bin .lss), [.t 23, .t 24]⟩]) (.cond (.t 25) .skip (.exit 0))) (.blk 1 wb_ref12_List_1 (.seq (.reg [⟨(some 9), none, .mv, [.c (.int .i64 (-1))]⟩]) (.seq (.seq (.reg [⟨(some 26), none, .mv, [.t 1]⟩, ⟨(some 27), none, .mv, [.c (.int .i64 0)]⟩]) (.blk 2 wb_ref12_List_2 (.loop wl_ref12_List_2 c_ref12_List_l2))) c_ref12_List_k2))))
def wb_ref12_List_0 : List Bool := [true, false, false, true, true, true, true, true, false, true, true, true, true, true, true, true, true, true, true, true, true, true, true, true, true, true, true, true, true, true, true, true, true, true, true, true, true, true, true, true, true, true, true, true, true, true, true, true, true, true, true, true, true, true, true, true, true, true, true, true, true, true, true, true, true, true, true, true, true, true, true, true, true, true]
abbrev e_ref12_List_0 (t1 t2 t8 : AV) : List AV := [.any, t1, t2, .any, .any, .any, .any, .any, t8, .any, .any, .any, .any, .any, .any, .any, .any, .any, .any, .any, .any, .any, .any, .any, .any, .any, .any, .any, .any, .any, .any, .any, .any, .any, .any, .any, .any, .any, .any, .any, .any, .any, .any, .any, .any, .any, .any, .any, .any, .any, .any, .any, .any, .any, .any, .any, .any, .any, .any, .any, .any, .any, .any, .any, .any, .any, .any, .any, .any, .any, .any, .any, .any, .any]
abbrev i_ref12_List_0 : List It := [.lp wl_ref12_List_0 c_ref12_List_l0, .blk 0 wb_ref12_List_0]
def c_ref12_List_k3 : Cd := (.seq (.reg [⟨(some 68), none, .mv, [.t 8]⟩, ⟨(some 69), none, .mv, [.t 2]⟩, ⟨(some 70), none, .mv, [.t 1]⟩, ⟨(some 71), none, .mn, [.t 69, .t 70]⟩, ⟨(some 72), none, .mx, [.c (.int .i64 1), .t 71]⟩, ⟨(some 73), none, (.slc 1 false true false), [.t 68, .t 72]⟩, ⟨(some 6), none, .mv, [.t 73]⟩]) .ret)
def c_ref12_List : Cd := (.seq (.reg [⟨(some 6), none, .mv, [.c .nils]⟩]) (.seq (.seq (.reg [⟨(some 13), none, .mv, [.t 1]⟩, ⟨(some 14), none, (.bin .lss), [.t 13, .c (.int .i64 1)]⟩, ⟨(some 15), none, .mv, [.t 14]⟩, ⟨(some 16), (some (15, false)), .mv, [.t 1]⟩, ⟨(some 17), (some (15, false)), (.bin .gtr), [.t 16, .c (.int .i64 3)]⟩, ⟨(some 18), none, .pick, [.t 15, .c (.bool true), .t 17]⟩]) (.cond (.t 18) (.seq (.reg [⟨(some 6), none, .mv, [.c .nils]⟩]) .ret) .skip)) (.seq (.reg [⟨(some 19), none, .mv, [.t 0]⟩, ⟨(some 20), none, .s2b, [.t 19]⟩, ⟨(some 21), none, (.call F_ref01_CRC 0), [.t 20]⟩, ⟨(some 7), none, .mv, [.t 21]⟩]) (.seq (.reg [⟨(some 8), none, .mv, [.c .nils]⟩]) (.seq (.blk 0 wb_ref12_List_0 (.loop wl_ref12_List_0 c_ref12_List_l0)) c_ref12_List_k3)))))
theorem comp_ref12_List : compF Try.prog (mset [] [] []) (cset [] [] []) (wset [(4, wl_ref12_List_4, wb_ref12_List_4), (3, ⟨[], []⟩, wb_ref12_List_3), (2, wl_ref12_List_2, wb_ref12_List_2), (1, ⟨[], []⟩, wb_ref12_List_1), (0, wl_ref12_List_0, wb_ref12_List_0)] []) Try.f55 = some c_ref12_List := by kernel_rfl
theorem ok_ref12_List : fnOk Try.prog F_ref12_List = true := by kernel_rfl
theorem calls_ref12_List {args : List AV} {r : AV} (h : RunsX Try.prog 0 (Gives [.t 6] r) [.c c_ref12_List] (args ++ List.replicate (74 - args.length) (.tup [])) [] zeroC) : PCalls Try.prog F_ref12_List args r :=
  pcallsF Try.checked.mixed Try.func55 ok_ref12_List comp_ref12_List rfl (rs := [.t 6]) (by kernel_rfl) h
theorem hcalls_ref12_List {args : List AV} {Hin Hout : Heap} {nx nx2 : Ctr} {r : AV} (φ : Nat) (ks : List (Nat × Nat)) (h : RunsX Try.prog φ (GivesH ks [.t 6] r Hout nx2) [.c c_ref12_List] (args ++ List.replicate (74 - args.length) (.tup [])) Hin nx) : HCalls Try.prog F_ref12_List args Hin nx r Hout nx2 :=
  hcallsF Try.checked.mixed Try.func55 ok_ref12_List comp_ref12_List rfl (rs := [.t 6]) (by kernel_rfl) φ ks h

/-- pedlar/pedlarlaw14.awake: parameters [], results [.t 0], calls ring_List -/
def c_law14_awake : Cd := (.seq (.reg [⟨(some 0), none, .mv, [.c (.bool false)]⟩]) (.seq (.reg [⟨(some 1), none, (.call F_ring_List 0), [.c (.str ⟨#[97]⟩), .c (.int .i64 1), .c (.int .i64 1)]⟩, ⟨(some 2), none, .len, [.t 1]⟩, ⟨(some 3), none, (.bin .eql), [.t 2, .c (.int .i64 1)]⟩, ⟨(some 0), none, .mv, [.t 3]⟩]) .ret))
theorem comp_law14_awake : compF Try.prog (mset [] [] []) (cset [] [] []) (wset [] []) Try.f54 = some c_law14_awake := by kernel_rfl
theorem ok_law14_awake : fnOk Try.prog F_law14_awake = true := by kernel_rfl
theorem calls_law14_awake {args : List AV} {r : AV} (h : RunsX Try.prog 0 (Gives [.t 0] r) [.c c_law14_awake] (args ++ List.replicate (4 - args.length) (.tup [])) [] zeroC) : PCalls Try.prog F_law14_awake args r :=
  pcallsF Try.checked.mixed Try.func54 ok_law14_awake comp_law14_awake rfl (rs := [.t 0]) (by kernel_rfl) h
theorem hcalls_law14_awake {args : List AV} {Hin Hout : Heap} {nx nx2 : Ctr} {r : AV} (φ : Nat) (ks : List (Nat × Nat)) (h : RunsX Try.prog φ (GivesH ks [.t 0] r Hout nx2) [.c c_law14_awake] (args ++ List.replicate (4 - args.length) (.tup [])) Hin nx) : HCalls Try.prog F_law14_awake args Hin nx r Hout nx2 :=
  hcallsF Try.checked.mixed Try.func54 ok_law14_awake comp_law14_awake rfl (rs := [.t 0]) (by kernel_rfl) φ ks h

/-- pedlar/pedlarlaw14.RingLists: parameters [9, 3, 3, 3], results [.t 8], calls law14_awake, ref12_List, ring_List, ring_First, ring_Keeps -/
def wl_law14_RingLists_0 : Mk := ⟨[false, false, false, false, true, true, true, true, true, false, false, false, true, true, true, true, true, true, true, true, true, true, true, true, true, true, true, true, true, true, true, true, true, true, true, true, false, false, true, true, true, true, true, true, true, true, true, true, true, true, true, true, true, true, true, true, true, true, true, true, true, true, true, true, true, true, true, true, true, true, true, true, true, true, true, true, true, true, true], []⟩
abbrev s_law14_RingLists_0 (t0 t1 t2 t3 t9 t10 t11 t36 t37 : AV) : List AV := [t0, t1, t2, t3, .any, .any, .any, .any, .any, t9, t10, t11, .any, .any, .any, .any, .any, .any, .any, .any, .any, .any, .any, .any, .any, .any, .any, .any, .any, .any, .any, .any, .any, .any, .any, .any, t36, t37, .any, .any, .any, .any, .any, .any, .any, .any, .any, .any, .any, .any, .any, .any, .any, .any, .any, .any, .any, .any, .any, .any, .any, .any, .any, .any, .any, .any, .any, .any, .any, .any, .any, .any, .any, .any, .any, .any, .any, .any, .any]
def c_law14_RingLists_l0 : Cd := (.seq (.reg [⟨(some 38), none, (.bin .lss), [.t 37, .t 36]⟩]) (.seq (.cond (.t 38) .skip (.exit 0)) (.seq (.blk 1 [] (.seq (.reg [⟨(some 39), none, .mv, [.t 37]⟩, ⟨(some 12), none, .mv, [.t 39]⟩]) (.seq (.seq (.reg [⟨(some 40), none, .mv, [.t 10]⟩, ⟨(some 41), none, .mv, [.t 12]⟩, ⟨(some 42), none, (.ixS 1), [.t 40, .t 41]⟩, ⟨(some 43), none, .ld1, [.t 42]⟩, ⟨(some 44), none, .mv, [.t 9]⟩, ⟨(some 45), none, .mv, [.t 12]⟩, ⟨(some 46), none, (.ixS 1), [.t 44, .t 45]⟩, ⟨(some 47), none, .ld1, [.t 46]⟩, ⟨(some 48), none, (.bin .neq), [.t 43, .t 47]⟩]) (.cond (.t 48) (.seq (.reg [⟨(some 8), none, .mv, [.c (.bool false)]⟩]) .ret) .skip)) (.reg [⟨(some 49), none, .mv, [.t 11]⟩, ⟨(some 50), none, .mv, [.t 49]⟩, ⟨(some 51), (some (50, false)), .mv, [.t 9]⟩, ⟨(some 52), (some (50, false)), .mv, [.t 12]⟩, ⟨(some 53), (some (50, false)), (.ixS 1), [.t 51, .t 52]⟩, ⟨(some 54), (some (50, false)), .ld1, [.t 53]⟩, ⟨(some 55), (some (50, false)), .mv, [.t 3]⟩, ⟨(some 56), (some (50, false)), (.bin .eql), [.t 54, .t 55]⟩, ⟨(some 57), none, .pick, [.t 50, .c (.bool true), .t 56]⟩, ⟨(some 11), none, .mv, [.t 57]⟩])))) (.reg [⟨(some 58), none, (.bin .add), [.t 37, .c (.int .i64 1)]⟩, ⟨(some 37), none, .mv, [.t 58]⟩]))))
def wb_law14_RingLists_0 : List Bool := [false, false, false, false, true, true, true, true, true, false, true, false, true, true, true, true, true, true, true, true, true, true, true, true, true, true, true, true, true, true, true, true, true, true, true, true, true, true, true, true, true, true, true, true, true, true, true, true, true, true, true, true, true, true, true, true, true, true, true, true, true, true, true, true, true, true, true, true, true, true, true, true, true, true, true, true, true, true, true]
abbrev e_law14_RingLists_0 (t0 t1 t2 t3 t9 t11 : AV) : List AV := [t0, t1, t2, t3, .any, .any, .any, .any, .any, t9, .any, t11, .any, .any, .any, .any, .any, .any, .any, .any, .any, .any, .any, .any, .any, .any, .any, .any, .any, .any, .any, .any, .any, .any, .any, .any, .any, .any, .any, .any, .any, .any, .any, .any, .any, .any, .any, .any, .any, .any, .any, .any, .any, .any, .any, .any, .any, .any, .any, .any, .any, .any, .any, .any, .any, .any, .any, .any, .any, .any, .any, .any, .any, .any, .any, .any, .any, .any, .any]
abbrev i_law14_RingLists_0 : List It := [.lp wl_law14_RingLists_0 c_law14_RingLists_l0, .blk 0 wb_law14_RingLists_0]
def c_law14_RingLists_k0 : Cd := (.seq (.reg [⟨(some 13), none, .mv, [.c (.int .i64 (-1))]⟩]) (.seq (.seq (.reg [⟨(some 59), none, .mv, [.t 9]⟩, ⟨(some 60), none, .len, [.t 59]⟩, ⟨(some 61), none, (.bin .gtr), [.t 60, .c (.int .i64 0)]⟩]) (.cond (.t 61) (.reg [⟨(some 62), none, .mv, [.t 9]⟩, ⟨(some 63), none, (.ixS 1), [.t 62, .c (.int .i64 0)]⟩, ⟨(some 64), none, .ld1, [.t 63]⟩, ⟨(some 13), none, .mv, [.t 64]⟩]) .skip)) (.seq (.reg [⟨(some 65), none, .mv, [.t 0]⟩, ⟨(some 66), none, .mv, [.t 1]⟩, ⟨(some 67), none, (.call F_ring_First 0), [.t 65, .t 66]⟩, ⟨(some 68), none, .mv, [.t 13]⟩, ⟨(some 69), none, (.bin .eql), [.t 67, .t 68]⟩, ⟨(some 70), none, .mv, [.t 69]⟩, ⟨(some 71), (some (70, true)), .mv, [.t 0]⟩, ⟨(some 72), (some (70, true)), .mv, [.t 1]⟩, ⟨(some 73), (some (70, true)), .mv, [.t 2]⟩, ⟨(some 74), (some (70, true)), .mv, [.t 3]⟩, ⟨(some 75), (some (70, true)), (.call F_ring_Keeps 0), [.t 71, .t 72, .t 73, .t 74]⟩, ⟨(some 76), (some (70, true)), .mv, [.t 11]⟩, ⟨(some 77), (some (70, true)), (.eqb false), [.t 75, .t 76]⟩, ⟨(some 78), none, .pick, [.t 70, .t 77, .c (.bool false)]⟩, ⟨(some 8), none, .mv, [.t 78]⟩]) .ret)))
def c_law14_RingLists : Cd := (.seq (.reg [⟨(some 8), none, .mv, [.c (.bool false)]⟩]) (.seq (.seq (.reg [⟨(some 14), none, (.call F_law14_awake 0), []⟩, ⟨(some 15), none, .not, [.t 14]⟩, ⟨(some 16), none, .mv, [.t 15]⟩, ⟨(some 17), (some (16, false)), .mv, [.t 0]⟩, ⟨(some 18), (some (16, false)), .lenT, [.t 17]⟩, ⟨(some 19), (some (16, false)), (.bin .gtr), [.t 18, .c (.int .i64 1000)]⟩, ⟨(some 20), none, .pick, [.t 16, .c (.bool true), .t 19]⟩]) (.cond (.t 20) (.seq (.reg [⟨(some 21), none, (.call F_law14_awake 0), []⟩, ⟨(some 8), none, .mv, [.t 21]⟩]) .ret) .skip)) (.seq (.reg [⟨(some 22), none, .mv, [.t 0]⟩, ⟨(some 23), none, .mv, [.t 1]⟩, ⟨(some 24), none, .mv, [.t 2]⟩, ⟨(some 25), none, (.call F_ref12_List 0), [.t 22, .t 23, .t 24]⟩, ⟨(some 9), none, .mv, [.t 25]⟩]) (.seq (.reg [⟨(some 26), none, .mv, [.t 0]⟩, ⟨(some 27), none, .mv, [.t 1]⟩, ⟨(some 28), none, .mv, [.t 2]⟩, ⟨(some 29), none, (.call F_ring_List 0), [.t 26, .t 27, .t 28]⟩, ⟨(some 10), none, .mv, [.t 29]⟩]) (.seq (.seq (.reg [⟨(some 30), none, .mv, [.t 10]⟩, ⟨(some 31), none, .len, [.t 30]⟩, ⟨(some 32), none, .mv, [.t 9]⟩, ⟨(some 33), none, .len, [.t 32]⟩, ⟨(some 34), none, (.bin .neq), [.t 31, .t 33]⟩]) (.cond (.t 34) (.seq (.reg [⟨(some 8), none, .mv, [.c (.bool false)]⟩]) .ret) .skip)) (.seq (.reg [⟨(some 11), none, .mv, [.c (.bool false)]⟩]) (.seq (.seq (.reg [⟨(some 35), none, .mv, [.t 9]⟩, ⟨(some 36), none, .len, [.t 35]⟩, ⟨(some 37), none, .mv, [.c (.int .i64 0)]⟩]) (.blk 0 wb_law14_RingLists_0 (.loop wl_law14_RingLists_0 c_law14_RingLists_l0))) c_law14_RingLists_k0)))))))
theorem comp_law14_RingLists : compF Try.prog (mset [] [] []) (cset [] [] []) (wset [(0, wl_law14_RingLists_0, wb_law14_RingLists_0)] []) Try.f8 = some c_law14_RingLists := by kernel_rfl
theorem ok_law14_RingLists : fnOk Try.prog F_law14_RingLists = true := by kernel_rfl
theorem calls_law14_RingLists {args : List AV} {r : AV} (h : RunsX Try.prog 0 (Gives [.t 8] r) [.c c_law14_RingLists] (args ++ List.replicate (79 - args.length) (.tup [])) [] zeroC) : PCalls Try.prog F_law14_RingLists args r :=
  pcallsF Try.checked.mixed Try.func8 ok_law14_RingLists comp_law14_RingLists rfl (rs := [.t 8]) (by kernel_rfl) h
theorem hcalls_law14_RingLists {args : List AV} {Hin Hout : Heap} {nx nx2 : Ctr} {r : AV} (φ : Nat) (ks : List (Nat × Nat)) (h : RunsX Try.prog φ (GivesH ks [.t 8] r Hout nx2) [.c c_law14_RingLists] (args ++ List.replicate (79 - args.length) (.tup [])) Hin nx) : HCalls Try.prog F_law14_RingLists args Hin nx r Hout nx2 :=
  hcallsF Try.checked.mixed Try.func8 ok_law14_RingLists comp_law14_RingLists rfl (rs := [.t 8]) (by kernel_rfl) φ ks h

def tab_CdRing : List (Nat × Cd × Nat × List RS) := [(F_ref01_Wide, c_ref01_Wide, 24, [.t 4]), (F_ref01_Mix, c_ref01_Mix, 13, [.t 4]), (F_sum_Mix, c_sum_Mix, 28, [.t 4]), (F_cmp_isNaN_uint32, c_cmp_isNaN_uint32, 6, [.t 2]), (F_cmp_Compare_uint32, c_cmp_Compare_uint32, 20, [.t 4]), (F_ring_List_1, c_ring_List_1, 15, [.t 5]), (F_slices_insertionSortCmpFunc_int, c_slices_insertionSortCmpFunc_int, 53, []), (F_slices_stableCmpFunc_int, c_slices_stableCmpFunc_int, 63, []), (F_slices_SortStableFunc_int, c_slices_SortStableFunc_int, 9, []), (F_ring_List, c_ring_List, 37, [.t 6]), (F_ring_First, c_ring_First, 15, [.t 4]), (F_slices_Index_int, c_slices_Index_int, 19, [.t 4]), (F_slices_Contains_int, c_slices_Contains_int, 9, [.t 4]), (F_ring_Keeps, c_ring_Keeps, 15, [.t 8]), (F_ref12_List, c_ref12_List, 74, [.t 6]), (F_law14_awake, c_law14_awake, 4, [.t 0]), (F_law14_RingLists, c_law14_RingLists, 79, [.t 8])]
theorem tok_CdRing : TabOk Try.prog (tabOf tab_CdRing) := tab_cons calls_ref01_Wide hcalls_ref01_Wide (tab_cons calls_ref01_Mix hcalls_ref01_Mix (tab_cons calls_sum_Mix hcalls_sum_Mix (tab_cons calls_cmp_isNaN_uint32 hcalls_cmp_isNaN_uint32 (tab_cons calls_cmp_Compare_uint32 hcalls_cmp_Compare_uint32 (tab_cons calls_ring_List_1 hcalls_ring_List_1 (tab_cons calls_slices_insertionSortCmpFunc_int hcalls_slices_insertionSortCmpFunc_int (tab_cons calls_slices_stableCmpFunc_int hcalls_slices_stableCmpFunc_int (tab_cons calls_slices_SortStableFunc_int hcalls_slices_SortStableFunc_int (tab_cons calls_ring_List hcalls_ring_List (tab_cons calls_ring_First hcalls_ring_First (tab_cons calls_slices_Index_int hcalls_slices_Index_int (tab_cons calls_slices_Contains_int hcalls_slices_Contains_int (tab_cons calls_ring_Keeps hcalls_ring_Keeps (tab_cons calls_ref12_List hcalls_ref12_List (tab_cons calls_law14_awake hcalls_law14_awake (tab_cons calls_law14_RingLists hcalls_law14_RingLists (tab_nil)))))))))))))))))
end Go.Proofs.Ytmokhopjnjecbab
/- The functions' bodies, compiled; printed by a program of mine (gen.py); that they are is checked here. -/
namespace Go.Proofs.Ytmokhopjnjecbab
open Go.Ev
set_option maxRecDepth 100000

/-- pedlar/sum.add: parameters [152, 5], results [.t 4], calls  -/
def wl_sum_add_0 : Mk := ⟨[false, true, true, true, true, true, true, true, true, true, false, true, true, true, true, true, true, true, true, true, true, true], []⟩
abbrev s_sum_add_0 (t0 t10 : AV) : List AV := [t0, .any, .any, .any, .any, .any, .any, .any, .any, .any, t10, .any, .any, .any, .any, .any, .any, .any, .any, .any, .any, .any]
def c_sum_add_l0 : Cd := (.seq (.reg [⟨(some 11), none, (.bin .lss), [.t 10, .c (.int .i64 8)]⟩]) (.seq (.cond (.t 11) .skip (.exit 0)) (.seq (.blk 1 [] (.seq (.reg [⟨(some 12), none, .mv, [.t 0]⟩, ⟨(some 13), none, (.bin .and), [.t 12, .c (.int .u32 1)]⟩, ⟨(some 14), none, (.bin .eql), [.t 13, .c (.int .u32 1)]⟩, ⟨(some 5), none, .mv, [.t 14]⟩]) (.seq (.reg [⟨(some 15), none, .mv, [.t 0]⟩, ⟨(some 16), none, (.bin .shr), [.t 15, .c (.int .u64 1)]⟩, ⟨(some 0), none, .mv, [.t 16]⟩]) (.seq (.reg [⟨(some 17), none, .mv, [.t 5]⟩]) (.cond (.t 17) (.reg [⟨(some 18), none, .mv, [.t 0]⟩, ⟨(some 19), none, (.bin .xor), [.t 18, .c (.int .u32 2197175160)]⟩, ⟨(some 0), none, .mv, [.t 19]⟩]) .skip))))) (.reg [⟨(some 20), none, (.bin .add), [.t 10, .c (.int .i64 1)]⟩, ⟨(some 10), none, .mv, [.t 20]⟩]))))
def wb_sum_add_0 : List Bool := [false, true, true, true, true, true, true, true, true, true, true, true, true, true, true, true, true, true, true, true, true, true]
abbrev e_sum_add_0 (t0 : AV) : List AV := [t0, .any, .any, .any, .any, .any, .any, .any, .any, .any, .any, .any, .any, .any, .any, .any, .any, .any, .any, .any, .any, .any]
abbrev i_sum_add_0 : List It := [.lp wl_sum_add_0 c_sum_add_l0, .blk 0 wb_sum_add_0]
def c_sum_add_k0 : Cd := (.seq (.reg [⟨(some 21), none, .mv, [.t 0]⟩, ⟨(some 4), none, .mv, [.t 21]⟩]) .ret)
def c_sum_add : Cd := (.seq (.reg [⟨(some 4), none, .mv, [.c (.int .u32 0)]⟩]) (.seq (.reg [⟨(some 6), none, .mv, [.t 0]⟩, ⟨(some 7), none, .mv, [.t 1]⟩, ⟨(some 8), none, (.conv .u32), [.t 7]⟩, ⟨(some 9), none, (.bin .xor), [.t 6, .t 8]⟩, ⟨(some 0), none, .mv, [.t 9]⟩]) (.seq (.seq (.reg [⟨(some 10), none, .mv, [.c (.int .i64 0)]⟩]) (.blk 0 wb_sum_add_0 (.loop wl_sum_add_0 c_sum_add_l0))) c_sum_add_k0)))
theorem comp_sum_add : compF Try.prog (mset [] [] []) (cset [] [] []) (wset [(0, wl_sum_add_0, wb_sum_add_0)] []) Try.f160 = some c_sum_add := by kernel_rfl
theorem ok_sum_add : fnOk Try.prog F_sum_add = true := by kernel_rfl
theorem calls_sum_add {args : List AV} {r : AV} (h : RunsX Try.prog 0 (Gives [.t 4] r) [.c c_sum_add] (args ++ List.replicate (22 - args.length) (.tup [])) [] zeroC) : PCalls Try.prog F_sum_add args r :=
  pcallsF Try.checked.mixed Try.func160 ok_sum_add comp_sum_add rfl (rs := [.t 4]) (by kernel_rfl) h
theorem hcalls_sum_add {args : List AV} {Hin Hout : Heap} {nx nx2 : Ctr} {r : AV} (φ : Nat) (ks : List (Nat × Nat)) (h : RunsX Try.prog φ (GivesH ks [.t 4] r Hout nx2) [.c c_sum_add] (args ++ List.replicate (22 - args.length) (.tup [])) Hin nx) : HCalls Try.prog F_sum_add args Hin nx r Hout nx2 :=
  hcallsF Try.checked.mixed Try.func160 ok_sum_add comp_sum_add rfl (rs := [.t 4]) (by kernel_rfl) φ ks h

/-- pedlar/sum.CRC: parameters [76], results [.t 2], calls sum_add -/
def wl_sum_CRC_0 : Mk := ⟨[true, true, true, false, true, true, false, false, false, true, true, true, true, true, true, true, true, true], []⟩
abbrev s_sum_CRC_0 (t3 t6 t7 t8 : AV) : List AV := [.any, .any, .any, t3, .any, .any, t6, t7, t8, .any, .any, .any, .any, .any, .any, .any, .any, .any]
def c_sum_CRC_l0 : Cd := (.seq (.reg [⟨(some 9), none, (.bin .lss), [.t 8, .t 7]⟩]) (.seq (.cond (.t 9) .skip (.exit 0)) (.seq (.blk 1 [] (.seq (.reg [⟨(some 10), none, (.ixS 1), [.t 6, .t 8]⟩, ⟨(some 11), none, .ld1, [.t 10]⟩, ⟨(some 5), none, .mv, [.t 11]⟩]) (.reg [⟨(some 12), none, .mv, [.t 3]⟩, ⟨(some 13), none, .mv, [.t 5]⟩, ⟨(some 14), none, (.call F_sum_add 0), [.t 12, .t 13]⟩, ⟨(some 3), none, .mv, [.t 14]⟩]))) (.reg [⟨(some 15), none, (.bin .add), [.t 8, .c (.int .i64 1)]⟩, ⟨(some 8), none, .mv, [.t 15]⟩]))))
def wb_sum_CRC_0 : List Bool := [true, true, true, false, true, true, true, true, true, true, true, true, true, true, true, true, true, true]
abbrev e_sum_CRC_0 (t3 : AV) : List AV := [.any, .any, .any, t3, .any, .any, .any, .any, .any, .any, .any, .any, .any, .any, .any, .any, .any, .any]
abbrev i_sum_CRC_0 : List It := [.lp wl_sum_CRC_0 c_sum_CRC_l0, .blk 0 wb_sum_CRC_0]
def c_sum_CRC_k0 : Cd := (.seq (.reg [⟨(some 16), none, .mv, [.t 3]⟩, ⟨(some 17), none, (.bin .xor), [.t 16, .c (.int .u32 4294967295)]⟩, ⟨(some 2), none, .mv, [.t 17]⟩]) .ret)
def c_sum_CRC : Cd := (.seq (.reg [⟨(some 2), none, .mv, [.c (.int .u32 0)]⟩]) (.seq (.reg [⟨(some 3), none, .mv, [.c (.int .u32 4294967295)]⟩]) (.seq (.seq (.reg [⟨(some 6), none, .mv, [.t 0]⟩, ⟨(some 7), none, .len, [.t 6]⟩, ⟨(some 8), none, .mv, [.c (.int .i64 0)]⟩]) (.blk 0 wb_sum_CRC_0 (.loop wl_sum_CRC_0 c_sum_CRC_l0))) c_sum_CRC_k0)))
theorem comp_sum_CRC : compF Try.prog (mset [] [] []) (cset [] [] []) (wset [(0, wl_sum_CRC_0, wb_sum_CRC_0)] []) Try.f122 = some c_sum_CRC := by kernel_rfl
theorem ok_sum_CRC : fnOk Try.prog F_sum_CRC = true := by kernel_rfl
theorem calls_sum_CRC {args : List AV} {r : AV} (h : RunsX Try.prog 0 (Gives [.t 2] r) [.c c_sum_CRC] (args ++ List.replicate (18 - args.length) (.tup [])) [] zeroC) : PCalls Try.prog F_sum_CRC args r :=
  pcallsF Try.checked.mixed Try.func122 ok_sum_CRC comp_sum_CRC rfl (rs := [.t 2]) (by kernel_rfl) h
theorem hcalls_sum_CRC {args : List AV} {Hin Hout : Heap} {nx nx2 : Ctr} {r : AV} (φ : Nat) (ks : List (Nat × Nat)) (h : RunsX Try.prog φ (GivesH ks [.t 2] r Hout nx2) [.c c_sum_CRC] (args ++ List.replicate (18 - args.length) (.tup [])) Hin nx) : HCalls Try.prog F_sum_CRC args Hin nx r Hout nx2 :=
  hcallsF Try.checked.mixed Try.func122 ok_sum_CRC comp_sum_CRC rfl (rs := [.t 2]) (by kernel_rfl) φ ks h

/-- pedlar/pedlarref01.CRC: parameters [76], results [.t 2], calls  -/
def wl_ref01_CRC_2 : Mk := ⟨[false, true, true, false, false, true, true, true, false, false, true, true, false, true, true, true, true, true, true, true, true, true, true, true, true, true, true, true, true, true, true, true, true, true, true, true, true, true], []⟩
abbrev s_ref01_CRC_2 (t0 t3 t4 t8 t9 t12 : AV) : List AV := [t0, .any, .any, t3, t4, .any, .any, .any, t8, t9, .any, .any, t12, .any, .any, .any, .any, .any, .any, .any, .any, .any, .any, .any, .any, .any, .any, .any, .any, .any, .any, .any, .any, .any, .any, .any, .any, .any]
def c_ref01_CRC_l2 : Cd := (.seq (.reg [⟨(some 13), none, (.bin .lss), [.t 12, .c (.int .i64 8)]⟩]) (.seq (.cond (.t 13) .skip (.exit 2)) (.seq (.blk 3 [] (.seq (.reg [⟨(some 14), none, .mv, [.t 12]⟩, ⟨(some 5), none, .mv, [.t 14]⟩]) (.seq (.reg [⟨(some 15), none, .mv, [.t 3]⟩, ⟨(some 16), none, (.bin .rem), [.t 15, .c (.int .u64 2)]⟩, ⟨(some 17), none, .mv, [.t 0]⟩, ⟨(some 18), none, .mv, [.t 4]⟩, ⟨(some 19), none, (.ixS 1), [.t 17, .t 18]⟩, ⟨(some 20), none, .ld1, [.t 19]⟩, ⟨(some 21), none, .mv, [.t 5]⟩, ⟨(some 22), none, (.conv .u64), [.t 21]⟩, ⟨(some 23), none, (.bin .shr), [.t 20, .t 22]⟩, ⟨(some 24), none, (.bin .and), [.t 23, .c (.int .u8 1)]⟩, ⟨(some 25), none, (.conv .u64), [.t 24]⟩, ⟨(some 26), none, (.bin .xor), [.t 16, .t 25]⟩, ⟨(some 6), none, .mv, [.t 26]⟩]) (.seq (.reg [⟨(some 27), none, .mv, [.t 3]⟩, ⟨(some 28), none, (.bin .quo), [.t 27, .c (.int .u64 2)]⟩, ⟨(some 3), none, .mv, [.t 28]⟩]) (.seq (.reg [⟨(some 29), none, .mv, [.t 6]⟩, ⟨(some 30), none, (.bin .eql), [.t 29, .c (.int .u64 1)]⟩]) (.cond (.t 30) (.reg [⟨(some 31), none, .mv, [.t 3]⟩, ⟨(some 32), none, (.bin .xor), [.t 31, .c (.int .u64 2197175160)]⟩, ⟨(some 3), none, .mv, [.t 32]⟩]) .skip)))))) (.reg [⟨(some 33), none, (.bin .add), [.t 12, .c (.int .i64 1)]⟩, ⟨(some 12), none, .mv, [.t 33]⟩]))))
def wb_ref01_CRC_2 : List Bool := [false, true, true, false, true, true, true, true, false, false, true, true, true, true, true, true, true, true, true, true, true, true, true, true, true, true, true, true, true, true, true, true, true, true, true, true, true, true]
abbrev e_ref01_CRC_2 (t0 t3 t8 t9 : AV) : List AV := [t0, .any, .any, t3, .any, .any, .any, .any, t8, t9, .any, .any, .any, .any, .any, .any, .any, .any, .any, .any, .any, .any, .any, .any, .any, .any, .any, .any, .any, .any, .any, .any, .any, .any, .any, .any, .any, .any]
abbrev i_ref01_CRC_2 : List It := [.lp wl_ref01_CRC_2 c_ref01_CRC_l2, .blk 2 wb_ref01_CRC_2]
def wb_ref01_CRC_1 : List Bool := [false, true, true, false, true, true, true, true, false, false, true, true, true, true, true, true, true, true, true, true, true, true, true, true, true, true, true, true, true, true, true, true, true, true, true, true, true, true]
abbrev e_ref01_CRC_1 (t0 t3 t8 t9 : AV) : List AV := [t0, .any, .any, t3, .any, .any, .any, .any, t8, t9, .any, .any, .any, .any, .any, .any, .any, .any, .any, .any, .any, .any, .any, .any, .any, .any, .any, .any, .any, .any, .any, .any, .any, .any, .any, .any, .any, .any]
def c_ref01_CRC_k0 : Cd := (.reg [⟨(some 34), none, (.bin .add), [.t 9, .c (.int .i64 1)]⟩, ⟨(some 9), none, .mv, [.t 34]⟩])
def wl_ref01_CRC_0 : Mk := ⟨[false, true, true, false, true, true, true, true, false, false, true, true, true, true, true, true, true, true, true, true, true, true, true, true, true, true, true, true, true, true, true, true, true, true, true, true, true, true], []⟩
abbrev s_ref01_CRC_0 (t0 t3 t8 t9 : AV) : List AV := [t0, .any, .any, t3, .any, .any, .any, .any, t8, t9, .any, .any, .any, .any, .any, .any, .any, .any, .any, .any, .any, .any, .any, .any, .any, .any, .any, .any, .any, .any, .any, .any, .any, .any, .any, .any, .any, .any]
def c_ref01_CRC_l0 : Cd := (.seq (.reg [⟨(some 10), none, (.bin .lss), [.t 9, .t 8]⟩]) (.seq (.cond (.t 10) .skip (.exit 0)) (.seq (.blk 1 wb_ref01_CRC_1 (.seq (.reg [⟨(some 11), none, .mv, [.t 9]⟩, ⟨(some 4), none, .mv, [.t 11]⟩]) (.seq (.reg [⟨(some 12), none, .mv, [.c (.int .i64 0)]⟩]) (.blk 2 wb_ref01_CRC_2 (.loop wl_ref01_CRC_2 c_ref01_CRC_l2))))) c_ref01_CRC_k0)))
def wb_ref01_CRC_0 : List Bool := [true, true, true, false, true, true, true, true, true, true, true, true, true, true, true, true, true, true, true, true, true, true, true, true, true, true, true, true, true, true, true, true, true, true, true, true, true, true]
abbrev e_ref01_CRC_0 (t3 : AV) : List AV := [.any, .any, .any, t3, .any, .any, .any, .any, .any, .any, .any, .any, .any, .any, .any, .any, .any, .any, .any, .any, .any, .any, .any, .any, .any, .any, .any, .any, .any, .any, .any, .any, .any, .any, .any, .any, .any, .any]
abbrev i_ref01_CRC_0 : List It := [.lp wl_ref01_CRC_0 c_ref01_CRC_l0, .blk 0 wb_ref01_CRC_0]
def c_ref01_CRC_k1 : Cd := (.seq (.reg [⟨(some 35), none, .mv, [.t 3]⟩, ⟨(some 36), none, (.bin .xor), [.t 35, .c (.int .u64 4294967295)]⟩, ⟨(some 37), none, (.conv .u32), [.t 36]⟩, ⟨(some 2), none, .mv, [.t 37]⟩]) .ret)
def c_ref01_CRC : Cd := (.seq (.reg [⟨(some 2), none, .mv, [.c (.int .u32 0)]⟩]) (.seq (.reg [⟨(some 3), none, .mv, [.c (.int .u64 4294967295)]⟩]) (.seq (.seq (.reg [⟨(some 7), none, .mv, [.t 0]⟩, ⟨(some 8), none, .len, [.t 7]⟩, ⟨(some 9), none, .mv, [.c (.int .i64 0)]⟩]) (.blk 0 wb_ref01_CRC_0 (.loop wl_ref01_CRC_0 c_ref01_CRC_l0))) c_ref01_CRC_k1)))
theorem comp_ref01_CRC : compF Try.prog (mset [] [] []) (cset [] [] []) (wset [(2, wl_ref01_CRC_2, wb_ref01_CRC_2), (1, ⟨[], []⟩, wb_ref01_CRC_1), (0, wl_ref01_CRC_0, wb_ref01_CRC_0)] []) Try.f120 = some c_ref01_CRC := by kernel_rfl
theorem ok_ref01_CRC : fnOk Try.prog F_ref01_CRC = true := by kernel_rfl
theorem calls_ref01_CRC {args : List AV} {r : AV} (h : RunsX Try.prog 0 (Gives [.t 2] r) [.c c_ref01_CRC] (args ++ List.replicate (38 - args.length) (.tup [])) [] zeroC) : PCalls Try.prog F_ref01_CRC args r :=
  pcallsF Try.checked.mixed Try.func120 ok_ref01_CRC comp_ref01_CRC rfl (rs := [.t 2]) (by kernel_rfl) h
theorem hcalls_ref01_CRC {args : List AV} {Hin Hout : Heap} {nx nx2 : Ctr} {r : AV} (φ : Nat) (ks : List (Nat × Nat)) (h : RunsX Try.prog φ (GivesH ks [.t 2] r Hout nx2) [.c c_ref01_CRC] (args ++ List.replicate (38 - args.length) (.tup [])) Hin nx) : HCalls Try.prog F_ref01_CRC args Hin nx r Hout nx2 :=
  hcallsF Try.checked.mixed Try.func120 ok_ref01_CRC comp_ref01_CRC rfl (rs := [.t 2]) (by kernel_rfl) φ ks h

def tab_CdSum : List (Nat × Cd × Nat × List RS) := [(F_sum_add, c_sum_add, 22, [.t 4]), (F_sum_CRC, c_sum_CRC, 18, [.t 2]), (F_ref01_CRC, c_ref01_CRC, 38, [.t 2])]
theorem tok_CdSum : TabOk Try.prog (tabOf tab_CdSum) := tab_cons calls_sum_add hcalls_sum_add (tab_cons calls_sum_CRC hcalls_sum_CRC (tab_cons calls_ref01_CRC hcalls_ref01_CRC (tab_nil)))
end Go.Proofs.Ytmokhopjnjecbab
/- Whole numbers of the machine's kinds, as naturals; the sums by arithmetic alone. -/
set_option linter.unusedSimpArgs false
namespace Go.Ev
set_option linter.unusedVariables false

theorem bv_toNat (n a : Nat) (h : a < 2 ^ n) : (BitVec.ofInt n (a : Int)).toNat = a := by
  rw [BitVec.toNat_ofInt]
  have : ((a : Int) % ((2 ^ n : Nat) : Int)).toNat = a := by
    rw [← Int.natCast_emod, Int.toNat_natCast, Nat.mod_eq_of_lt h]
  exact this
theorem wrap_nat (k : IntKind) (hk : k.signed = false) (a : Nat) (h : a < 2 ^ k.bits) : k.wrap (a : Int) = (a : Int) := by
  have : ((a : Int) % ((2 ^ k.bits : Nat) : Int)) = (a : Int) := by
    rw [← Int.natCast_emod, Nat.mod_eq_of_lt h]
  have e : ((2 : Int) ^ k.bits) = ((2 ^ k.bits : Nat) : Int) := by simp
  simp only [IntKind.wrap, hk, Bool.false_and, Bool.false_eq_true, if_false, e, this]
theorem ibits_xor (k : IntKind) (hk : k.signed = false) (a b : Nat) (ha : a < 2 ^ k.bits) (hb : b < 2 ^ k.bits) : ibits .xor k a b = ((a ^^^ b : Nat) : Int) := by
  simp only [ibits, BitVec.toNat_xor, bv_toNat _ _ ha, bv_toNat _ _ hb]
  exact wrap_nat k hk _ (Nat.xor_lt_two_pow ha hb)
theorem ibits_and (k : IntKind) (hk : k.signed = false) (a b : Nat) (ha : a < 2 ^ k.bits) (hb : b < 2 ^ k.bits) : ibits .and k a b = ((a &&& b : Nat) : Int) := by
  simp only [ibits, BitVec.toNat_and, bv_toNat _ _ ha, bv_toNat _ _ hb]
  exact wrap_nat k hk _ (Nat.lt_of_le_of_lt Nat.and_le_left ha)
theorem ishr_nat (k k2 : IntKind) (a b : Nat) (hb : b ≤ k.bits) : ishr k a b = ((a / 2 ^ b : Nat) : Int) := by
  have h1 : min (Int.toNat (b : Int)) k.bits = b := by rw [Int.toNat_natCast]; exact Nat.min_eq_left hb
  simp only [ishr, h1]
  have e : ((2 : Int) ^ b) = ((2 ^ b : Nat) : Int) := by simp
  rw [e, Int.fdiv_eq_ediv_of_nonneg _ (Int.natCast_nonneg _)]
  simp
/-- Bytes. -/
def avs (bs : List Nat) : List AV := bs.map fun (b : Nat) => .int .u8 (b : Int)
theorem avs_get (bs : List Nat) (i : Nat) : (avs bs)[i]? = (bs[i]?).map fun (b : Nat) => AV.int .u8 (b : Int) := by simp [avs]
theorem avs_len (bs : List Nat) : (avs bs).length = bs.length := by simp [avs]
theorem frz_ints {α : Type} (n : Nat) (H : Heap) : ∀ (bs : List Nat) (ok : List AV → List (Nat × Nat) → α) (bad : α), mapK (frzK (n + 1) H) (avs bs) ok bad = ok (avs bs) []
  | [], ok, bad => rfl
  | b :: bs, ok, bad => by
    have ih := frz_ints (α := α) n H bs
    simp only [avs, List.map_cons, mapK, frzK] at ih ⊢
    rw [ih]; rfl

def cstep (s : Nat) : Nat := if s % 2 = 1 then (s / 2) ^^^ 2197175160 else s / 2
def csteps : Nat → Nat → Nat
  | 0, s => s
  | n + 1, s => csteps n (cstep s)
def add (s b : Nat) : Nat := csteps 8 (s ^^^ b)
def crcOf (bs : List Nat) : Nat := (bs.foldl add 4294967295) ^^^ 4294967295
theorem cstep_lt {s : Nat} (h : s < 2 ^ 32) : cstep s < 2 ^ 32 := by
  unfold cstep
  have h2 : s / 2 < 2 ^ 32 := by omega
  split
  · exact Nat.xor_lt_two_pow h2 (by decide)
  · exact h2
theorem csteps_lt : ∀ (n : Nat) {s : Nat}, s < 2 ^ 32 → csteps n s < 2 ^ 32
  | 0, _, h => h
  | n + 1, _, h => csteps_lt n (cstep_lt h)
theorem add_lt {s b : Nat} (hs : s < 2 ^ 32) (hb : b < 256) : add s b < 2 ^ 32 := csteps_lt 8 (Nat.xor_lt_two_pow hs (by omega))
theorem fold_lt : ∀ (bs : List Nat) {s : Nat}, s < 2 ^ 32 → (∀ b ∈ bs, b < 256) → bs.foldl add s < 2 ^ 32
  | [], _, h, _ => h
  | b :: bs, _, h, hb => fold_lt bs (add_lt h (hb b (List.mem_cons_self))) (fun c hc => hb c (List.mem_cons_of_mem _ hc))

def rbit (r b j : Nat) : Nat := (r % 2) ^^^ ((b / 2 ^ j) % 2)
def rstep (r b j : Nat) : Nat := if rbit r b j = 1 then (r / 2) ^^^ 2197175160 else r / 2
def rsteps : Nat → Nat → Nat → Nat → Nat
  | 0, r, _, _ => r
  | n + 1, r, b, j => rsteps n (rstep r b j) b (j + 1)
theorem xor_half (x y : Nat) : (x ^^^ y) / 2 = x / 2 ^^^ y / 2 := by
  have := @Nat.shiftRight_xor_distrib 1 x y
  simpa [Nat.shiftRight_eq_div_pow] using this
theorem xor_two (x y : Nat) : (x ^^^ y) % 2 = (x % 2) ^^^ (y % 2) := by
  have := @Nat.xor_mod_two_pow x y 1
  simpa using this
theorem cstep_rstep (r b j : Nat) : cstep (r ^^^ b / 2 ^ j) = rstep r b j ^^^ (b / 2 ^ (j + 1)) := by
  have e1 : b / 2 ^ j / 2 = b / 2 ^ (j + 1) := by rw [Nat.div_div_eq_div_mul, Nat.pow_succ]
  unfold cstep rstep rbit
  rw [xor_two, xor_half, e1]
  split
  · rw [Nat.xor_assoc, Nat.xor_comm (b / 2 ^ (j + 1)), ← Nat.xor_assoc]
  · rfl
theorem csteps_rsteps : ∀ (n r b j : Nat), csteps n (r ^^^ b / 2 ^ j) = rsteps n r b j ^^^ (b / 2 ^ (j + n))
  | 0, r, b, j => rfl
  | n + 1, r, b, j => by
    simp only [csteps, rsteps]
    rw [cstep_rstep, csteps_rsteps n (rstep r b j) b (j + 1)]
    congr 2
    rw [Nat.add_right_comm, Nat.add_assoc]
theorem rsteps_add (r b : Nat) (hb : b < 256) : rsteps 8 r b 0 = add r b := by
  have := csteps_rsteps 8 r b 0
  have e : b / 2 ^ (0 + 8) = 0 := Nat.div_eq_of_lt hb
  rw [e] at this
  simpa [add] using this.symm
theorem rstep_lt {r b j : Nat} (h : r < 2 ^ 32) : rstep r b j < 2 ^ 32 := by
  unfold rstep
  have h2 : r / 2 < 2 ^ 32 := by omega
  split
  · exact Nat.xor_lt_two_pow h2 (by decide)
  · exact h2
end Go.Ev
/- The walk through the sum functions. -/
namespace Go.Proofs.Ytmokhopjnjecbab
open Go.Ev
set_option linter.unusedVariables false
set_option linter.unusedSimpArgs false
set_option maxRecDepth 100000
variable {R : List AV → Heap → Ctr → Prop} {k : List It} {H : Heap} {nx : Ctr} {φ : Nat}

theorem add_loop (hk : flat k) : ∀ (n i s : Nat), i + n = 8 → s < 2 ^ 32 → RunsX Try.prog φ R k (e_sum_add_0 (.int .u32 (csteps n s : Nat))) H nx →
    RunsX Try.prog φ R (i_sum_add_0 ++ k) (s_sum_add_0 (.int .u32 (s : Nat)) (.int .i64 (i : Nat))) H nx := by
  intro n
  induction n with
  | zero =>
    intro i s hi hs h
    simp only [csteps] at h
    refine round (its := [.blk 0 wb_sum_add_0]) 60 hk trivial (fun A eA => ?_)
    obtain rfl : i = 8 := by omega
    simp only [c_sum_add, wl_sum_add_0, s_sum_add_0, c_sum_add_l0, wb_sum_add_0, c_sum_add_k0, ↓advStep, ↓execK, ↓opK, ↓binK, ↓intK, ↓strK, evs, ev, getT, setT, put, List.replicate, List.cons_append, List.nil_append, List.length_cons, List.length_nil, ↓mapK, ↓frzK_sl, ↓frzK_agg, ↓frzK_tup, ↓frzK_ifc, ↓frzK_func, ↓frzK_int, ↓frzK_bool, ↓frzK_str, ↓frzK_nilp, ↓frzK_nils, ↓frzK_nilm, ↓frzK_nilf, ↓frzK_nili, ↓frzK_fz, ↓frzK_any, ↓frzK_ptr, ↓frzK_ro, ↓getB, setB, kill, killM, dropK, keysOf, capOf_nn, zeroC, bump, frzT, thaw, gets, putAll, ↓getsK, ↓getR, ↓retK, retv, find, cells, ↓nilpK, ↓nilsK, ↓nilfK, ↓niliK, ↓bndK, ↓cutK, ↓fillK, ↓exitK, List.append_nil, List.drop, List.take, Nat.reduceAdd, Nat.reduceSub, Nat.reduceMul, Nat.reduceLT, Nat.reduceLeDiff, Nat.zero_add, Nat.add_zero, Nat.mul_one, Int.reduceToNat, Nat.reduceEqDiff, Nat.succ_ne_self, Nat.le_refl, Nat.one_ne_zero, Nat.reduceBEq, Nat.lt_irrefl, List.length_append, Int.toNat_zero, Int.toNat_one, List.take_zero, List.drop_zero, Nat.zero_mul, sel, rest, keyIn, ↓reduceIte, ↓if_pos, ↓if_neg, reduceCtorEq, Bool.not_true, Bool.not_false, Bool.false_eq_true, Bool.true_eq_false, and_self, and_true, true_and, false_and, and_false, decide_true, decide_false, decide_eq_true, decide_eq_false, decide_eq_true_eq, decide_eq_false_iff_not, Bool.not_eq_true, Bool.not_eq_false, Bool.not_eq_eq_eq_not, Decidable.not_not, eA]
    exact h
  | succ n ih =>
    intro i s hi hs h
    simp only [csteps] at h
    refine round (its := [.blk 0 wb_sum_add_0]) 60 hk trivial (fun A eA => ?_)
    have h1 : (i : Int) < 8 := by omega
    have e1 : ibits .and .u32 (s : Int) 1 = ((s % 2 : Nat) : Int) := by
      have := ibits_and .u32 rfl s 1 hs (by decide)
      rw [Nat.and_one_is_mod] at this; exact this
    have e2 : ishr .u32 (s : Int) 1 = ((s / 2 : Nat) : Int) := by
      have := ishr_nat .u32 .u64 s 1 (by decide); simpa using this
    have e3 : ibits .xor .u32 ((s / 2 : Nat) : Int) 2197175160 = ((s / 2 ^^^ 2197175160 : Nat) : Int) := ibits_xor .u32 rfl (s / 2) 2197175160 (by show s / 2 < 2 ^ 32; omega) (by decide)
    have e4 : IntKind.i64.wrap ((i : Int) + 1) = ((i + 1 : Nat) : Int) := by
      rw [IntKind.wrap_i64]; omega
    have hst := cstep_lt hs
    by_cases hb : s % 2 = 1
    · have e5 : cstep s = s / 2 ^^^ 2197175160 := by simp [cstep, hb]
      have e6 : (((s % 2 : Nat) : Int) = 1) := by omega
      simp only [c_sum_add, wl_sum_add_0, s_sum_add_0, c_sum_add_l0, wb_sum_add_0, c_sum_add_k0, ↓advStep, ↓execK, ↓opK, ↓binK, ↓intK, ↓strK, evs, ev, getT, setT, put, List.replicate, List.cons_append, List.nil_append, List.length_cons, List.length_nil, ↓mapK, ↓frzK_sl, ↓frzK_agg, ↓frzK_tup, ↓frzK_ifc, ↓frzK_func, ↓frzK_int, ↓frzK_bool, ↓frzK_str, ↓frzK_nilp, ↓frzK_nils, ↓frzK_nilm, ↓frzK_nilf, ↓frzK_nili, ↓frzK_fz, ↓frzK_any, ↓frzK_ptr, ↓frzK_ro, ↓getB, setB, kill, killM, dropK, keysOf, capOf_nn, zeroC, bump, frzT, thaw, gets, putAll, ↓getsK, ↓getR, ↓retK, retv, find, cells, ↓nilpK, ↓nilsK, ↓nilfK, ↓niliK, ↓bndK, ↓cutK, ↓fillK, ↓exitK, List.append_nil, List.drop, List.take, Nat.reduceAdd, Nat.reduceSub, Nat.reduceMul, Nat.reduceLT, Nat.reduceLeDiff, Nat.zero_add, Nat.add_zero, Nat.mul_one, Int.reduceToNat, Nat.reduceEqDiff, Nat.succ_ne_self, Nat.le_refl, Nat.one_ne_zero, Nat.reduceBEq, Nat.lt_irrefl, List.length_append, Int.toNat_zero, Int.toNat_one, List.take_zero, List.drop_zero, Nat.zero_mul, sel, rest, keyIn, ↓reduceIte, ↓if_pos, ↓if_neg, reduceCtorEq, Bool.not_true, Bool.not_false, Bool.false_eq_true, Bool.true_eq_false, and_self, and_true, true_and, false_and, and_false, decide_true, decide_false, decide_eq_true, decide_eq_false, decide_eq_true_eq, decide_eq_false_iff_not, Bool.not_eq_true, Bool.not_eq_false, Bool.not_eq_eq_eq_not, Decidable.not_not, eA, h1, e1, e2, e3, e4, e6]
      rw [← e5]
      exact ih (i + 1) (cstep s) (by omega) hst h
    · have e5 : cstep s = s / 2 := by simp [cstep, hb]
      have e6 : ¬ (((s % 2 : Nat) : Int) = 1) := by omega
      simp only [c_sum_add, wl_sum_add_0, s_sum_add_0, c_sum_add_l0, wb_sum_add_0, c_sum_add_k0, ↓advStep, ↓execK, ↓opK, ↓binK, ↓intK, ↓strK, evs, ev, getT, setT, put, List.replicate, List.cons_append, List.nil_append, List.length_cons, List.length_nil, ↓mapK, ↓frzK_sl, ↓frzK_agg, ↓frzK_tup, ↓frzK_ifc, ↓frzK_func, ↓frzK_int, ↓frzK_bool, ↓frzK_str, ↓frzK_nilp, ↓frzK_nils, ↓frzK_nilm, ↓frzK_nilf, ↓frzK_nili, ↓frzK_fz, ↓frzK_any, ↓frzK_ptr, ↓frzK_ro, ↓getB, setB, kill, killM, dropK, keysOf, capOf_nn, zeroC, bump, frzT, thaw, gets, putAll, ↓getsK, ↓getR, ↓retK, retv, find, cells, ↓nilpK, ↓nilsK, ↓nilfK, ↓niliK, ↓bndK, ↓cutK, ↓fillK, ↓exitK, List.append_nil, List.drop, List.take, Nat.reduceAdd, Nat.reduceSub, Nat.reduceMul, Nat.reduceLT, Nat.reduceLeDiff, Nat.zero_add, Nat.add_zero, Nat.mul_one, Int.reduceToNat, Nat.reduceEqDiff, Nat.succ_ne_self, Nat.le_refl, Nat.one_ne_zero, Nat.reduceBEq, Nat.lt_irrefl, List.length_append, Int.toNat_zero, Int.toNat_one, List.take_zero, List.drop_zero, Nat.zero_mul, sel, rest, keyIn, ↓reduceIte, ↓if_pos, ↓if_neg, reduceCtorEq, Bool.not_true, Bool.not_false, Bool.false_eq_true, Bool.true_eq_false, and_self, and_true, true_and, false_and, and_false, decide_true, decide_false, decide_eq_true, decide_eq_false, decide_eq_true_eq, decide_eq_false_iff_not, Bool.not_eq_true, Bool.not_eq_false, Bool.not_eq_eq_eq_not, Decidable.not_not, eA, h1, e1, e2, e3, e4, e6]
      rw [← e5]
      exact ih (i + 1) (cstep s) (by omega) hst h
theorem add_calls (s b : Nat) (hs : s < 2 ^ 32) (hb : b < 256) : PCalls Try.prog F_sum_add [.int .u32 (s : Nat), .int .u8 (b : Nat)] (.int .u32 (add s b : Nat)) := by
  refine calls_sum_add (walk0 60 trivial (fun A eA => ?_))
  have e1 : IntKind.u32.wrap (b : Int) = ((b : Nat) : Int) := wrap_nat .u32 rfl b (by show b < 2 ^ 32; omega)
  have e2 : ibits .xor .u32 (s : Int) (b : Int) = ((s ^^^ b : Nat) : Int) := ibits_xor .u32 rfl s b hs (by show b < 2 ^ 32; omega)
  simp only [c_sum_add, wl_sum_add_0, s_sum_add_0, c_sum_add_l0, wb_sum_add_0, c_sum_add_k0, ↓advStep, ↓execK, ↓opK, ↓binK, ↓intK, ↓strK, evs, ev, getT, setT, put, List.replicate, List.cons_append, List.nil_append, List.length_cons, List.length_nil, ↓mapK, ↓frzK_sl, ↓frzK_agg, ↓frzK_tup, ↓frzK_ifc, ↓frzK_func, ↓frzK_int, ↓frzK_bool, ↓frzK_str, ↓frzK_nilp, ↓frzK_nils, ↓frzK_nilm, ↓frzK_nilf, ↓frzK_nili, ↓frzK_fz, ↓frzK_any, ↓frzK_ptr, ↓frzK_ro, ↓getB, setB, kill, killM, dropK, keysOf, capOf_nn, zeroC, bump, frzT, thaw, gets, putAll, ↓getsK, ↓getR, ↓retK, retv, find, cells, ↓nilpK, ↓nilsK, ↓nilfK, ↓niliK, ↓bndK, ↓cutK, ↓fillK, ↓exitK, List.append_nil, List.drop, List.take, Nat.reduceAdd, Nat.reduceSub, Nat.reduceMul, Nat.reduceLT, Nat.reduceLeDiff, Nat.zero_add, Nat.add_zero, Nat.mul_one, Int.reduceToNat, Nat.reduceEqDiff, Nat.succ_ne_self, Nat.le_refl, Nat.one_ne_zero, Nat.reduceBEq, Nat.lt_irrefl, List.length_append, Int.toNat_zero, Int.toNat_one, List.take_zero, List.drop_zero, Nat.zero_mul, sel, rest, keyIn, ↓reduceIte, ↓if_pos, ↓if_neg, reduceCtorEq, Bool.not_true, Bool.not_false, Bool.false_eq_true, Bool.true_eq_false, and_self, and_true, true_and, false_and, and_false, decide_true, decide_false, decide_eq_true, decide_eq_false, decide_eq_true_eq, decide_eq_false_iff_not, Bool.not_eq_true, Bool.not_eq_false, Bool.not_eq_eq_eq_not, Decidable.not_not, eA, e1, e2]
  refine add_loop (k := [.c c_sum_add_k0]) trivial 8 0 _ rfl (Nat.xor_lt_two_pow hs (by omega)) ?_
  refine walk0 60 trivial (fun A eA => ?_)
  simp only [c_sum_add, wl_sum_add_0, s_sum_add_0, c_sum_add_l0, wb_sum_add_0, c_sum_add_k0, ↓advStep, ↓execK, ↓opK, ↓binK, ↓intK, ↓strK, evs, ev, getT, setT, put, List.replicate, List.cons_append, List.nil_append, List.length_cons, List.length_nil, ↓mapK, ↓frzK_sl, ↓frzK_agg, ↓frzK_tup, ↓frzK_ifc, ↓frzK_func, ↓frzK_int, ↓frzK_bool, ↓frzK_str, ↓frzK_nilp, ↓frzK_nils, ↓frzK_nilm, ↓frzK_nilf, ↓frzK_nili, ↓frzK_fz, ↓frzK_any, ↓frzK_ptr, ↓frzK_ro, ↓getB, setB, kill, killM, dropK, keysOf, capOf_nn, zeroC, bump, frzT, thaw, gets, putAll, ↓getsK, ↓getR, ↓retK, retv, find, cells, ↓nilpK, ↓nilsK, ↓nilfK, ↓niliK, ↓bndK, ↓cutK, ↓fillK, ↓exitK, List.append_nil, List.drop, List.take, Nat.reduceAdd, Nat.reduceSub, Nat.reduceMul, Nat.reduceLT, Nat.reduceLeDiff, Nat.zero_add, Nat.add_zero, Nat.mul_one, Int.reduceToNat, Nat.reduceEqDiff, Nat.succ_ne_self, Nat.le_refl, Nat.one_ne_zero, Nat.reduceBEq, Nat.lt_irrefl, List.length_append, Int.toNat_zero, Int.toNat_one, List.take_zero, List.drop_zero, Nat.zero_mul, sel, rest, keyIn, ↓reduceIte, ↓if_pos, ↓if_neg, reduceCtorEq, Bool.not_true, Bool.not_false, Bool.false_eq_true, Bool.true_eq_false, and_self, and_true, true_and, false_and, and_false, decide_true, decide_false, decide_eq_true, decide_eq_false, decide_eq_true_eq, decide_eq_false_iff_not, Bool.not_eq_true, Bool.not_eq_false, Bool.not_eq_eq_eq_not, Decidable.not_not, eA]
  exact doneG rfl
theorem crc_loop (bs : List Nat) (hbs : ∀ b ∈ bs, b < 256) (hlen : bs.length ≤ 140737488351232) (hk : flat k) : ∀ (post pre : List Nat), bs = pre ++ post → ∀ (s : Nat), s < 2 ^ 32 →
    RunsX Try.prog φ R k (e_sum_CRC_0 (.int .u32 (post.foldl add s : Nat))) H nx →
    RunsX Try.prog φ R (i_sum_CRC_0 ++ k) (s_sum_CRC_0 (.int .u32 (s : Nat)) (.fz 1 (avs bs) none) (.int .i64 (bs.length : Nat)) (.int .i64 (pre.length : Nat))) H nx := by
  intro post
  induction post with
  | nil =>
    intro pre hpre s hs h
    simp only [List.foldl_nil] at h
    refine round (its := [.blk 0 wb_sum_CRC_0]) 60 hk trivial (fun A eA => ?_)
    rw [List.append_nil] at hpre
    subst hpre
    have h1 : ¬ ((bs.length : Int) < bs.length) := by omega
    simp only [c_sum_CRC, wl_sum_CRC_0, s_sum_CRC_0, c_sum_CRC_l0, wb_sum_CRC_0, c_sum_CRC_k0, ↓advStep, ↓execK, ↓opK, ↓binK, ↓intK, ↓strK, evs, ev, getT, setT, put, List.replicate, List.cons_append, List.nil_append, List.length_cons, List.length_nil, ↓mapK, ↓frzK_sl, ↓frzK_agg, ↓frzK_tup, ↓frzK_ifc, ↓frzK_func, ↓frzK_int, ↓frzK_bool, ↓frzK_str, ↓frzK_nilp, ↓frzK_nils, ↓frzK_nilm, ↓frzK_nilf, ↓frzK_nili, ↓frzK_fz, ↓frzK_any, ↓frzK_ptr, ↓frzK_ro, ↓getB, setB, kill, killM, dropK, keysOf, capOf_nn, zeroC, bump, frzT, thaw, gets, putAll, ↓getsK, ↓getR, ↓retK, retv, find, cells, ↓nilpK, ↓nilsK, ↓nilfK, ↓niliK, ↓bndK, ↓cutK, ↓fillK, ↓exitK, List.append_nil, List.drop, List.take, Nat.reduceAdd, Nat.reduceSub, Nat.reduceMul, Nat.reduceLT, Nat.reduceLeDiff, Nat.zero_add, Nat.add_zero, Nat.mul_one, Int.reduceToNat, Nat.reduceEqDiff, Nat.succ_ne_self, Nat.le_refl, Nat.one_ne_zero, Nat.reduceBEq, Nat.lt_irrefl, List.length_append, Int.toNat_zero, Int.toNat_one, List.take_zero, List.drop_zero, Nat.zero_mul, sel, rest, keyIn, ↓reduceIte, ↓if_pos, ↓if_neg, reduceCtorEq, Bool.not_true, Bool.not_false, Bool.false_eq_true, Bool.true_eq_false, and_self, and_true, true_and, false_and, and_false, decide_true, decide_false, decide_eq_true, decide_eq_false, decide_eq_true_eq, decide_eq_false_iff_not, Bool.not_eq_true, Bool.not_eq_false, Bool.not_eq_eq_eq_not, Decidable.not_not, eA, h1]
    exact h
  | cons b post ih =>
    intro pre hpre s hs h
    simp only [List.foldl_cons] at h
    have hl : pre.length < bs.length := by rw [hpre]; simp
    have hb : b < 256 := hbs b (by rw [hpre]; simp)
    have h1 : (pre.length : Int) < bs.length := by omega
    have h2 : ¬ ((pre.length : Int) < 0) := by omega
    have e1 : (avs bs)[(pre.length : Int).toNat]? = some (.int .u8 (b : Nat)) := by
      rw [Int.toNat_natCast, avs_get, hpre, List.getElem?_append_right (Nat.le_refl _), Nat.sub_self]; rfl
    have e4 : IntKind.i64.wrap ((pre.length : Int) + 1) = ((pre.length + 1 : Nat) : Int) := by
      rw [IntKind.wrap_i64]; omega
    refine round (its := [.blk 0 wb_sum_CRC_0]) 60 hk trivial (fun A eA => ?_)
    simp only [c_sum_CRC, wl_sum_CRC_0, s_sum_CRC_0, c_sum_CRC_l0, wb_sum_CRC_0, c_sum_CRC_k0, ↓advStep, ↓execK, ↓opK, ↓binK, ↓intK, ↓strK, evs, ev, getT, setT, put, List.replicate, List.cons_append, List.nil_append, List.length_cons, List.length_nil, ↓mapK, ↓frzK_sl, ↓frzK_agg, ↓frzK_tup, ↓frzK_ifc, ↓frzK_func, ↓frzK_int, ↓frzK_bool, ↓frzK_str, ↓frzK_nilp, ↓frzK_nils, ↓frzK_nilm, ↓frzK_nilf, ↓frzK_nili, ↓frzK_fz, ↓frzK_any, ↓frzK_ptr, ↓frzK_ro, ↓getB, setB, kill, killM, dropK, keysOf, capOf_nn, zeroC, bump, frzT, thaw, gets, putAll, ↓getsK, ↓getR, ↓retK, retv, find, cells, ↓nilpK, ↓nilsK, ↓nilfK, ↓niliK, ↓bndK, ↓cutK, ↓fillK, ↓exitK, List.append_nil, List.drop, List.take, Nat.reduceAdd, Nat.reduceSub, Nat.reduceMul, Nat.reduceLT, Nat.reduceLeDiff, Nat.zero_add, Nat.add_zero, Nat.mul_one, Int.reduceToNat, Nat.reduceEqDiff, Nat.succ_ne_self, Nat.le_refl, Nat.one_ne_zero, Nat.reduceBEq, Nat.lt_irrefl, List.length_append, Int.toNat_zero, Int.toNat_one, List.take_zero, List.drop_zero, Nat.zero_mul, sel, rest, keyIn, ↓reduceIte, ↓if_pos, ↓if_neg, reduceCtorEq, Bool.not_true, Bool.not_false, Bool.false_eq_true, Bool.true_eq_false, and_self, and_true, true_and, false_and, and_false, decide_true, decide_false, decide_eq_true, decide_eq_false, decide_eq_true_eq, decide_eq_false_iff_not, Bool.not_eq_true, Bool.not_eq_false, Bool.not_eq_eq_eq_not, Decidable.not_not, eA, h1, h2, e1]
    refine call0 60 hk trivial (add_calls s b hs hb) (.inl rfl) (fun A eA => ?_)
    simp only [c_sum_CRC, wl_sum_CRC_0, s_sum_CRC_0, c_sum_CRC_l0, wb_sum_CRC_0, c_sum_CRC_k0, ↓advStep, ↓execK, ↓opK, ↓binK, ↓intK, ↓strK, evs, ev, getT, setT, put, List.replicate, List.cons_append, List.nil_append, List.length_cons, List.length_nil, ↓mapK, ↓frzK_sl, ↓frzK_agg, ↓frzK_tup, ↓frzK_ifc, ↓frzK_func, ↓frzK_int, ↓frzK_bool, ↓frzK_str, ↓frzK_nilp, ↓frzK_nils, ↓frzK_nilm, ↓frzK_nilf, ↓frzK_nili, ↓frzK_fz, ↓frzK_any, ↓frzK_ptr, ↓frzK_ro, ↓getB, setB, kill, killM, dropK, keysOf, capOf_nn, zeroC, bump, frzT, thaw, gets, putAll, ↓getsK, ↓getR, ↓retK, retv, find, cells, ↓nilpK, ↓nilsK, ↓nilfK, ↓niliK, ↓bndK, ↓cutK, ↓fillK, ↓exitK, List.append_nil, List.drop, List.take, Nat.reduceAdd, Nat.reduceSub, Nat.reduceMul, Nat.reduceLT, Nat.reduceLeDiff, Nat.zero_add, Nat.add_zero, Nat.mul_one, Int.reduceToNat, Nat.reduceEqDiff, Nat.succ_ne_self, Nat.le_refl, Nat.one_ne_zero, Nat.reduceBEq, Nat.lt_irrefl, List.length_append, Int.toNat_zero, Int.toNat_one, List.take_zero, List.drop_zero, Nat.zero_mul, sel, rest, keyIn, ↓reduceIte, ↓if_pos, ↓if_neg, reduceCtorEq, Bool.not_true, Bool.not_false, Bool.false_eq_true, Bool.true_eq_false, and_self, and_true, true_and, false_and, and_false, decide_true, decide_false, decide_eq_true, decide_eq_false, decide_eq_true_eq, decide_eq_false_iff_not, Bool.not_eq_true, Bool.not_eq_false, Bool.not_eq_eq_eq_not, Decidable.not_not, eA, e4]
    have hn := ih (pre ++ [b]) (by rw [hpre]; simp) (add s b) (add_lt hs hb) h
    rw [show (pre ++ [b]).length = pre.length + 1 by simp] at hn
    exact hn
theorem crc_calls (bs : List Nat) (hbs : ∀ b ∈ bs, b < 256) (hlen : bs.length ≤ 140737488351232) : PCalls Try.prog F_sum_CRC [.fz 1 (avs bs) none] (.int .u32 (crcOf bs : Nat)) := by
  refine calls_sum_CRC (walk0 60 trivial (fun A eA => ?_))
  simp only [c_sum_CRC, wl_sum_CRC_0, s_sum_CRC_0, c_sum_CRC_l0, wb_sum_CRC_0, c_sum_CRC_k0, ↓advStep, ↓execK, ↓opK, ↓binK, ↓intK, ↓strK, evs, ev, getT, setT, put, List.replicate, List.cons_append, List.nil_append, List.length_cons, List.length_nil, ↓mapK, ↓frzK_sl, ↓frzK_agg, ↓frzK_tup, ↓frzK_ifc, ↓frzK_func, ↓frzK_int, ↓frzK_bool, ↓frzK_str, ↓frzK_nilp, ↓frzK_nils, ↓frzK_nilm, ↓frzK_nilf, ↓frzK_nili, ↓frzK_fz, ↓frzK_any, ↓frzK_ptr, ↓frzK_ro, ↓getB, setB, kill, killM, dropK, keysOf, capOf_nn, zeroC, bump, frzT, thaw, gets, putAll, ↓getsK, ↓getR, ↓retK, retv, find, cells, ↓nilpK, ↓nilsK, ↓nilfK, ↓niliK, ↓bndK, ↓cutK, ↓fillK, ↓exitK, List.append_nil, List.drop, List.take, Nat.reduceAdd, Nat.reduceSub, Nat.reduceMul, Nat.reduceLT, Nat.reduceLeDiff, Nat.zero_add, Nat.add_zero, Nat.mul_one, Int.reduceToNat, Nat.reduceEqDiff, Nat.succ_ne_self, Nat.le_refl, Nat.one_ne_zero, Nat.reduceBEq, Nat.lt_irrefl, List.length_append, Int.toNat_zero, Int.toNat_one, List.take_zero, List.drop_zero, Nat.zero_mul, sel, rest, keyIn, ↓reduceIte, ↓if_pos, ↓if_neg, reduceCtorEq, Bool.not_true, Bool.not_false, Bool.false_eq_true, Bool.true_eq_false, and_self, and_true, true_and, false_and, and_false, decide_true, decide_false, decide_eq_true, decide_eq_false, decide_eq_true_eq, decide_eq_false_iff_not, Bool.not_eq_true, Bool.not_eq_false, Bool.not_eq_eq_eq_not, Decidable.not_not, eA, avs_len]
  refine crc_loop bs hbs hlen (k := [.c c_sum_CRC_k0]) trivial bs [] rfl 4294967295 (by decide) ?_
  refine walk0 60 trivial (fun A eA => ?_)
  have e2 : ibits .xor .u32 ((bs.foldl add 4294967295 : Nat) : Int) 4294967295 = ((crcOf bs : Nat) : Int) := ibits_xor .u32 rfl _ 4294967295 (fold_lt bs (by decide) hbs) (by decide)
  simp only [c_sum_CRC, wl_sum_CRC_0, s_sum_CRC_0, c_sum_CRC_l0, wb_sum_CRC_0, c_sum_CRC_k0, ↓advStep, ↓execK, ↓opK, ↓binK, ↓intK, ↓strK, evs, ev, getT, setT, put, List.replicate, List.cons_append, List.nil_append, List.length_cons, List.length_nil, ↓mapK, ↓frzK_sl, ↓frzK_agg, ↓frzK_tup, ↓frzK_ifc, ↓frzK_func, ↓frzK_int, ↓frzK_bool, ↓frzK_str, ↓frzK_nilp, ↓frzK_nils, ↓frzK_nilm, ↓frzK_nilf, ↓frzK_nili, ↓frzK_fz, ↓frzK_any, ↓frzK_ptr, ↓frzK_ro, ↓getB, setB, kill, killM, dropK, keysOf, capOf_nn, zeroC, bump, frzT, thaw, gets, putAll, ↓getsK, ↓getR, ↓retK, retv, find, cells, ↓nilpK, ↓nilsK, ↓nilfK, ↓niliK, ↓bndK, ↓cutK, ↓fillK, ↓exitK, List.append_nil, List.drop, List.take, Nat.reduceAdd, Nat.reduceSub, Nat.reduceMul, Nat.reduceLT, Nat.reduceLeDiff, Nat.zero_add, Nat.add_zero, Nat.mul_one, Int.reduceToNat, Nat.reduceEqDiff, Nat.succ_ne_self, Nat.le_refl, Nat.one_ne_zero, Nat.reduceBEq, Nat.lt_irrefl, List.length_append, Int.toNat_zero, Int.toNat_one, List.take_zero, List.drop_zero, Nat.zero_mul, sel, rest, keyIn, ↓reduceIte, ↓if_pos, ↓if_neg, reduceCtorEq, Bool.not_true, Bool.not_false, Bool.false_eq_true, Bool.true_eq_false, and_self, and_true, true_and, false_and, and_false, decide_true, decide_false, decide_eq_true, decide_eq_false, decide_eq_true_eq, decide_eq_false_iff_not, Bool.not_eq_true, Bool.not_eq_false, Bool.not_eq_eq_eq_not, Decidable.not_not, eA, e2]
  exact doneG rfl
theorem bits_loop (bs : List Nat) (i b : Nat) (hi : bs[i]? = some b) (hb : b < 256) (a8 a9 : AV) (hk : flat k) : ∀ (n j r : Nat), j + n = 8 → r < 2 ^ 32 →
    RunsX Try.prog φ R k (e_ref01_CRC_2 (.fz 1 (avs bs) none) (.int .u64 (rsteps n r b j : Nat)) a8 a9) H nx →
    RunsX Try.prog φ R (i_ref01_CRC_2 ++ k) (s_ref01_CRC_2 (.fz 1 (avs bs) none) (.int .u64 (r : Nat)) (.int .i64 (i : Nat)) a8 a9 (.int .i64 (j : Nat))) H nx := by
  intro n
  induction n with
  | zero =>
    intro j r hj hr h
    simp only [rsteps] at h
    refine round (its := [.blk 2 wb_ref01_CRC_2]) 60 hk trivial (fun A eA => ?_)
    obtain rfl : j = 8 := by omega
    simp only [c_ref01_CRC, wl_ref01_CRC_2, s_ref01_CRC_2, c_ref01_CRC_l2, wb_ref01_CRC_2, wb_ref01_CRC_1, c_ref01_CRC_k0, wl_ref01_CRC_0, s_ref01_CRC_0, c_ref01_CRC_l0, wb_ref01_CRC_0, c_ref01_CRC_k1, ↓advStep, ↓execK, ↓opK, ↓binK, ↓intK, ↓strK, evs, ev, getT, setT, put, List.replicate, List.cons_append, List.nil_append, List.length_cons, List.length_nil, ↓mapK, ↓frzK_sl, ↓frzK_agg, ↓frzK_tup, ↓frzK_ifc, ↓frzK_func, ↓frzK_int, ↓frzK_bool, ↓frzK_str, ↓frzK_nilp, ↓frzK_nils, ↓frzK_nilm, ↓frzK_nilf, ↓frzK_nili, ↓frzK_fz, ↓frzK_any, ↓frzK_ptr, ↓frzK_ro, ↓getB, setB, kill, killM, dropK, keysOf, capOf_nn, zeroC, bump, frzT, thaw, gets, putAll, ↓getsK, ↓getR, ↓retK, retv, find, cells, ↓nilpK, ↓nilsK, ↓nilfK, ↓niliK, ↓bndK, ↓cutK, ↓fillK, ↓exitK, List.append_nil, List.drop, List.take, Nat.reduceAdd, Nat.reduceSub, Nat.reduceMul, Nat.reduceLT, Nat.reduceLeDiff, Nat.zero_add, Nat.add_zero, Nat.mul_one, Int.reduceToNat, Nat.reduceEqDiff, Nat.succ_ne_self, Nat.le_refl, Nat.one_ne_zero, Nat.reduceBEq, Nat.lt_irrefl, List.length_append, Int.toNat_zero, Int.toNat_one, List.take_zero, List.drop_zero, Nat.zero_mul, sel, rest, keyIn, ↓reduceIte, ↓if_pos, ↓if_neg, reduceCtorEq, Bool.not_true, Bool.not_false, Bool.false_eq_true, Bool.true_eq_false, and_self, and_true, true_and, false_and, and_false, decide_true, decide_false, decide_eq_true, decide_eq_false, decide_eq_true_eq, decide_eq_false_iff_not, Bool.not_eq_true, Bool.not_eq_false, Bool.not_eq_eq_eq_not, Decidable.not_not, eA]
    exact h
  | succ n ih =>
    intro j r hj hr h
    simp only [rsteps] at h
    refine round (its := [.blk 2 wb_ref01_CRC_2]) 60 hk trivial (fun A eA => ?_)
    have h1 : (j : Int) < 8 := by omega
    have h2 : ¬ ((i : Int) < 0) := by omega
    have h3 : ¬ ((j : Int) < 0) := by omega
    have h4 : ¬ ((2 : Int) = 0) := by omega
    have e1 : (avs bs)[(i : Int).toNat]? = some (.int .u8 (b : Nat)) := by
      rw [Int.toNat_natCast, avs_get, hi]; rfl
    have e2 : IntKind.u64.wrap (j : Int) = ((j : Nat) : Int) := wrap_nat .u64 rfl j (by show j < 2 ^ 64; omega)
    have e3 : ishr .u8 (b : Int) (j : Int) = ((b / 2 ^ j : Nat) : Int) := ishr_nat .u8 .u64 b j (by show j ≤ 8; omega)
    have e4 : ibits .and .u8 ((b / 2 ^ j : Nat) : Int) 1 = ((b / 2 ^ j % 2 : Nat) : Int) := by
      have := ibits_and .u8 rfl (b / 2 ^ j) 1 (Nat.lt_of_le_of_lt (Nat.div_le_self _ _) hb) (by decide)
      rw [Nat.and_one_is_mod] at this; exact this
    have e5 : IntKind.u64.wrap ((b / 2 ^ j % 2 : Nat) : Int) = ((b / 2 ^ j % 2 : Nat) : Int) := wrap_nat .u64 rfl _ (by show _ < 2 ^ 64; omega)
    have e6 : (r : Int).tmod 2 = ((r % 2 : Nat) : Int) := by rw [Int.tmod_eq_emod_of_nonneg (by omega)]; omega
    have e7 : ibits .xor .u64 ((r % 2 : Nat) : Int) ((b / 2 ^ j % 2 : Nat) : Int) = ((rbit r b j : Nat) : Int) := ibits_xor .u64 rfl _ _ (by show _ < 2 ^ 64; omega) (by show _ < 2 ^ 64; omega)
    have e8 : IntKind.u64.wrap ((r : Int).tdiv 2) = ((r / 2 : Nat) : Int) := by
      have : (r : Int).tdiv 2 = ((r / 2 : Nat) : Int) := by rw [Int.tdiv_eq_ediv_of_nonneg (by omega)]; omega
      rw [this]
      exact wrap_nat .u64 rfl _ (by show _ < 2 ^ 64; omega)
    have e9 : ibits .xor .u64 ((r / 2 : Nat) : Int) 2197175160 = ((r / 2 ^^^ 2197175160 : Nat) : Int) := ibits_xor .u64 rfl (r / 2) 2197175160 (by show r / 2 < 2 ^ 64; omega) (by decide)
    have e10 : IntKind.i64.wrap ((j : Int) + 1) = ((j + 1 : Nat) : Int) := by rw [IntKind.wrap_i64]; omega
    have hst := rstep_lt (b := b) (j := j) hr
    by_cases hbit : rbit r b j = 1
    · have g5 : rstep r b j = r / 2 ^^^ 2197175160 := by simp [rstep, hbit]
      have g6 : (((rbit r b j : Nat) : Int) = 1) := by omega
      simp only [c_ref01_CRC, wl_ref01_CRC_2, s_ref01_CRC_2, c_ref01_CRC_l2, wb_ref01_CRC_2, wb_ref01_CRC_1, c_ref01_CRC_k0, wl_ref01_CRC_0, s_ref01_CRC_0, c_ref01_CRC_l0, wb_ref01_CRC_0, c_ref01_CRC_k1, ↓advStep, ↓execK, ↓opK, ↓binK, ↓intK, ↓strK, evs, ev, getT, setT, put, List.replicate, List.cons_append, List.nil_append, List.length_cons, List.length_nil, ↓mapK, ↓frzK_sl, ↓frzK_agg, ↓frzK_tup, ↓frzK_ifc, ↓frzK_func, ↓frzK_int, ↓frzK_bool, ↓frzK_str, ↓frzK_nilp, ↓frzK_nils, ↓frzK_nilm, ↓frzK_nilf, ↓frzK_nili, ↓frzK_fz, ↓frzK_any, ↓frzK_ptr, ↓frzK_ro, ↓getB, setB, kill, killM, dropK, keysOf, capOf_nn, zeroC, bump, frzT, thaw, gets, putAll, ↓getsK, ↓getR, ↓retK, retv, find, cells, ↓nilpK, ↓nilsK, ↓nilfK, ↓niliK, ↓bndK, ↓cutK, ↓fillK, ↓exitK, List.append_nil, List.drop, List.take, Nat.reduceAdd, Nat.reduceSub, Nat.reduceMul, Nat.reduceLT, Nat.reduceLeDiff, Nat.zero_add, Nat.add_zero, Nat.mul_one, Int.reduceToNat, Nat.reduceEqDiff, Nat.succ_ne_self, Nat.le_refl, Nat.one_ne_zero, Nat.reduceBEq, Nat.lt_irrefl, List.length_append, Int.toNat_zero, Int.toNat_one, List.take_zero, List.drop_zero, Nat.zero_mul, sel, rest, keyIn, ↓reduceIte, ↓if_pos, ↓if_neg, reduceCtorEq, Bool.not_true, Bool.not_false, Bool.false_eq_true, Bool.true_eq_false, and_self, and_true, true_and, false_and, and_false, decide_true, decide_false, decide_eq_true, decide_eq_false, decide_eq_true_eq, decide_eq_false_iff_not, Bool.not_eq_true, Bool.not_eq_false, Bool.not_eq_eq_eq_not, Decidable.not_not, eA, h1, h2, h3, h4, e1, e2, e3, e4, e5, e6, e7, e8, e9, e10, g6]
      rw [← g5]
      exact ih (j + 1) (rstep r b j) (by omega) hst h
    · have g5 : rstep r b j = r / 2 := by simp [rstep, hbit]
      have g6 : ¬ (((rbit r b j : Nat) : Int) = 1) := by omega
      simp only [c_ref01_CRC, wl_ref01_CRC_2, s_ref01_CRC_2, c_ref01_CRC_l2, wb_ref01_CRC_2, wb_ref01_CRC_1, c_ref01_CRC_k0, wl_ref01_CRC_0, s_ref01_CRC_0, c_ref01_CRC_l0, wb_ref01_CRC_0, c_ref01_CRC_k1, ↓advStep, ↓execK, ↓opK, ↓binK, ↓intK, ↓strK, evs, ev, getT, setT, put, List.replicate, List.cons_append, List.nil_append, List.length_cons, List.length_nil, ↓mapK, ↓frzK_sl, ↓frzK_agg, ↓frzK_tup, ↓frzK_ifc, ↓frzK_func, ↓frzK_int, ↓frzK_bool, ↓frzK_str, ↓frzK_nilp, ↓frzK_nils, ↓frzK_nilm, ↓frzK_nilf, ↓frzK_nili, ↓frzK_fz, ↓frzK_any, ↓frzK_ptr, ↓frzK_ro, ↓getB, setB, kill, killM, dropK, keysOf, capOf_nn, zeroC, bump, frzT, thaw, gets, putAll, ↓getsK, ↓getR, ↓retK, retv, find, cells, ↓nilpK, ↓nilsK, ↓nilfK, ↓niliK, ↓bndK, ↓cutK, ↓fillK, ↓exitK, List.append_nil, List.drop, List.take, Nat.reduceAdd, Nat.reduceSub, Nat.reduceMul, Nat.reduceLT, Nat.reduceLeDiff, Nat.zero_add, Nat.add_zero, Nat.mul_one, Int.reduceToNat, Nat.reduceEqDiff, Nat.succ_ne_self, Nat.le_refl, Nat.one_ne_zero, Nat.reduceBEq, Nat.lt_irrefl, List.length_append, Int.toNat_zero, Int.toNat_one, List.take_zero, List.drop_zero, Nat.zero_mul, sel, rest, keyIn, ↓reduceIte, ↓if_pos, ↓if_neg, reduceCtorEq, Bool.not_true, Bool.not_false, Bool.false_eq_true, Bool.true_eq_false, and_self, and_true, true_and, false_and, and_false, decide_true, decide_false, decide_eq_true, decide_eq_false, decide_eq_true_eq, decide_eq_false_iff_not, Bool.not_eq_true, Bool.not_eq_false, Bool.not_eq_eq_eq_not, Decidable.not_not, eA, h1, h2, h3, h4, e1, e2, e3, e4, e5, e6, e7, e8, e9, e10, g6]
      rw [← g5]
      exact ih (j + 1) (rstep r b j) (by omega) hst h
theorem ref_loop (bs : List Nat) (hbs : ∀ b ∈ bs, b < 256) (hlen : bs.length ≤ 140737488351232) (hk : flat k) : ∀ (post pre : List Nat), bs = pre ++ post → ∀ (s : Nat), s < 2 ^ 32 →
    RunsX Try.prog φ R k (e_ref01_CRC_0 (.int .u64 (post.foldl add s : Nat))) H nx →
    RunsX Try.prog φ R (i_ref01_CRC_0 ++ k) (s_ref01_CRC_0 (.fz 1 (avs bs) none) (.int .u64 (s : Nat)) (.int .i64 (bs.length : Nat)) (.int .i64 (pre.length : Nat))) H nx := by
  intro post
  induction post with
  | nil =>
    intro pre hpre s hs h
    simp only [List.foldl_nil] at h
    refine round (its := [.blk 0 wb_ref01_CRC_0]) 60 hk trivial (fun A eA => ?_)
    rw [List.append_nil] at hpre
    subst hpre
    have h1 : ¬ ((bs.length : Int) < bs.length) := by omega
    simp only [c_ref01_CRC, wl_ref01_CRC_2, s_ref01_CRC_2, c_ref01_CRC_l2, wb_ref01_CRC_2, wb_ref01_CRC_1, c_ref01_CRC_k0, wl_ref01_CRC_0, s_ref01_CRC_0, c_ref01_CRC_l0, wb_ref01_CRC_0, c_ref01_CRC_k1, ↓advStep, ↓execK, ↓opK, ↓binK, ↓intK, ↓strK, evs, ev, getT, setT, put, List.replicate, List.cons_append, List.nil_append, List.length_cons, List.length_nil, ↓mapK, ↓frzK_sl, ↓frzK_agg, ↓frzK_tup, ↓frzK_ifc, ↓frzK_func, ↓frzK_int, ↓frzK_bool, ↓frzK_str, ↓frzK_nilp, ↓frzK_nils, ↓frzK_nilm, ↓frzK_nilf, ↓frzK_nili, ↓frzK_fz, ↓frzK_any, ↓frzK_ptr, ↓frzK_ro, ↓getB, setB, kill, killM, dropK, keysOf, capOf_nn, zeroC, bump, frzT, thaw, gets, putAll, ↓getsK, ↓getR, ↓retK, retv, find, cells, ↓nilpK, ↓nilsK, ↓nilfK, ↓niliK, ↓bndK, ↓cutK, ↓fillK, ↓exitK, List.append_nil, List.drop, List.take, Nat.reduceAdd, Nat.reduceSub, Nat.reduceMul, Nat.reduceLT, Nat.reduceLeDiff, Nat.zero_add, Nat.add_zero, Nat.mul_one, Int.reduceToNat, Nat.reduceEqDiff, Nat.succ_ne_self, Nat.le_refl, Nat.one_ne_zero, Nat.reduceBEq, Nat.lt_irrefl, List.length_append, Int.toNat_zero, Int.toNat_one, List.take_zero, List.drop_zero, Nat.zero_mul, sel, rest, keyIn, ↓reduceIte, ↓if_pos, ↓if_neg, reduceCtorEq, Bool.not_true, Bool.not_false, Bool.false_eq_true, Bool.true_eq_false, and_self, and_true, true_and, false_and, and_false, decide_true, decide_false, decide_eq_true, decide_eq_false, decide_eq_true_eq, decide_eq_false_iff_not, Bool.not_eq_true, Bool.not_eq_false, Bool.not_eq_eq_eq_not, Decidable.not_not, eA, h1]
    exact h
  | cons b post ih =>
    intro pre hpre s hs h
    simp only [List.foldl_cons] at h
    have hl : pre.length < bs.length := by rw [hpre]; simp
    have hb : b < 256 := hbs b (by rw [hpre]; simp)
    have h1 : (pre.length : Int) < bs.length := by omega
    have e1 : bs[pre.length]? = some b := by
      rw [hpre, List.getElem?_append_right (Nat.le_refl _), Nat.sub_self]; rfl
    have e4 : IntKind.i64.wrap ((pre.length : Int) + 1) = ((pre.length + 1 : Nat) : Int) := by
      rw [IntKind.wrap_i64]; omega
    refine round (its := [.blk 0 wb_ref01_CRC_0]) 60 hk trivial (fun A eA => ?_)
    simp only [c_ref01_CRC, wl_ref01_CRC_2, s_ref01_CRC_2, c_ref01_CRC_l2, wb_ref01_CRC_2, wb_ref01_CRC_1, c_ref01_CRC_k0, wl_ref01_CRC_0, s_ref01_CRC_0, c_ref01_CRC_l0, wb_ref01_CRC_0, c_ref01_CRC_k1, ↓advStep, ↓execK, ↓opK, ↓binK, ↓intK, ↓strK, evs, ev, getT, setT, put, List.replicate, List.cons_append, List.nil_append, List.length_cons, List.length_nil, ↓mapK, ↓frzK_sl, ↓frzK_agg, ↓frzK_tup, ↓frzK_ifc, ↓frzK_func, ↓frzK_int, ↓frzK_bool, ↓frzK_str, ↓frzK_nilp, ↓frzK_nils, ↓frzK_nilm, ↓frzK_nilf, ↓frzK_nili, ↓frzK_fz, ↓frzK_any, ↓frzK_ptr, ↓frzK_ro, ↓getB, setB, kill, killM, dropK, keysOf, capOf_nn, zeroC, bump, frzT, thaw, gets, putAll, ↓getsK, ↓getR, ↓retK, retv, find, cells, ↓nilpK, ↓nilsK, ↓nilfK, ↓niliK, ↓bndK, ↓cutK, ↓fillK, ↓exitK, List.append_nil, List.drop, List.take, Nat.reduceAdd, Nat.reduceSub, Nat.reduceMul, Nat.reduceLT, Nat.reduceLeDiff, Nat.zero_add, Nat.add_zero, Nat.mul_one, Int.reduceToNat, Nat.reduceEqDiff, Nat.succ_ne_self, Nat.le_refl, Nat.one_ne_zero, Nat.reduceBEq, Nat.lt_irrefl, List.length_append, Int.toNat_zero, Int.toNat_one, List.take_zero, List.drop_zero, Nat.zero_mul, sel, rest, keyIn, ↓reduceIte, ↓if_pos, ↓if_neg, reduceCtorEq, Bool.not_true, Bool.not_false, Bool.false_eq_true, Bool.true_eq_false, and_self, and_true, true_and, false_and, and_false, decide_true, decide_false, decide_eq_true, decide_eq_false, decide_eq_true_eq, decide_eq_false_iff_not, Bool.not_eq_true, Bool.not_eq_false, Bool.not_eq_eq_eq_not, Decidable.not_not, eA, h1]
    refine bits_loop bs pre.length b e1 hb _ _ (k := .blk 1 wb_ref01_CRC_1 :: .c c_ref01_CRC_k0 :: .lp wl_ref01_CRC_0 c_ref01_CRC_l0 :: .blk 0 wb_ref01_CRC_0 :: k) hk 8 0 s rfl hs ?_
    refine walk 60 (its := [.blk 1 wb_ref01_CRC_1, .c c_ref01_CRC_k0, .lp wl_ref01_CRC_0 c_ref01_CRC_l0, .blk 0 wb_ref01_CRC_0]) hk trivial (fun A eA => ?_)
    rw [rsteps_add s b hb]
    simp only [c_ref01_CRC, wl_ref01_CRC_2, s_ref01_CRC_2, c_ref01_CRC_l2, wb_ref01_CRC_2, wb_ref01_CRC_1, c_ref01_CRC_k0, wl_ref01_CRC_0, s_ref01_CRC_0, c_ref01_CRC_l0, wb_ref01_CRC_0, c_ref01_CRC_k1, ↓advStep, ↓execK, ↓opK, ↓binK, ↓intK, ↓strK, evs, ev, getT, setT, put, List.replicate, List.cons_append, List.nil_append, List.length_cons, List.length_nil, ↓mapK, ↓frzK_sl, ↓frzK_agg, ↓frzK_tup, ↓frzK_ifc, ↓frzK_func, ↓frzK_int, ↓frzK_bool, ↓frzK_str, ↓frzK_nilp, ↓frzK_nils, ↓frzK_nilm, ↓frzK_nilf, ↓frzK_nili, ↓frzK_fz, ↓frzK_any, ↓frzK_ptr, ↓frzK_ro, ↓getB, setB, kill, killM, dropK, keysOf, capOf_nn, zeroC, bump, frzT, thaw, gets, putAll, ↓getsK, ↓getR, ↓retK, retv, find, cells, ↓nilpK, ↓nilsK, ↓nilfK, ↓niliK, ↓bndK, ↓cutK, ↓fillK, ↓exitK, List.append_nil, List.drop, List.take, Nat.reduceAdd, Nat.reduceSub, Nat.reduceMul, Nat.reduceLT, Nat.reduceLeDiff, Nat.zero_add, Nat.add_zero, Nat.mul_one, Int.reduceToNat, Nat.reduceEqDiff, Nat.succ_ne_self, Nat.le_refl, Nat.one_ne_zero, Nat.reduceBEq, Nat.lt_irrefl, List.length_append, Int.toNat_zero, Int.toNat_one, List.take_zero, List.drop_zero, Nat.zero_mul, sel, rest, keyIn, ↓reduceIte, ↓if_pos, ↓if_neg, reduceCtorEq, Bool.not_true, Bool.not_false, Bool.false_eq_true, Bool.true_eq_false, and_self, and_true, true_and, false_and, and_false, decide_true, decide_false, decide_eq_true, decide_eq_false, decide_eq_true_eq, decide_eq_false_iff_not, Bool.not_eq_true, Bool.not_eq_false, Bool.not_eq_eq_eq_not, Decidable.not_not, eA, e4]
    have hn := ih (pre ++ [b]) (by rw [hpre]; simp) (add s b) (add_lt hs hb) h
    rw [show (pre ++ [b]).length = pre.length + 1 by simp] at hn
    exact hn
theorem ref_calls (bs : List Nat) (hbs : ∀ b ∈ bs, b < 256) (hlen : bs.length ≤ 140737488351232) : PCalls Try.prog F_ref01_CRC [.fz 1 (avs bs) none] (.int .u32 (crcOf bs : Nat)) := by
  refine calls_ref01_CRC (walk0 60 trivial (fun A eA => ?_))
  simp only [c_ref01_CRC, wl_ref01_CRC_2, s_ref01_CRC_2, c_ref01_CRC_l2, wb_ref01_CRC_2, wb_ref01_CRC_1, c_ref01_CRC_k0, wl_ref01_CRC_0, s_ref01_CRC_0, c_ref01_CRC_l0, wb_ref01_CRC_0, c_ref01_CRC_k1, ↓advStep, ↓execK, ↓opK, ↓binK, ↓intK, ↓strK, evs, ev, getT, setT, put, List.replicate, List.cons_append, List.nil_append, List.length_cons, List.length_nil, ↓mapK, ↓frzK_sl, ↓frzK_agg, ↓frzK_tup, ↓frzK_ifc, ↓frzK_func, ↓frzK_int, ↓frzK_bool, ↓frzK_str, ↓frzK_nilp, ↓frzK_nils, ↓frzK_nilm, ↓frzK_nilf, ↓frzK_nili, ↓frzK_fz, ↓frzK_any, ↓frzK_ptr, ↓frzK_ro, ↓getB, setB, kill, killM, dropK, keysOf, capOf_nn, zeroC, bump, frzT, thaw, gets, putAll, ↓getsK, ↓getR, ↓retK, retv, find, cells, ↓nilpK, ↓nilsK, ↓nilfK, ↓niliK, ↓bndK, ↓cutK, ↓fillK, ↓exitK, List.append_nil, List.drop, List.take, Nat.reduceAdd, Nat.reduceSub, Nat.reduceMul, Nat.reduceLT, Nat.reduceLeDiff, Nat.zero_add, Nat.add_zero, Nat.mul_one, Int.reduceToNat, Nat.reduceEqDiff, Nat.succ_ne_self, Nat.le_refl, Nat.one_ne_zero, Nat.reduceBEq, Nat.lt_irrefl, List.length_append, Int.toNat_zero, Int.toNat_one, List.take_zero, List.drop_zero, Nat.zero_mul, sel, rest, keyIn, ↓reduceIte, ↓if_pos, ↓if_neg, reduceCtorEq, Bool.not_true, Bool.not_false, Bool.false_eq_true, Bool.true_eq_false, and_self, and_true, true_and, false_and, and_false, decide_true, decide_false, decide_eq_true, decide_eq_false, decide_eq_true_eq, decide_eq_false_iff_not, Bool.not_eq_true, Bool.not_eq_false, Bool.not_eq_eq_eq_not, Decidable.not_not, eA, avs_len]
  refine ref_loop bs hbs hlen (k := [.c c_ref01_CRC_k1]) trivial bs [] rfl 4294967295 (by decide) ?_
  refine walk0 60 trivial (fun A eA => ?_)
  have hf := fold_lt bs (s := 4294967295) (by decide) hbs
  have e2 : ibits .xor .u64 ((bs.foldl add 4294967295 : Nat) : Int) 4294967295 = ((crcOf bs : Nat) : Int) := ibits_xor .u64 rfl _ 4294967295 (Nat.lt_trans hf (by decide)) (by decide)
  have e3 : IntKind.u32.wrap ((crcOf bs : Nat) : Int) = ((crcOf bs : Nat) : Int) := wrap_nat .u32 rfl _ (Nat.xor_lt_two_pow hf (by decide))
  simp only [c_ref01_CRC, wl_ref01_CRC_2, s_ref01_CRC_2, c_ref01_CRC_l2, wb_ref01_CRC_2, wb_ref01_CRC_1, c_ref01_CRC_k0, wl_ref01_CRC_0, s_ref01_CRC_0, c_ref01_CRC_l0, wb_ref01_CRC_0, c_ref01_CRC_k1, ↓advStep, ↓execK, ↓opK, ↓binK, ↓intK, ↓strK, evs, ev, getT, setT, put, List.replicate, List.cons_append, List.nil_append, List.length_cons, List.length_nil, ↓mapK, ↓frzK_sl, ↓frzK_agg, ↓frzK_tup, ↓frzK_ifc, ↓frzK_func, ↓frzK_int, ↓frzK_bool, ↓frzK_str, ↓frzK_nilp, ↓frzK_nils, ↓frzK_nilm, ↓frzK_nilf, ↓frzK_nili, ↓frzK_fz, ↓frzK_any, ↓frzK_ptr, ↓frzK_ro, ↓getB, setB, kill, killM, dropK, keysOf, capOf_nn, zeroC, bump, frzT, thaw, gets, putAll, ↓getsK, ↓getR, ↓retK, retv, find, cells, ↓nilpK, ↓nilsK, ↓nilfK, ↓niliK, ↓bndK, ↓cutK, ↓fillK, ↓exitK, List.append_nil, List.drop, List.take, Nat.reduceAdd, Nat.reduceSub, Nat.reduceMul, Nat.reduceLT, Nat.reduceLeDiff, Nat.zero_add, Nat.add_zero, Nat.mul_one, Int.reduceToNat, Nat.reduceEqDiff, Nat.succ_ne_self, Nat.le_refl, Nat.one_ne_zero, Nat.reduceBEq, Nat.lt_irrefl, List.length_append, Int.toNat_zero, Int.toNat_one, List.take_zero, List.drop_zero, Nat.zero_mul, sel, rest, keyIn, ↓reduceIte, ↓if_pos, ↓if_neg, reduceCtorEq, Bool.not_true, Bool.not_false, Bool.false_eq_true, Bool.true_eq_false, and_self, and_true, true_and, false_and, and_false, decide_true, decide_false, decide_eq_true, decide_eq_false, decide_eq_true_eq, decide_eq_false_iff_not, Bool.not_eq_true, Bool.not_eq_false, Bool.not_eq_eq_eq_not, Decidable.not_not, eA, e2, e3]
  exact doneG rfl
end Go.Proofs.Ytmokhopjnjecbab
/- Frames, as rows of bytes: what is in them, and what is found in a row. -/
namespace Go.Ev
set_option linter.unusedVariables false

def be2 (n : Nat) : List Nat := [n / 256 % 256, n % 256]
def be4 (n : Nat) : List Nat := [n / 256 / 256 / 256 % 256, n / 256 / 256 % 256, n / 256 % 256, n % 256]
theorem be2_lt (n : Nat) : ∀ b ∈ be2 n, b < 256 := by
  intro b hb
  simp only [be2, List.mem_cons, List.not_mem_nil, or_false] at hb
  rcases hb with rfl | rfl <;> omega
theorem be4_lt (n : Nat) : ∀ b ∈ be4 n, b < 256 := by
  intro b hb
  simp only [be4, List.mem_cons, List.not_mem_nil, or_false] at hb
  rcases hb with rfl | rfl | rfl | rfl <;> omega
def frameOf (bs : List Nat) : List Nat := be2 bs.length ++ be4 (crcOf (be2 bs.length ++ bs)) ++ bs
theorem frameOf_len (bs : List Nat) : (frameOf bs).length = 6 + bs.length := by simp [frameOf, be2, be4]; omega
theorem frameOf_lt {bs : List Nat} (h : ∀ b ∈ bs, b < 256) : ∀ b ∈ frameOf bs, b < 256 := by
  intro b hb
  simp only [frameOf, List.mem_append] at hb
  rcases hb with (hb | hb) | hb
  · exact be2_lt _ b hb
  · exact be4_lt _ b hb
  · exact h b hb
/-- What is in the frame that a row begins with. -/
def first (bs : List Nat) : Option (List Nat) :=
  if bs.length < 6 then none
  else
    let n := bs.getD 0 0 * 256 + bs.getD 1 0
    if n < 1 ∨ 20000 < n ∨ bs.length < n + 6 then none
    else if frameOf ((bs.take (6 + n)).drop 6) = bs.take (6 + n) then some ((bs.take (6 + n)).drop 6) else none
theorem first_len {bs x : List Nat} (h : first bs = some x) : x.length + 6 ≤ bs.length ∧ 1 ≤ x.length ∧ x = (bs.take (6 + x.length)).drop 6 := by
  unfold first at h
  split at h
  · cases h
  · simp only at h
    split at h
    · cases h
    · rename_i hn
      split at h
      · simp only [Option.some.injEq] at h
        subst h
        obtain ⟨n, hn'⟩ : ∃ n, n = bs.getD 0 0 * 256 + bs.getD 1 0 := ⟨_, rfl⟩
        rw [← hn'] at hn ⊢
        have hl : ((bs.take (6 + n)).drop 6).length = n := by simp; omega
        rw [hl]
        refine ⟨by omega, by omega, rfl⟩
      · cases h
theorem first_frame {x : List Nat} (h1 : 1 ≤ x.length) (h2 : x.length ≤ 20000) (rest : List Nat) : first (frameOf x ++ rest) = some x := by
  have hl := frameOf_len x
  have h0 : (frameOf x ++ rest).getD 0 0 = x.length / 256 % 256 := by simp [frameOf, be2]
  have h3 : (frameOf x ++ rest).getD 1 0 = x.length % 256 := by simp [frameOf, be2]
  have hn : x.length / 256 % 256 * 256 + x.length % 256 = x.length := by omega
  have ht : (frameOf x ++ rest).take (6 + x.length) = frameOf x := by rw [← hl]; simp
  have hd : (frameOf x).drop 6 = x := by simp [frameOf, be2, be4]
  unfold first
  have hlen : (frameOf x ++ rest).length = 6 + x.length + rest.length := by rw [List.length_append, hl]
  rw [if_neg (by omega)]
  simp only [h0, h3, hn]
  rw [if_neg (by omega), ht, hd, if_pos rfl]
/-- All frames, as far as they stand, and where they end. -/
def scanF : Nat → List Nat → List (List Nat) × Nat
  | 0, _ => ([], 0)
  | f + 1, bs => match first bs with
    | none => ([], 0)
    | some x => (x :: (scanF f (bs.drop (6 + x.length))).1, 6 + x.length + (scanF f (bs.drop (6 + x.length))).2)
theorem scanF_le : ∀ (f : Nat) (bs : List Nat), (scanF f bs).2 ≤ bs.length
  | 0, bs => Nat.zero_le _
  | f + 1, bs => by
    simp only [scanF]
    split
    · exact Nat.zero_le _
    · rename_i x hx
      have := scanF_le f (bs.drop (6 + x.length))
      have h2 := first_len hx
      simp only [List.length_drop] at this ⊢
      omega
def cat (l : List (List Nat)) : List Nat := l.flatMap frameOf
theorem scanF_cat : ∀ (l : List (List Nat)) (f : Nat), (∀ x ∈ l, 1 ≤ x.length ∧ x.length ≤ 20000) → l.length < f → scanF f (cat l) = (l, (cat l).length)
  | [], f + 1, _, _ => by simp [scanF, cat, first]
  | [], 0, _, h => by omega
  | x :: l, 0, _, h => by omega
  | x :: l, f + 1, hl, h => by
    have hx := hl x (List.mem_cons_self)
    have ih := scanF_cat l f (fun y hy => hl y (List.mem_cons_of_mem _ hy)) (by simp at h; omega)
    have hc : cat (x :: l) = frameOf x ++ cat l := by simp [cat]
    have hfl := frameOf_len x
    have hd : (frameOf x ++ cat l).drop (6 + x.length) = cat l := by rw [← hfl]; simp
    rw [hc]
    simp only [scanF, first_frame hx.1 hx.2, hd, ih, List.length_append, hfl]
/-- More than enough rounds change nothing. -/
theorem scanF_more : ∀ (f g : Nat) (bs : List Nat), bs.length < f → bs.length < g → scanF f bs = scanF g bs
  | 0, _, bs, h, _ => by omega
  | _ + 1, 0, bs, _, h => by omega
  | f + 1, g + 1, bs, hf, hg => by
    simp only [scanF]
    split
    · rfl
    · rename_i x hx
      have h2 := first_len hx
      rw [scanF_more f g (bs.drop (6 + x.length)) (by simp; omega) (by simp; omega)]
end Go.Ev
/- Texts out of rows of bytes: equal just where the rows are. -/
namespace Go.Ev
set_option linter.unusedVariables false

/-- The text of a row of bytes. -/
def bstr (bs : List Nat) : ByteArray := ⟨(bytesOf (avs bs)).toArray⟩
theorem bytesOf_avs (bs : List Nat) : bytesOf (avs bs) = bs.map UInt8.ofNat := by
  induction bs with
  | nil => rfl
  | cons b bs ih => simp only [avs, List.map_cons, bytesOf, Int.toNat_natCast] at ih ⊢; rw [ih]
theorem isBytes_avs {bs : List Nat} (h : ∀ b ∈ bs, b < 256) : isBytes (avs bs) = true := by
  simp only [isBytes, avs, List.all_map, List.all_eq_true]
  intro b hb
  have := h b hb
  simp; omega
theorem map_ofNat_inj : ∀ {a b : List Nat}, (∀ x ∈ a, x < 256) → (∀ x ∈ b, x < 256) → a.map UInt8.ofNat = b.map UInt8.ofNat → a = b
  | [], [], _, _, _ => rfl
  | [], _ :: _, _, _, h => by simp at h
  | _ :: _, [], _, _, h => by simp at h
  | x :: a, y :: b, ha, hb, h => by
    simp only [List.map_cons, List.cons.injEq] at h
    have h1 := ha x (List.mem_cons_self)
    have h2 := hb y (List.mem_cons_self)
    have h3 : x = y := by
      have := congrArg UInt8.toNat h.1
      simp only [UInt8.toNat_ofNat'] at this
      omega
    rw [h3, map_ofNat_inj (fun z hz => ha z (List.mem_cons_of_mem _ hz)) (fun z hz => hb z (List.mem_cons_of_mem _ hz)) h.2]
theorem bstr_beq {a b : List Nat} (ha : ∀ x ∈ a, x < 256) (hb : ∀ x ∈ b, x < 256) : ((bstr a).toList == (bstr b).toList) = decide (a = b) := by
  have e : ∀ l, (bstr l).toList = l.map UInt8.ofNat := fun l => by rw [ByteArray.toList_eq, bstr, bytesOf_avs]
  rw [e, e]
  by_cases h : a = b
  · subst h; simp
  · simp only [h, decide_false, beq_eq_false_iff_ne, ne_eq]
    exact fun h2 => h (map_ofNat_inj ha hb h2)
theorem bstr_size (a : List Nat) : (bstr a).size = a.length := by
  show (bytesOf (avs a)).toArray.size = _
  rw [bytesOf_avs]; simp
end Go.Ev
/- The lemmas of a walk, under one name of the kit (a simp set), so that the texts are short. -/
namespace Go.Ev
/-- An element by an index: its first unfolding is a step with a proof that is no rfl. -/
def gi (es : List AV) (n : Int) : Option AV := es[n.toNat]?
theorem gi_eq (es : List AV) (n : Int) : gi es n = es[n.toNat]? := of_eq_true (eq_true rfl)
theorem optI_gi {α : Type} (es : List AV) (n : Int) (ok : AV → α) (bad : α) : optI es n ok bad = optK (gi es n) ok bad := rfl
attribute [go_sem ↓ low] optI_gi
attribute [go_sem] gi_eq
attribute [go_sem ↓] as_nil as_ops0 as_op as_opg as_blk as_frz as_lp as_skip as_reg as_regf as_seq as_cond as_cblk as_loop as_exit as_ret condK_true condK_false condK_bool
  guardK_tup guardK_tt guardK_tf guardK_ft guardK_ff guardK_bool q_add q_sub q_mul q_eql q_neq q_lss q_leq q_gtr q_geq q_quo q_rem q_and q_or q_xor q_andNot
  q_shl q_shr q_seql q_sneq q_slss q_sleq q_sgtr q_sgeq q_sadd q_mv q_pick q_eqb q_neb q_eqp q_neqp q_eqs q_neqs q_eqf q_neqf q_eqi q_neqi q_not q_neg q_cpl
  q_conv q_s2b q_b2s0 q_b2s1 q_b2s2 q_s2s q_box q_boxm q_new q_ld1 q_ld1r q_ld1p q_ldn q_ldnr q_ldnp q_ldk q_ldnk q_st q_stf q_slcx q_clr q_stk q_fa q_fap q_fld1 q_fldn q_ixS
  q_ixSl q_ixP q_ixPp q_ixT q_ixA1 q_slc0 q_slc1 q_slc2 q_slcT q_lenT q_len0 q_len1 q_len2 q_app q_apn pureK_nn pureK_nf pureK_fn pureK_ff q_apps q_lit q_litr q_litm q_bld q_mk q_ext q_nckp q_nckr
  q_nckf q_mn q_mx q_mkf q_ifc headK_cons optK_some optI_0 optI_1 optI_2 optI_3 nilK_nil execA mapK frzK_sl frzK_agg frzK_tup frzK_ifc frzK_func frzK_int
  frzK_bool frzK_str frzK_nilp frzK_nils frzK_nilm frzK_nilf frzK_nili frzK_fz frzK_any frzK_ptr frzK_ro getB getsK getR retK nilpK nilsK nilfK niliK bndK
  cutK fillK exitK if_pos if_neg
attribute [go_sem] evs_n evs_c ev_t ev_v getT_z getT_s gets_n gets_c drop_z drop_s setT put List.replicate List.cons_append List.nil_append List.length_cons List.length_nil
  setB kill killM dropK keysOf capOf_nn zeroC bump frzT thaw putAll retv find cells List.append_nil List.take Nat.zero_add Nat.add_zero Nat.mul_one Nat.succ_ne_self
  Nat.le_refl Nat.one_ne_zero Nat.lt_irrefl List.length_append Int.toNat_zero Int.toNat_one List.take_zero List.drop_zero Nat.zero_mul sel rest keyIn Bool.not_true
  Bool.not_false Bool.false_eq_true Bool.true_eq_false and_self and_true true_and false_and and_false decide_true decide_false decide_eq_true decide_eq_false
  decide_eq_true_eq decide_eq_false_iff_not Bool.not_eq_true Bool.not_eq_false Bool.not_eq_eq_eq_not Decidable.not_not
end Go.Ev
/- Contracts over a heap: a cell that may be nil, told as what it is; a cell told less. -/
namespace Go.Ev
set_option linter.unusedVariables false

theorem Lof_head {f d g : Nat} {cs cs' : List AV} {H : Heap} {bm : Nat → Nat → Nat} : Lof ((f, d, g, some cs) :: H) bm = Lof ((f, d, g, some cs') :: H) bm := by
  funext f1 d1 g1 b
  apply propext
  simp only [Lof, find]
  by_cases e : d = d1 ∧ f = f1
  · simp [e]
  · simp only [if_neg e]
theorem Own_head {f d g : Nat} {cs cs' : List AV} {H : Heap} {bm : Nat → Nat → Nat} : Own ((f, d, g, some cs) :: H) bm = Own ((f, d, g, some cs') :: H) bm := by
  funext b
  apply propext
  simp only [Own, find]
  constructor
  · rintro ⟨f1, d1, g1, cs1, h, rfl⟩
    by_cases e : d = d1 ∧ f = f1
    · exact ⟨f1, d1, g, cs', by simp [e], rfl⟩
    · rw [if_neg e] at h; exact ⟨f1, d1, g1, cs1, by simp only [if_neg e]; exact h, rfl⟩
  · rintro ⟨f1, d1, g1, cs1, h, rfl⟩
    by_cases e : d = d1 ∧ f = f1
    · exact ⟨f1, d1, g, cs, by simp [e], rfl⟩
    · rw [if_neg e] at h; exact ⟨f1, d1, g1, cs1, by simp only [if_neg e]; exact h, rfl⟩
/-- The head's cells, told otherwise. -/
theorem Rel.recell {w0 : World} {O X : Nat → Prop} {bm : Nat → Nat → Nat} {f d g : Nat} {cs cs' : List AV} {H : Heap} {nx : Ctr} {w : World} (r : Rel w0 O X bm ((f, d, g, some cs) :: H) nx w)
    (hl : cs'.length = cs.length) (h : ∀ (j : Nat) x' v, cs'[j]? = some x' → (∀ x, cs[j]? = some x → Rep (Lof ((f, d, g, some cs) :: H) bm) X nx w false x v) → (∃ vs E, w.heap[bm f d]? = some (.cells vs E (0, 0)) ∧ vs.getD j undef = v) → Rep (Lof ((f, d, g, some cs) :: H) bm) X nx w false x' v) :
    Rel w0 O X bm ((f, d, g, some cs') :: H) nx w := by
  have hfind : ∀ f1 d1 g1 cs1, find ((f, d, g, some cs') :: H) f1 d1 = some (g1, some cs1) → (f1 = f ∧ d1 = d ∧ g1 = g ∧ cs1 = cs') ∨ (¬ (d = d1 ∧ f = f1) ∧ find ((f, d, g, some cs) :: H) f1 d1 = some (g1, some cs1)) := by
    intro f1 d1 g1 cs1 h
    by_cases e : d = d1 ∧ f = f1
    · obtain ⟨rfl, rfl⟩ := e
      simp [find] at h
      exact .inl ⟨rfl, rfl, h.1.symm, h.2.symm⟩
    · refine .inr ⟨e, ?_⟩
      simp only [find, if_neg e] at h ⊢; exact h
  have hh : find ((f, d, g, some cs) :: H) f d = some (g, some cs) := by simp [find]
  have hex : ∀ f1 d1 g1 cs1, find ((f, d, g, some cs') :: H) f1 d1 = some (g1, some cs1) → ∃ cs2, find ((f, d, g, some cs) :: H) f1 d1 = some (g1, some cs2) := by
    intro f1 d1 g1 cs1 h
    rcases hfind _ _ _ _ h with ⟨rfl, rfl, rfl, rfl⟩ | ⟨_, h⟩
    · exact ⟨cs, hh⟩
    · exact ⟨_, h⟩
  refine ⟨?_, ?_, ?_, ?_, r.os, r.tape, r.output, r.size, r.keep, r.xlt⟩
  · intro f1 d1 g1 cs1 h1
    rw [Lof_head (cs' := cs)]
    rcases hfind _ _ _ _ h1 with ⟨rfl, rfl, rfl, rfl⟩ | ⟨_, h1⟩
    · obtain ⟨vs, E, hb, hle, hrep⟩ := r.blk _ _ _ _ hh
      refine ⟨vs, E, hb, by omega, fun j x' hj => ?_⟩
      have hj' : j < cs.length := by have := (List.getElem?_eq_some_iff.1 hj).1; omega
      have h2 := hrep j _ (List.getElem?_eq_getElem hj')
      exact ⟨h j x' _ hj (fun x hx => (hrep j x hx).1) ⟨vs, E, hb, rfl⟩, h2.2⟩
    · exact r.blk _ _ _ _ h1
  · intro f1 d1 g1 cs1 f2 d2 g2 cs2 h1 h2 he
    obtain ⟨a, h1⟩ := hex _ _ _ _ h1
    obtain ⟨b, h2⟩ := hex _ _ _ _ h2
    exact r.inj _ _ _ _ _ _ _ _ h1 h2 he
  · intro f1 d1 g1 b h1
    by_cases e : d = d1 ∧ f = f1
    · obtain ⟨rfl, rfl⟩ := e
      simp [find] at h1
      have := r.gen _ _ _ _ hh
      omega
    · simp only [find, if_neg e] at h1
      exact r.gen f1 d1 g1 b (by simp only [find, if_neg e]; exact h1)
  · intro f1 d1 g1 cs1 h1
    obtain ⟨a, h1⟩ := hex _ _ _ _ h1
    exact r.own _ _ _ _ h1
/-- A cell that may be nil. -/
theorem HCalls.nil {P : Program} {F f d g sz : Nat} {pre post : List AV} {args : List AV} {H Hout : Heap} {nx nx' : Ctr} {r : AV}
    (h1 : HCalls P F args ((f, d, g, some (pre ++ .nils :: post)) :: H) nx r Hout nx') (h2 : ∀ c, HCalls P F args ((f, d, g, some (pre ++ .fz sz [] (some c) :: post)) :: H) nx r Hout nx') :
    HCalls P F args ((f, d, g, some (pre ++ .fz sz [] none :: post)) :: H) nx r Hout nx' := by
  refine ⟨h1.ok, fun X w bm vals hr ha => ?_⟩
  obtain ⟨vs, E, hb, hle, hrep⟩ := hr.blk f d g _ (by simp [find]; rfl)
  have hm : (pre ++ AV.fz sz [] none :: post)[pre.length]? = some (.fz sz [] none) := by simp
  have key : ∀ x, Rep (Lof ((f, d, g, some (pre ++ .fz sz [] none :: post)) :: H) bm) X nx w false x (vs.getD pre.length undef) → Rel w (Own ((f, d, g, some (pre ++ x :: post)) :: H) bm) X bm ((f, d, g, some (pre ++ x :: post)) :: H) nx w := by
    intro x hx
    rw [Own_head (cs' := pre ++ .fz sz [] none :: post)]
    refine hr.recell (by simp) (fun j x' v hj hv hvs => ?_)
    obtain ⟨vs', E', hb', rfl⟩ := hvs
    rw [hb] at hb'; simp only [Option.some.injEq, Obj.cells.injEq] at hb'; obtain ⟨rfl, rfl, _⟩ := hb'
    by_cases hjp : j = pre.length
    · subst hjp
      simp at hj; subst hj; exact hx
    · refine hv x' ?_
      rcases Nat.lt_or_ge j pre.length with hl | hl
      · rw [List.getElem?_append_left hl] at hj ⊢; exact hj
      · rw [List.getElem?_append_right hl] at hj ⊢
        obtain ⟨k, hk⟩ : ∃ k, j - pre.length = k + 1 := ⟨j - pre.length - 1, by omega⟩
        rw [hk] at hj ⊢; exact hj
  rcases nil_or (hrep _ _ hm).1 with a | ⟨c, a⟩
  · have := h1.calls X w bm vals (key _ a) (by rw [Lof_head (cs' := pre ++ .fz sz [] none :: post)]; exact ha)
    rw [Lof_head (cs' := pre ++ .fz sz [] none :: post), Own_head (cs' := pre ++ .fz sz [] none :: post)] at this
    exact this
  · have := (h2 c).calls X w bm vals (key _ a) (by rw [Lof_head (cs' := pre ++ .fz sz [] none :: post)]; exact ha)
    rw [Lof_head (cs' := pre ++ .fz sz [] none :: post), Own_head (cs' := pre ++ .fz sz [] none :: post)] at this
    exact this
/-- A cell of what comes out, told less. -/
theorem HCalls.out {P : Program} {F f d g : Nat} {pre post : List AV} {x y : AV} {args : List AV} {Hin H : Heap} {nx nx' : Ctr} {r : AV} (hw : Wk1 x y)
    (h : HCalls P F args Hin nx r ((f, d, g, some (pre ++ x :: post)) :: H) nx') : HCalls P F args Hin nx r ((f, d, g, some (pre ++ y :: post)) :: H) nx' := by
  refine ⟨h.ok, fun X w bm vals hr ha => (h.calls X w bm vals hr ha).mono fun e w' he => ?_⟩
  obtain ⟨v, bm', h1, h2, h3, h4⟩ := he
  rw [Lof_head (cs' := pre ++ y :: post)] at h3 h4
  refine ⟨v, bm', h1, ?_, h3, h4⟩
  refine h2.recell (by simp) (fun j x' v hj hv hvs => ?_)
  by_cases hjp : j = pre.length
  · subst hjp
    simp at hj; subst hj
    exact hw _ _ _ _ _ _ (hv x (by simp))
  · refine hv x' ?_
    rcases Nat.lt_or_ge j pre.length with hl | hl
    · rw [List.getElem?_append_left hl] at hj ⊢; exact hj
    · rw [List.getElem?_append_right hl] at hj ⊢
      obtain ⟨k, hk⟩ : ∃ k, j - pre.length = k + 1 := ⟨j - pre.length - 1, by omega⟩
      rw [hk] at hj ⊢; exact hj
/-- A cell of what goes in, told more. -/
theorem HCalls.inn {P : Program} {F f d g : Nat} {pre post : List AV} {x y : AV} {args : List AV} {H Hout : Heap} {nx nx' : Ctr} {r : AV} (hw : Wk1 x y)
    (h : HCalls P F args ((f, d, g, some (pre ++ y :: post)) :: H) nx r Hout nx') : HCalls P F args ((f, d, g, some (pre ++ x :: post)) :: H) nx r Hout nx' := by
  refine ⟨h.ok, fun X w bm vals hr ha => ?_⟩
  have hr' : Rel w (Own ((f, d, g, some (pre ++ y :: post)) :: H) bm) X bm ((f, d, g, some (pre ++ y :: post)) :: H) nx w := by
    rw [Own_head (cs' := pre ++ x :: post)]
    refine hr.recell (by simp) (fun j x' v hj hv hvs => ?_)
    by_cases hjp : j = pre.length
    · subst hjp
      simp at hj; subst hj
      exact hw _ _ _ _ _ _ (hv x (by simp))
    · refine hv x' ?_
      rcases Nat.lt_or_ge j pre.length with hl | hl
      · rw [List.getElem?_append_left hl] at hj ⊢; exact hj
      · rw [List.getElem?_append_right hl] at hj ⊢
        obtain ⟨k, hk⟩ : ∃ k, j - pre.length = k + 1 := ⟨j - pre.length - 1, by omega⟩
        rw [hk] at hj ⊢; exact hj
  have := h.calls X w bm vals hr' (by rw [Lof_head (cs' := pre ++ x :: post)]; exact ha)
  rw [Lof_head (cs' := pre ++ x :: post), Own_head (cs' := pre ++ x :: post)] at this
  exact this
theorem find_nil (f d : Nat) : find [] f d = none := rfl
/-- What is called with values that lead to nothing of ours. -/
theorem PCalls.h {P : Program} {F : Nat} {args args' : List AV} {r : AV} (h : PCalls P F args' r) (nx : Ctr) (hf : mapK (frzK 9 []) args (fun vs i => some (vs, i)) none = some (args', [])) : HCalls P F args [] nx r [] nx := by
  refine ⟨h.ok, fun X w bm vals hr ha => ?_⟩
  obtain ⟨cs', ids, h2, _, _, g⟩ := frz_map (fun v val _ ok r h1 h2 => frz_ok hr 9 v val ok r h1 h2) args vals _ _ ha hf
  simp only [Option.some.injEq, Prod.mk.injEq] at h2
  obtain ⟨rfl, rfl⟩ := h2
  have := g none4 zeroC (by intro f d g b hb; exact hb.elim)
  refine (h.calls X w vals hr.xlt this).mono ?_
  rintro e w' ⟨v, rfl, bel, rep⟩
  refine ⟨v, bm, rfl, ⟨?_, ?_, ?_, ?_, bel.os, bel.tape, bel.output, bel.size, fun b hb _ => bel.block b hb, hr.xlt⟩, ⟨fun _ => Nat.le_refl _, bel.size, ?_, ?_, ?_, ?_⟩, (rep.sub ?_).weak⟩
  · intro f d g cs h; rw [find_nil] at h; cases h
  · intro f d g cs f' d' g' cs' h; rw [find_nil] at h; cases h
  · intro f d g cs h; rw [find_nil] at h; cases h
  · intro f d g cs h; rw [find_nil] at h; cases h
  · rintro f d g b ⟨⟨cs, h⟩, _⟩; rw [find_nil] at h; cases h
  · rintro f d g b ⟨⟨cs, h⟩, _⟩; rw [find_nil] at h; cases h
  · intro a u hc _
    rw [World.cell?_of_block (w := w) (bel.block _ (World.block_lt_of_cell? w a hc))]; exact hc
  · rintro f d g b vs E ⟨⟨cs, h⟩, _⟩; rw [find_nil] at h; cases h
  · rintro f d g b ⟨⟨cs, h⟩, _⟩; rw [find_nil] at h; cases h
section
variable {P : Program} {φ : Nat} {R : List AV → Heap → Ctr → Prop} {k0 : List It}
theorem call2x {f : Nat} {vs : List AV} {ids : List (Nat × Nat)} {d : Option Nat} {l : List Op} {k : List It} {t : List AV} {H : Heap} {nx : Ctr} {r : AV} {Hout : Heap} (n : Nat) (hk0 : flat k0) (hk : flat k) (ks : List (Nat × Nat)) {Hin Hr : Heap} (hin : sel ks H = Hin) (hre : rest ks H = Hr)
    (hp : ∃ nx', HCalls P f vs Hin nx r Hout nx') (hf : Hr = [] ∨ (nameFree 9 Hr r = true ∧ heapFree Hr Hout = true))
    (h : ∀ (nx' : Ctr) (A : Nat → List It → List AV → Heap → Ctr → Out), (∀ n its t H nx, A (n + 1) its t H nx = advStep φ (A n) its t H nx) → RunsO P φ R k0 (A n (.ops l :: k) (put t d r) (Hout ++ Hr) nx')) : RunsO P φ R k0 (.call f 2 vs ids d l k t H nx) := by
  obtain ⟨nx', hp⟩ := hp
  exact call2 n hk0 hk ks hin hre hp hf (fun A eA => h nx' A eA)
theorem call2p {C : Nat → Prop} {f : Nat} {vs : List AV} {ids : List (Nat × Nat)} {d : Option Nat} {l : List Op} {k : List It} {t : List AV} {H : Heap} {nx : Ctr} {r : AV} {Hout : Nat → Nat → Heap} (n : Nat) (hk0 : flat k0) (hk : flat k) (ks : List (Nat × Nat)) {Hin Hr : Heap} (hin : sel ks H = Hin) (hre : rest ks H = Hr)
    (hp : ∃ key g' nx', C key ∧ HCalls P f vs Hin nx r (Hout key g') nx') (hf : ∀ key g', C key → Hr = [] ∨ (nameFree 9 Hr r = true ∧ heapFree Hr (Hout key g') = true))
    (h : ∀ (key g' : Nat) (nx' : Ctr), C key → ∀ (A : Nat → List It → List AV → Heap → Ctr → Out), (∀ n its t H nx, A (n + 1) its t H nx = advStep φ (A n) its t H nx) → RunsO P φ R k0 (A n (.ops l :: k) (put t d r) (Hout key g' ++ Hr) nx')) : RunsO P φ R k0 (.call f 2 vs ids d l k t H nx) := by
  obtain ⟨key, g', nx', hc, hp⟩ := hp
  exact call2 n hk0 hk ks hin hre hp (hf key g' hc) (fun A eA => h key g' nx' hc A eA)
end
theorem RunsX.wkT {P : Program} {φ : Nat} {R : List AV → Heap → Ctr → Prop} {its : List It} {t t' : List AV} {H : Heap} {nx : Ctr} (hf : flat its) (hw : Wk t t') (h : RunsX P φ R its t' H nx) : RunsX P φ R its t H nx := RunsX.of (.wk hw (h.flatTo hf))
theorem Wk.at1 {x y : AV} (hw : Wk1 x y) (pre post : List AV) : Wk (pre ++ x :: post) (pre ++ y :: post) := fun L X nx w vs h => Reps.arg hw pre vs h
theorem WkH.cell {f d g : Nat} {pre post : List AV} {x y : AV} {H : Heap} (hw : Wk1 x y) : WkH ((f, d, g, some (pre ++ x :: post)) :: H) ((f, d, g, some (pre ++ y :: post)) :: H) := by
  refine ⟨fun bm => Lof_head, fun w0 O X bm nx w r => ?_⟩
  refine r.recell (by simp) (fun j x' v hj hv hvs => ?_)
  by_cases hjp : j = pre.length
  · subst hjp
    simp at hj; subst hj
    exact hw _ _ _ _ _ _ (hv x (by simp))
  · refine hv x' ?_
    rcases Nat.lt_or_ge j pre.length with hl | hl
    · rw [List.getElem?_append_left hl] at hj ⊢; exact hj
    · rw [List.getElem?_append_right hl] at hj ⊢
      obtain ⟨k, hk⟩ : ∃ k, j - pre.length = k + 1 := ⟨j - pre.length - 1, by omega⟩
      rw [hk] at hj ⊢; exact hj
theorem RunsX.wkHeap {P : Program} {φ : Nat} {R : List AV → Heap → Ctr → Prop} {its : List It} {t : List AV} {H H' : Heap} {nx : Ctr} (hf : flat its) (hw : WkH H H') (h : RunsX P φ R its t H' nx) : RunsX P φ R its t H nx := RunsX.of (.wkH hw (h.flatTo hf))
end Go.Ev
/- The functions' bodies, compiled; printed by a program of mine (gen.py); that they are is checked here. -/
namespace Go.Proofs.Ytmokhopjnjecbab
open Go.Ev
set_option maxRecDepth 100000

/-- bytes.Clone: parameters [76], results [.t 2], calls  -/
def c_bytes_Clone : Cd := (.seq (.reg [⟨(some 2), none, .mv, [.c .nils]⟩]) (.seq (.seq (.reg [⟨(some 3), none, .mv, [.t 0]⟩, ⟨(some 4), none, (.eqs false), [.t 3, .c .nils]⟩]) (.cond (.t 4) (.seq (.reg [⟨(some 2), none, .mv, [.c .nils]⟩]) .ret) .skip)) (.seq (.reg [⟨(some 5), none, (.lit 1 0), []⟩, ⟨(some 6), none, .mv, [.t 0]⟩, ⟨(some 7), none, (.app 1 1 7), [.t 5, .t 6]⟩, ⟨(some 2), none, .mv, [.t 7]⟩]) .ret)))
theorem comp_bytes_Clone : compF Try.prog (mset [] [] []) (cset [] [] []) (wset [] []) Try.f113 = some c_bytes_Clone := by kernel_rfl
theorem ok_bytes_Clone : fnOk Try.prog F_bytes_Clone = true := by kernel_rfl
theorem calls_bytes_Clone {args : List AV} {r : AV} (h : RunsX Try.prog 0 (Gives [.t 2] r) [.c c_bytes_Clone] (args ++ List.replicate (8 - args.length) (.tup [])) [] zeroC) : PCalls Try.prog F_bytes_Clone args r :=
  pcallsF Try.checked.mixed Try.func113 ok_bytes_Clone comp_bytes_Clone rfl (rs := [.t 2]) (by kernel_rfl) h
theorem hcalls_bytes_Clone {args : List AV} {Hin Hout : Heap} {nx nx2 : Ctr} {r : AV} (φ : Nat) (ks : List (Nat × Nat)) (h : RunsX Try.prog φ (GivesH ks [.t 2] r Hout nx2) [.c c_bytes_Clone] (args ++ List.replicate (8 - args.length) (.tup [])) Hin nx) : HCalls Try.prog F_bytes_Clone args Hin nx r Hout nx2 :=
  hcallsF Try.checked.mixed Try.func113 ok_bytes_Clone comp_bytes_Clone rfl (rs := [.t 2]) (by kernel_rfl) φ ks h

def tab_CdClone : List (Nat × Cd × Nat × List RS) := [(F_bytes_Clone, c_bytes_Clone, 8, [.t 2])]
theorem tok_CdClone : TabOk Try.prog (tabOf tab_CdClone) := tab_cons calls_bytes_Clone hcalls_bytes_Clone (tab_nil)
end Go.Proofs.Ytmokhopjnjecbab
/- Rows of bytes; the walk through bytes.Clone. -/
namespace Go.Proofs.Ytmokhopjnjecbab
open Go.Ev
set_option linter.unusedVariables false
set_option linter.unusedSimpArgs false
set_option maxRecDepth 100000
variable {R : List AV → Heap → Ctr → Prop} {k : List It} {H : Heap} {nx : Ctr} {φ : Nat}

theorem catCells_avs (bs : List Nat) : catCells (avs bs) = avs bs := by
  induction bs with
  | nil => rfl
  | cons b bs ih => simp only [avs, List.map_cons, catCells, cells] at ih ⊢; rw [ih]; rfl
theorem avs_append (a b : List Nat) : avs a ++ avs b = avs (a ++ b) := by simp [avs]
theorem avs_take (n : Nat) (a : List Nat) : (avs a).take n = avs (a.take n) := by simp [avs]
theorem avs_drop (n : Nat) (a : List Nat) : (avs a).drop n = avs (a.drop n) := by simp [avs]
theorem avs_take_all (n : Nat) (a : List Nat) (h : a.length ≤ n) : (avs a).take n = avs a := by rw [avs_take, List.take_of_length_le h]
theorem avs_cons' (b : Nat) (bs : List Nat) : AV.int .u8 (b : Int) :: avs bs = avs (b :: bs) := rfl
theorem avs_nil' : ([] : List AV) = avs [] := rfl
theorem nilsK_avs {α : Type} (b : Nat) (bs : List Nat) (c : Option Nat) (ok : Bool → α) (bad : α) : nilsK (.fz 1 (avs (b :: bs)) c) ok bad = ok false := rfl
theorem wrap_u8 (a : Nat) : IntKind.u8.wrap (a : Int) = ((a % 256 : Nat) : Int) := by
  simp only [IntKind.wrap, IntKind.signed, IntKind.bits, Bool.false_and, Bool.false_eq_true, if_false]
  omega
/-- A row of bytes that nobody writes. -/
abbrev bv (bs : List Nat) : AV := .fz 1 (avs bs) none
theorem bytesClone_calls (bs : List Nat) (hlen : bs.length ≤ 1099511627776) : PCalls Try.prog F_bytes_Clone [bv bs] (bv bs) := by
  cases bs with
  | nil =>
    refine PCalls.nil (pre := []) (post := []) ?_ (fun c => ?_)
    · refine calls_bytes_Clone (walk0 60 trivial (fun A eA => ?_))
      simp only [c_bytes_Clone, ↓advStep, ↓execK, ↓opK, ↓binK, ↓intK, ↓strK, evs, ev, getT, setT, put, List.replicate, List.cons_append, List.nil_append, List.length_cons, List.length_nil, ↓mapK, ↓frzK_sl, ↓frzK_agg, ↓frzK_tup, ↓frzK_ifc, ↓frzK_func, ↓frzK_int, ↓frzK_bool, ↓frzK_str, ↓frzK_nilp, ↓frzK_nils, ↓frzK_nilm, ↓frzK_nilf, ↓frzK_nili, ↓frzK_fz, ↓frzK_any, ↓frzK_ptr, ↓frzK_ro, ↓getB, setB, kill, killM, dropK, keysOf, capOf_nn, zeroC, bump, frzT, thaw, gets, putAll, ↓getsK, ↓getR, ↓retK, retv, find, cells, ↓nilpK, ↓nilsK, ↓nilfK, ↓niliK, ↓bndK, ↓cutK, ↓fillK, ↓exitK, List.append_nil, List.drop, List.take, Nat.reduceAdd, Nat.reduceSub, Nat.reduceMul, Nat.reduceLT, Nat.reduceLeDiff, Nat.zero_add, Nat.add_zero, Nat.mul_one, Int.reduceToNat, Nat.reduceEqDiff, Nat.succ_ne_self, Nat.le_refl, Nat.one_ne_zero, Nat.reduceBEq, Nat.lt_irrefl, List.length_append, Int.toNat_zero, Int.toNat_one, List.take_zero, List.drop_zero, Nat.zero_mul, sel, rest, keyIn, ↓reduceIte, ↓if_pos, ↓if_neg, reduceCtorEq, Bool.not_true, Bool.not_false, Bool.false_eq_true, Bool.true_eq_false, and_self, and_true, true_and, false_and, and_false, decide_true, decide_false, decide_eq_true, decide_eq_false, decide_eq_true_eq, decide_eq_false_iff_not, Bool.not_eq_true, Bool.not_eq_false, Bool.not_eq_eq_eq_not, Decidable.not_not, ↓appK, eA]
      exact doneW rfl (Wk1.nils 1)
    · refine calls_bytes_Clone (walk0 60 trivial (fun A eA => ?_))
      simp only [c_bytes_Clone, ↓advStep, ↓execK, ↓opK, ↓binK, ↓intK, ↓strK, evs, ev, getT, setT, put, List.replicate, List.cons_append, List.nil_append, List.length_cons, List.length_nil, ↓mapK, ↓frzK_sl, ↓frzK_agg, ↓frzK_tup, ↓frzK_ifc, ↓frzK_func, ↓frzK_int, ↓frzK_bool, ↓frzK_str, ↓frzK_nilp, ↓frzK_nils, ↓frzK_nilm, ↓frzK_nilf, ↓frzK_nili, ↓frzK_fz, ↓frzK_any, ↓frzK_ptr, ↓frzK_ro, ↓getB, setB, kill, killM, dropK, keysOf, capOf_nn, zeroC, bump, frzT, thaw, gets, putAll, ↓getsK, ↓getR, ↓retK, retv, find, cells, ↓nilpK, ↓nilsK, ↓nilfK, ↓niliK, ↓bndK, ↓cutK, ↓fillK, ↓exitK, List.append_nil, List.drop, List.take, Nat.reduceAdd, Nat.reduceSub, Nat.reduceMul, Nat.reduceLT, Nat.reduceLeDiff, Nat.zero_add, Nat.add_zero, Nat.mul_one, Int.reduceToNat, Nat.reduceEqDiff, Nat.succ_ne_self, Nat.le_refl, Nat.one_ne_zero, Nat.reduceBEq, Nat.lt_irrefl, List.length_append, Int.toNat_zero, Int.toNat_one, List.take_zero, List.drop_zero, Nat.zero_mul, sel, rest, keyIn, ↓reduceIte, ↓if_pos, ↓if_neg, reduceCtorEq, Bool.not_true, Bool.not_false, Bool.false_eq_true, Bool.true_eq_false, and_self, and_true, true_and, false_and, and_false, decide_true, decide_false, decide_eq_true, decide_eq_false, decide_eq_true_eq, decide_eq_false_iff_not, Bool.not_eq_true, Bool.not_eq_false, Bool.not_eq_eq_eq_not, Decidable.not_not, ↓appK, eA, allSz]
      exact doneW rfl (Wk1.cap 1 _ _)
  | cons b bs =>
    simp only [List.length_cons] at hlen
    have h1 : ¬ (bs.length + 1 = 0) := by omega
    have h2 : bs.length + 1 ≤ 1099511627776 ∧ bs.length + 1 ≤ 1099511627776 := ⟨hlen, hlen⟩
    have h3 : 0 < bs.length + 1 := by omega
    refine calls_bytes_Clone (walk0 60 trivial (fun A eA => ?_))
    simp only [c_bytes_Clone, ↓advStep, ↓execK, ↓opK, ↓binK, ↓intK, ↓strK, evs, ev, getT, setT, put, List.replicate, List.cons_append, List.nil_append, List.length_cons, List.length_nil, ↓mapK, ↓frzK_sl, ↓frzK_agg, ↓frzK_tup, ↓frzK_ifc, ↓frzK_func, ↓frzK_int, ↓frzK_bool, ↓frzK_str, ↓frzK_nilp, ↓frzK_nils, ↓frzK_nilm, ↓frzK_nilf, ↓frzK_nili, ↓frzK_fz, ↓frzK_any, ↓frzK_ptr, ↓frzK_ro, ↓getB, setB, kill, killM, dropK, keysOf, capOf_nn, zeroC, bump, frzT, thaw, gets, putAll, ↓getsK, ↓getR, ↓retK, retv, find, cells, ↓nilpK, ↓nilsK, ↓nilfK, ↓niliK, ↓bndK, ↓cutK, ↓fillK, ↓exitK, List.append_nil, List.drop, List.take, Nat.reduceAdd, Nat.reduceSub, Nat.reduceMul, Nat.reduceLT, Nat.reduceLeDiff, Nat.zero_add, Nat.add_zero, Nat.mul_one, Int.reduceToNat, Nat.reduceEqDiff, Nat.succ_ne_self, Nat.le_refl, Nat.one_ne_zero, Nat.reduceBEq, Nat.lt_irrefl, List.length_append, Int.toNat_zero, Int.toNat_one, List.take_zero, List.drop_zero, Nat.zero_mul, sel, rest, keyIn, ↓reduceIte, ↓if_pos, ↓if_neg, reduceCtorEq, Bool.not_true, Bool.not_false, Bool.false_eq_true, Bool.true_eq_false, and_self, and_true, true_and, false_and, and_false, decide_true, decide_false, decide_eq_true, decide_eq_false, decide_eq_true_eq, decide_eq_false_iff_not, Bool.not_eq_true, Bool.not_eq_false, Bool.not_eq_eq_eq_not, Decidable.not_not, ↓appK, eA, allSz, bv, ↓nilsK_avs, avs_len, h1, hlen, h3, catCells, catCells_avs]
    refine doneG ?_
    simp (disch := first | omega | (simp only [avs_len, List.length_cons, List.length_append, List.length_nil, List.length_take, List.length_drop, List.length_map]; omega)) only [↓advStep, ↓execK, ↓opK, ↓binK, ↓intK, ↓strK, evs, ev, getT, setT, put, List.replicate, List.cons_append, List.nil_append, List.length_cons, List.length_nil, ↓mapK, ↓frzK_sl, ↓frzK_agg, ↓frzK_tup, ↓frzK_ifc, ↓frzK_func, ↓frzK_int, ↓frzK_bool, ↓frzK_str, ↓frzK_nilp, ↓frzK_nils, ↓frzK_nilm, ↓frzK_nilf, ↓frzK_nili, ↓frzK_fz, ↓frzK_any, ↓frzK_ptr, ↓frzK_ro, ↓getB, setB, kill, killM, dropK, keysOf, capOf_nn, zeroC, bump, frzT, thaw, gets, putAll, ↓getsK, ↓getR, ↓retK, retv, find, cells, ↓nilpK, ↓nilsK, ↓nilfK, ↓niliK, ↓bndK, ↓cutK, ↓fillK, ↓exitK, List.append_nil, List.drop, List.take, Nat.reduceAdd, Nat.reduceSub, Nat.reduceMul, Nat.reduceLT, Nat.reduceLeDiff, Nat.zero_add, Nat.add_zero, Nat.mul_one, Int.reduceToNat, Nat.reduceEqDiff, Nat.succ_ne_self, Nat.le_refl, Nat.one_ne_zero, Nat.reduceBEq, Nat.lt_irrefl, List.length_append, Int.toNat_zero, Int.toNat_one, List.take_zero, List.drop_zero, Nat.zero_mul, sel, rest, keyIn, ↓reduceIte, ↓if_pos, ↓if_neg, reduceCtorEq, Bool.not_true, Bool.not_false, Bool.false_eq_true, Bool.true_eq_false, and_self, and_true, true_and, false_and, and_false, decide_true, decide_false, decide_eq_true, decide_eq_false, decide_eq_true_eq, decide_eq_false_iff_not, Bool.not_eq_true, Bool.not_eq_false, Bool.not_eq_eq_eq_not, Decidable.not_not, avs_len, Nat.sub_zero, avs_take_all, ↓frz_ints, chunk]
theorem bytesClone_hcalls (φ : Nat) (nx : Ctr) (a : AV) (es : List AV) (c : Option Nat) (hlen : es.length + 1 ≤ 1099511627776) :
    HCalls Try.prog F_bytes_Clone [.fz 1 (a :: es) c] [] nx (.sl φ 7 (nx 7) 1 0 (es.length + 1)) [(φ, 7, nx 7, some (catCells (a :: es)))] (bump nx 7) := by
  have h1 : ¬ (es.length + 1 = 0) := by omega
  have h3 : 0 < es.length + 1 := by omega
  refine hcalls_bytes_Clone φ [(φ, 7)] (walk0 60 trivial (fun A eA => ?_))
  simp only [c_bytes_Clone, ↓advStep, ↓execK, ↓opK, ↓binK, ↓intK, ↓strK, evs, ev, getT, setT, put, List.replicate, List.cons_append, List.nil_append, List.length_cons, List.length_nil, ↓mapK, ↓frzK_sl, ↓frzK_agg, ↓frzK_tup, ↓frzK_ifc, ↓frzK_func, ↓frzK_int, ↓frzK_bool, ↓frzK_str, ↓frzK_nilp, ↓frzK_nils, ↓frzK_nilm, ↓frzK_nilf, ↓frzK_nili, ↓frzK_fz, ↓frzK_any, ↓frzK_ptr, ↓frzK_ro, ↓getB, setB, kill, killM, dropK, keysOf, capOf_nn, zeroC, bump, frzT, thaw, gets, putAll, ↓getsK, ↓getR, ↓retK, retv, find, cells, ↓nilpK, ↓nilsK, ↓nilfK, ↓niliK, ↓bndK, ↓cutK, ↓fillK, ↓exitK, List.append_nil, List.drop, List.take, Nat.reduceAdd, Nat.reduceSub, Nat.reduceMul, Nat.reduceLT, Nat.reduceLeDiff, Nat.zero_add, Nat.add_zero, Nat.mul_one, Int.reduceToNat, Nat.reduceEqDiff, Nat.succ_ne_self, Nat.le_refl, Nat.one_ne_zero, Nat.reduceBEq, Nat.lt_irrefl, List.length_append, Int.toNat_zero, Int.toNat_one, List.take_zero, List.drop_zero, Nat.zero_mul, sel, rest, keyIn, ↓reduceIte, ↓if_pos, ↓if_neg, reduceCtorEq, Bool.not_true, Bool.not_false, Bool.false_eq_true, Bool.true_eq_false, and_self, and_true, true_and, false_and, and_false, decide_true, decide_false, decide_eq_true, decide_eq_false, decide_eq_true_eq, decide_eq_false_iff_not, Bool.not_eq_true, Bool.not_eq_false, Bool.not_eq_eq_eq_not, Decidable.not_not, ↓appK, eA, allSz, h1, hlen, h3, catCells]
  refine doneH ?_ ?_ rfl
  · simp only [↓advStep, ↓execK, ↓opK, ↓binK, ↓intK, ↓strK, evs, ev, getT, setT, put, List.replicate, List.cons_append, List.nil_append, List.length_cons, List.length_nil, ↓mapK, ↓frzK_sl, ↓frzK_agg, ↓frzK_tup, ↓frzK_ifc, ↓frzK_func, ↓frzK_int, ↓frzK_bool, ↓frzK_str, ↓frzK_nilp, ↓frzK_nils, ↓frzK_nilm, ↓frzK_nilf, ↓frzK_nili, ↓frzK_fz, ↓frzK_any, ↓frzK_ptr, ↓frzK_ro, ↓getB, setB, kill, killM, dropK, keysOf, capOf_nn, zeroC, bump, frzT, thaw, gets, putAll, ↓getsK, ↓getR, ↓retK, retv, find, cells, ↓nilpK, ↓nilsK, ↓nilfK, ↓niliK, ↓bndK, ↓cutK, ↓fillK, ↓exitK, List.append_nil, List.drop, List.take, Nat.reduceAdd, Nat.reduceSub, Nat.reduceMul, Nat.reduceLT, Nat.reduceLeDiff, Nat.zero_add, Nat.add_zero, Nat.mul_one, Int.reduceToNat, Nat.reduceEqDiff, Nat.succ_ne_self, Nat.le_refl, Nat.one_ne_zero, Nat.reduceBEq, Nat.lt_irrefl, List.length_append, Int.toNat_zero, Int.toNat_one, List.take_zero, List.drop_zero, Nat.zero_mul, sel, rest, keyIn, ↓reduceIte, ↓if_pos, ↓if_neg, reduceCtorEq, Bool.not_true, Bool.not_false, Bool.false_eq_true, Bool.true_eq_false, and_self, and_true, true_and, false_and, and_false, decide_true, decide_false, decide_eq_true, decide_eq_false, decide_eq_true_eq, decide_eq_false_iff_not, Bool.not_eq_true, Bool.not_eq_false, Bool.not_eq_eq_eq_not, Decidable.not_not]
  · simp only [↓advStep, ↓execK, ↓opK, ↓binK, ↓intK, ↓strK, evs, ev, getT, setT, put, List.replicate, List.cons_append, List.nil_append, List.length_cons, List.length_nil, ↓mapK, ↓frzK_sl, ↓frzK_agg, ↓frzK_tup, ↓frzK_ifc, ↓frzK_func, ↓frzK_int, ↓frzK_bool, ↓frzK_str, ↓frzK_nilp, ↓frzK_nils, ↓frzK_nilm, ↓frzK_nilf, ↓frzK_nili, ↓frzK_fz, ↓frzK_any, ↓frzK_ptr, ↓frzK_ro, ↓getB, setB, kill, killM, dropK, keysOf, capOf_nn, zeroC, bump, frzT, thaw, gets, putAll, ↓getsK, ↓getR, ↓retK, retv, find, cells, ↓nilpK, ↓nilsK, ↓nilfK, ↓niliK, ↓bndK, ↓cutK, ↓fillK, ↓exitK, List.append_nil, List.drop, List.take, Nat.reduceAdd, Nat.reduceSub, Nat.reduceMul, Nat.reduceLT, Nat.reduceLeDiff, Nat.zero_add, Nat.add_zero, Nat.mul_one, Int.reduceToNat, Nat.reduceEqDiff, Nat.succ_ne_self, Nat.le_refl, Nat.one_ne_zero, Nat.reduceBEq, Nat.lt_irrefl, List.length_append, Int.toNat_zero, Int.toNat_one, List.take_zero, List.drop_zero, Nat.zero_mul, sel, rest, keyIn, ↓reduceIte, ↓if_pos, ↓if_neg, reduceCtorEq, Bool.not_true, Bool.not_false, Bool.false_eq_true, Bool.true_eq_false, and_self, and_true, true_and, false_and, and_false, decide_true, decide_false, decide_eq_true, decide_eq_false, decide_eq_true_eq, decide_eq_false_iff_not, Bool.not_eq_true, Bool.not_eq_false, Bool.not_eq_eq_eq_not, Decidable.not_not]
theorem bstr_mk (bs : List Nat) : (⟨(bytesOf (avs bs)).toArray⟩ : ByteArray) = bstr bs := rfl
theorem avs_free (bs : List Nat) (H : Heap) : (avs bs).all (nameFree 9 H) = true := by simp [avs, nameFree]
end Go.Proofs.Ytmokhopjnjecbab
/- A number in four bytes, for the mixing of sums. -/
namespace Go.Proofs.Ytmokhopjnjecbab
open Go.Ev
set_option linter.unusedVariables false
set_option linter.unusedSimpArgs false
set_option maxRecDepth 100000
variable {R : List AV → Heap → Ctr → Prop} {k : List It} {H : Heap} {nx : Ctr} {φ : Nat}
theorem wide4_calls (v : Nat) (hv : v < 2 ^ 64) (φ : Nat) (nx : Ctr) : HCalls Try.prog F_ref01_Wide [.int .u64 (v : Nat), .int .i64 4] [] nx (.sl φ 8 (nx 8) 1 0 4) [(φ, 8, nx 8, some (avs (be4 v)))] (bump nx 8) := by
  have step : ∀ m : Nat, (m : Int).tmod 256 = ((m % 256 : Nat) : Int) := fun m => by rw [Int.tmod_eq_emod_of_nonneg (by omega)]; omega
  have quo : ∀ m : Nat, m < 2 ^ 64 → IntKind.u64.wrap ((m : Int).tdiv 256) = ((m / 256 : Nat) : Int) := fun m hm => by
    have : (m : Int).tdiv 256 = ((m / 256 : Nat) : Int) := by rw [Int.tdiv_eq_ediv_of_nonneg (by omega)]; omega
    rw [this]
    exact wrap_nat .u64 rfl _ (by show _ < 2 ^ 64; omega)
  have q0 := quo v hv
  have q1 := quo (v / 256) (by omega)
  have q2 := quo (v / 256 / 256) (by omega)
  have q3 := quo (v / 256 / 256 / 256) (by omega)
  have w4 : IntKind.i64.wrap ((4 : Int) - 1) = 3 := by decide
  have w3 : IntKind.i64.wrap ((3 : Int) - 1) = 2 := by decide
  have w2 : IntKind.i64.wrap ((2 : Int) - 1) = 1 := by decide
  have w1 : IntKind.i64.wrap ((1 : Int) - 1) = 0 := by decide
  have w0 : IntKind.i64.wrap ((0 : Int) - 1) = -1 := by decide
  refine hcalls_ref01_Wide φ [(φ, 8)] (walk0 60 trivial (fun A eA => ?_))
  simp (disch := first | omega | (simp only [avs_len, List.length_cons, List.length_append, List.length_nil, List.length_take, List.length_drop, List.length_map]; omega)) only [c_ref01_Wide, wl_ref01_Wide_0, s_ref01_Wide_0, c_ref01_Wide_l0, wb_ref01_Wide_0, c_ref01_Wide_k0, ↓advStep, ↓execK, ↓opK, ↓binK, ↓intK, ↓strK, evs, ev, getT, setT, put, List.replicate, List.cons_append, List.nil_append, List.length_cons, List.length_nil, ↓mapK, ↓frzK_sl, ↓frzK_agg, ↓frzK_tup, ↓frzK_ifc, ↓frzK_func, ↓frzK_int, ↓frzK_bool, ↓frzK_str, ↓frzK_nilp, ↓frzK_nils, ↓frzK_nilm, ↓frzK_nilf, ↓frzK_nili, ↓frzK_fz, ↓frzK_any, ↓frzK_ptr, ↓frzK_ro, ↓getB, setB, kill, killM, dropK, keysOf, capOf_nn, zeroC, bump, frzT, thaw, gets, putAll, ↓getsK, ↓getR, ↓retK, retv, find, cells, ↓nilpK, ↓nilsK, ↓nilfK, ↓niliK, ↓bndK, ↓cutK, ↓fillK, ↓exitK, List.append_nil, List.drop, List.take, Nat.reduceAdd, Nat.reduceSub, Nat.reduceMul, Nat.reduceLT, Nat.reduceLeDiff, Nat.zero_add, Nat.add_zero, Nat.mul_one, Int.reduceToNat, Nat.reduceEqDiff, Nat.succ_ne_self, Nat.le_refl, Nat.one_ne_zero, Nat.reduceBEq, Nat.lt_irrefl, List.length_append, Int.toNat_zero, Int.toNat_one, List.take_zero, List.drop_zero, Nat.zero_mul, sel, rest, keyIn, ↓reduceIte, ↓if_pos, ↓if_neg, reduceCtorEq, Bool.not_true, Bool.not_false, Bool.false_eq_true, Bool.true_eq_false, and_self, and_true, true_and, false_and, and_false, decide_true, decide_false, decide_eq_true, decide_eq_false, decide_eq_true_eq, decide_eq_false_iff_not, Bool.not_eq_true, Bool.not_eq_false, Bool.not_eq_eq_eq_not, Decidable.not_not, eA, w4]
  refine round (its := [.blk 0 wb_ref01_Wide_0]) (k0 := [.c c_ref01_Wide_k0]) 60 trivial trivial (fun A eA => ?_)
  simp (disch := first | omega | (simp only [avs_len, List.length_cons, List.length_append, List.length_nil, List.length_take, List.length_drop, List.length_map]; omega)) only [c_ref01_Wide, wl_ref01_Wide_0, s_ref01_Wide_0, c_ref01_Wide_l0, wb_ref01_Wide_0, c_ref01_Wide_k0, ↓advStep, ↓execK, ↓opK, ↓binK, ↓intK, ↓strK, evs, ev, getT, setT, put, List.replicate, List.cons_append, List.nil_append, List.length_cons, List.length_nil, ↓mapK, ↓frzK_sl, ↓frzK_agg, ↓frzK_tup, ↓frzK_ifc, ↓frzK_func, ↓frzK_int, ↓frzK_bool, ↓frzK_str, ↓frzK_nilp, ↓frzK_nils, ↓frzK_nilm, ↓frzK_nilf, ↓frzK_nili, ↓frzK_fz, ↓frzK_any, ↓frzK_ptr, ↓frzK_ro, ↓getB, setB, kill, killM, dropK, keysOf, capOf_nn, zeroC, bump, frzT, thaw, gets, putAll, ↓getsK, ↓getR, ↓retK, retv, find, cells, ↓nilpK, ↓nilsK, ↓nilfK, ↓niliK, ↓bndK, ↓cutK, ↓fillK, ↓exitK, List.append_nil, List.drop, List.take, Nat.reduceAdd, Nat.reduceSub, Nat.reduceMul, Nat.reduceLT, Nat.reduceLeDiff, Nat.zero_add, Nat.add_zero, Nat.mul_one, Int.reduceToNat, Nat.reduceEqDiff, Nat.succ_ne_self, Nat.le_refl, Nat.one_ne_zero, Nat.reduceBEq, Nat.lt_irrefl, List.length_append, Int.toNat_zero, Int.toNat_one, List.take_zero, List.drop_zero, Nat.zero_mul, sel, rest, keyIn, ↓reduceIte, ↓if_pos, ↓if_neg, reduceCtorEq, Bool.not_true, Bool.not_false, Bool.false_eq_true, Bool.true_eq_false, and_self, and_true, true_and, false_and, and_false, decide_true, decide_false, decide_eq_true, decide_eq_false, decide_eq_true_eq, decide_eq_false_iff_not, Bool.not_eq_true, Bool.not_eq_false, Bool.not_eq_eq_eq_not, Decidable.not_not, eA, step, q0, wrap_u8, w3, List.all_cons, List.all_nil, scal1, Bool.and_self]
  refine round (its := [.blk 0 wb_ref01_Wide_0]) (k0 := [.c c_ref01_Wide_k0]) 60 trivial trivial (fun A eA => ?_)
  simp (disch := first | omega | (simp only [avs_len, List.length_cons, List.length_append, List.length_nil, List.length_take, List.length_drop, List.length_map]; omega)) only [c_ref01_Wide, wl_ref01_Wide_0, s_ref01_Wide_0, c_ref01_Wide_l0, wb_ref01_Wide_0, c_ref01_Wide_k0, ↓advStep, ↓execK, ↓opK, ↓binK, ↓intK, ↓strK, evs, ev, getT, setT, put, List.replicate, List.cons_append, List.nil_append, List.length_cons, List.length_nil, ↓mapK, ↓frzK_sl, ↓frzK_agg, ↓frzK_tup, ↓frzK_ifc, ↓frzK_func, ↓frzK_int, ↓frzK_bool, ↓frzK_str, ↓frzK_nilp, ↓frzK_nils, ↓frzK_nilm, ↓frzK_nilf, ↓frzK_nili, ↓frzK_fz, ↓frzK_any, ↓frzK_ptr, ↓frzK_ro, ↓getB, setB, kill, killM, dropK, keysOf, capOf_nn, zeroC, bump, frzT, thaw, gets, putAll, ↓getsK, ↓getR, ↓retK, retv, find, cells, ↓nilpK, ↓nilsK, ↓nilfK, ↓niliK, ↓bndK, ↓cutK, ↓fillK, ↓exitK, List.append_nil, List.drop, List.take, Nat.reduceAdd, Nat.reduceSub, Nat.reduceMul, Nat.reduceLT, Nat.reduceLeDiff, Nat.zero_add, Nat.add_zero, Nat.mul_one, Int.reduceToNat, Nat.reduceEqDiff, Nat.succ_ne_self, Nat.le_refl, Nat.one_ne_zero, Nat.reduceBEq, Nat.lt_irrefl, List.length_append, Int.toNat_zero, Int.toNat_one, List.take_zero, List.drop_zero, Nat.zero_mul, sel, rest, keyIn, ↓reduceIte, ↓if_pos, ↓if_neg, reduceCtorEq, Bool.not_true, Bool.not_false, Bool.false_eq_true, Bool.true_eq_false, and_self, and_true, true_and, false_and, and_false, decide_true, decide_false, decide_eq_true, decide_eq_false, decide_eq_true_eq, decide_eq_false_iff_not, Bool.not_eq_true, Bool.not_eq_false, Bool.not_eq_eq_eq_not, Decidable.not_not, eA, step, q1, wrap_u8, w2, List.all_cons, List.all_nil, scal1, Bool.and_self]
  refine round (its := [.blk 0 wb_ref01_Wide_0]) (k0 := [.c c_ref01_Wide_k0]) 60 trivial trivial (fun A eA => ?_)
  simp (disch := first | omega | (simp only [avs_len, List.length_cons, List.length_append, List.length_nil, List.length_take, List.length_drop, List.length_map]; omega)) only [c_ref01_Wide, wl_ref01_Wide_0, s_ref01_Wide_0, c_ref01_Wide_l0, wb_ref01_Wide_0, c_ref01_Wide_k0, ↓advStep, ↓execK, ↓opK, ↓binK, ↓intK, ↓strK, evs, ev, getT, setT, put, List.replicate, List.cons_append, List.nil_append, List.length_cons, List.length_nil, ↓mapK, ↓frzK_sl, ↓frzK_agg, ↓frzK_tup, ↓frzK_ifc, ↓frzK_func, ↓frzK_int, ↓frzK_bool, ↓frzK_str, ↓frzK_nilp, ↓frzK_nils, ↓frzK_nilm, ↓frzK_nilf, ↓frzK_nili, ↓frzK_fz, ↓frzK_any, ↓frzK_ptr, ↓frzK_ro, ↓getB, setB, kill, killM, dropK, keysOf, capOf_nn, zeroC, bump, frzT, thaw, gets, putAll, ↓getsK, ↓getR, ↓retK, retv, find, cells, ↓nilpK, ↓nilsK, ↓nilfK, ↓niliK, ↓bndK, ↓cutK, ↓fillK, ↓exitK, List.append_nil, List.drop, List.take, Nat.reduceAdd, Nat.reduceSub, Nat.reduceMul, Nat.reduceLT, Nat.reduceLeDiff, Nat.zero_add, Nat.add_zero, Nat.mul_one, Int.reduceToNat, Nat.reduceEqDiff, Nat.succ_ne_self, Nat.le_refl, Nat.one_ne_zero, Nat.reduceBEq, Nat.lt_irrefl, List.length_append, Int.toNat_zero, Int.toNat_one, List.take_zero, List.drop_zero, Nat.zero_mul, sel, rest, keyIn, ↓reduceIte, ↓if_pos, ↓if_neg, reduceCtorEq, Bool.not_true, Bool.not_false, Bool.false_eq_true, Bool.true_eq_false, and_self, and_true, true_and, false_and, and_false, decide_true, decide_false, decide_eq_true, decide_eq_false, decide_eq_true_eq, decide_eq_false_iff_not, Bool.not_eq_true, Bool.not_eq_false, Bool.not_eq_eq_eq_not, Decidable.not_not, eA, step, q2, wrap_u8, w1, List.all_cons, List.all_nil, scal1, Bool.and_self]
  refine round (its := [.blk 0 wb_ref01_Wide_0]) (k0 := [.c c_ref01_Wide_k0]) 60 trivial trivial (fun A eA => ?_)
  simp (disch := first | omega | (simp only [avs_len, List.length_cons, List.length_append, List.length_nil, List.length_take, List.length_drop, List.length_map]; omega)) only [c_ref01_Wide, wl_ref01_Wide_0, s_ref01_Wide_0, c_ref01_Wide_l0, wb_ref01_Wide_0, c_ref01_Wide_k0, ↓advStep, ↓execK, ↓opK, ↓binK, ↓intK, ↓strK, evs, ev, getT, setT, put, List.replicate, List.cons_append, List.nil_append, List.length_cons, List.length_nil, ↓mapK, ↓frzK_sl, ↓frzK_agg, ↓frzK_tup, ↓frzK_ifc, ↓frzK_func, ↓frzK_int, ↓frzK_bool, ↓frzK_str, ↓frzK_nilp, ↓frzK_nils, ↓frzK_nilm, ↓frzK_nilf, ↓frzK_nili, ↓frzK_fz, ↓frzK_any, ↓frzK_ptr, ↓frzK_ro, ↓getB, setB, kill, killM, dropK, keysOf, capOf_nn, zeroC, bump, frzT, thaw, gets, putAll, ↓getsK, ↓getR, ↓retK, retv, find, cells, ↓nilpK, ↓nilsK, ↓nilfK, ↓niliK, ↓bndK, ↓cutK, ↓fillK, ↓exitK, List.append_nil, List.drop, List.take, Nat.reduceAdd, Nat.reduceSub, Nat.reduceMul, Nat.reduceLT, Nat.reduceLeDiff, Nat.zero_add, Nat.add_zero, Nat.mul_one, Int.reduceToNat, Nat.reduceEqDiff, Nat.succ_ne_self, Nat.le_refl, Nat.one_ne_zero, Nat.reduceBEq, Nat.lt_irrefl, List.length_append, Int.toNat_zero, Int.toNat_one, List.take_zero, List.drop_zero, Nat.zero_mul, sel, rest, keyIn, ↓reduceIte, ↓if_pos, ↓if_neg, reduceCtorEq, Bool.not_true, Bool.not_false, Bool.false_eq_true, Bool.true_eq_false, and_self, and_true, true_and, false_and, and_false, decide_true, decide_false, decide_eq_true, decide_eq_false, decide_eq_true_eq, decide_eq_false_iff_not, Bool.not_eq_true, Bool.not_eq_false, Bool.not_eq_eq_eq_not, Decidable.not_not, eA, step, q3, wrap_u8, w0, List.all_cons, List.all_nil, scal1, Bool.and_self]
  refine round (its := [.blk 0 wb_ref01_Wide_0]) (k0 := [.c c_ref01_Wide_k0]) 60 trivial trivial (fun A eA => ?_)
  simp (disch := first | omega | (simp only [avs_len, List.length_cons, List.length_append, List.length_nil, List.length_take, List.length_drop, List.length_map]; omega)) only [c_ref01_Wide, wl_ref01_Wide_0, s_ref01_Wide_0, c_ref01_Wide_l0, wb_ref01_Wide_0, c_ref01_Wide_k0, ↓advStep, ↓execK, ↓opK, ↓binK, ↓intK, ↓strK, evs, ev, getT, setT, put, List.replicate, List.cons_append, List.nil_append, List.length_cons, List.length_nil, ↓mapK, ↓frzK_sl, ↓frzK_agg, ↓frzK_tup, ↓frzK_ifc, ↓frzK_func, ↓frzK_int, ↓frzK_bool, ↓frzK_str, ↓frzK_nilp, ↓frzK_nils, ↓frzK_nilm, ↓frzK_nilf, ↓frzK_nili, ↓frzK_fz, ↓frzK_any, ↓frzK_ptr, ↓frzK_ro, ↓getB, setB, kill, killM, dropK, keysOf, capOf_nn, zeroC, bump, frzT, thaw, gets, putAll, ↓getsK, ↓getR, ↓retK, retv, find, cells, ↓nilpK, ↓nilsK, ↓nilfK, ↓niliK, ↓bndK, ↓cutK, ↓fillK, ↓exitK, List.append_nil, List.drop, List.take, Nat.reduceAdd, Nat.reduceSub, Nat.reduceMul, Nat.reduceLT, Nat.reduceLeDiff, Nat.zero_add, Nat.add_zero, Nat.mul_one, Int.reduceToNat, Nat.reduceEqDiff, Nat.succ_ne_self, Nat.le_refl, Nat.one_ne_zero, Nat.reduceBEq, Nat.lt_irrefl, List.length_append, Int.toNat_zero, Int.toNat_one, List.take_zero, List.drop_zero, Nat.zero_mul, sel, rest, keyIn, ↓reduceIte, ↓if_pos, ↓if_neg, reduceCtorEq, Bool.not_true, Bool.not_false, Bool.false_eq_true, Bool.true_eq_false, and_self, and_true, true_and, false_and, and_false, decide_true, decide_false, decide_eq_true, decide_eq_false, decide_eq_true_eq, decide_eq_false_iff_not, Bool.not_eq_true, Bool.not_eq_false, Bool.not_eq_eq_eq_not, Decidable.not_not, eA]
  refine walk0 (its := [.c c_ref01_Wide_k0]) 60 trivial (fun A eA => ?_)
  simp (disch := first | omega | (simp only [avs_len, List.length_cons, List.length_append, List.length_nil, List.length_take, List.length_drop, List.length_map]; omega)) only [c_ref01_Wide, wl_ref01_Wide_0, s_ref01_Wide_0, c_ref01_Wide_l0, wb_ref01_Wide_0, c_ref01_Wide_k0, ↓advStep, ↓execK, ↓opK, ↓binK, ↓intK, ↓strK, evs, ev, getT, setT, put, List.replicate, List.cons_append, List.nil_append, List.length_cons, List.length_nil, ↓mapK, ↓frzK_sl, ↓frzK_agg, ↓frzK_tup, ↓frzK_ifc, ↓frzK_func, ↓frzK_int, ↓frzK_bool, ↓frzK_str, ↓frzK_nilp, ↓frzK_nils, ↓frzK_nilm, ↓frzK_nilf, ↓frzK_nili, ↓frzK_fz, ↓frzK_any, ↓frzK_ptr, ↓frzK_ro, ↓getB, setB, kill, killM, dropK, keysOf, capOf_nn, zeroC, bump, frzT, thaw, gets, putAll, ↓getsK, ↓getR, ↓retK, retv, find, cells, ↓nilpK, ↓nilsK, ↓nilfK, ↓niliK, ↓bndK, ↓cutK, ↓fillK, ↓exitK, List.append_nil, List.drop, List.take, Nat.reduceAdd, Nat.reduceSub, Nat.reduceMul, Nat.reduceLT, Nat.reduceLeDiff, Nat.zero_add, Nat.add_zero, Nat.mul_one, Int.reduceToNat, Nat.reduceEqDiff, Nat.succ_ne_self, Nat.le_refl, Nat.one_ne_zero, Nat.reduceBEq, Nat.lt_irrefl, List.length_append, Int.toNat_zero, Int.toNat_one, List.take_zero, List.drop_zero, Nat.zero_mul, sel, rest, keyIn, ↓reduceIte, ↓if_pos, ↓if_neg, reduceCtorEq, Bool.not_true, Bool.not_false, Bool.false_eq_true, Bool.true_eq_false, and_self, and_true, true_and, false_and, and_false, decide_true, decide_false, decide_eq_true, decide_eq_false, decide_eq_true_eq, decide_eq_false_iff_not, Bool.not_eq_true, Bool.not_eq_false, Bool.not_eq_eq_eq_not, Decidable.not_not, eA]
  refine doneH ?_ rfl rfl
  simp only [↓advStep, ↓execK, ↓opK, ↓binK, ↓intK, ↓strK, evs, ev, getT, setT, put, List.replicate, List.cons_append, List.nil_append, List.length_cons, List.length_nil, ↓mapK, ↓frzK_sl, ↓frzK_agg, ↓frzK_tup, ↓frzK_ifc, ↓frzK_func, ↓frzK_int, ↓frzK_bool, ↓frzK_str, ↓frzK_nilp, ↓frzK_nils, ↓frzK_nilm, ↓frzK_nilf, ↓frzK_nili, ↓frzK_fz, ↓frzK_any, ↓frzK_ptr, ↓frzK_ro, ↓getB, setB, kill, killM, dropK, keysOf, capOf_nn, zeroC, bump, frzT, thaw, gets, putAll, ↓getsK, ↓getR, ↓retK, retv, find, cells, ↓nilpK, ↓nilsK, ↓nilfK, ↓niliK, ↓bndK, ↓cutK, ↓fillK, ↓exitK, List.append_nil, List.drop, List.take, Nat.reduceAdd, Nat.reduceSub, Nat.reduceMul, Nat.reduceLT, Nat.reduceLeDiff, Nat.zero_add, Nat.add_zero, Nat.mul_one, Int.reduceToNat, Nat.reduceEqDiff, Nat.succ_ne_self, Nat.le_refl, Nat.one_ne_zero, Nat.reduceBEq, Nat.lt_irrefl, List.length_append, Int.toNat_zero, Int.toNat_one, List.take_zero, List.drop_zero, Nat.zero_mul, sel, rest, keyIn, ↓reduceIte, ↓if_pos, ↓if_neg, reduceCtorEq, Bool.not_true, Bool.not_false, Bool.false_eq_true, Bool.true_eq_false, and_self, and_true, true_and, false_and, and_false, decide_true, decide_false, decide_eq_true, decide_eq_false, decide_eq_true_eq, decide_eq_false_iff_not, Bool.not_eq_true, Bool.not_eq_false, Bool.not_eq_eq_eq_not, Decidable.not_not, Nat.mod_mod]
  rfl
end Go.Proofs.Ytmokhopjnjecbab
/- The mixing of two sums, the program's and the document's. -/
-- short
-- fuel 300
namespace Go.Proofs.Ytmokhopjnjecbab
open Go.Ev
set_option linter.unusedVariables false
set_option linter.unusedSimpArgs false
set_option maxRecDepth 100000
set_option maxHeartbeats 3200000
def mixOf (a b : Nat) : Nat := crcOf (be4 a ++ be4 b)
theorem crcOf_lt (bs : List Nat) (h : ∀ b ∈ bs, b < 256) : crcOf bs < 2 ^ 32 := Nat.xor_lt_two_pow (fold_lt _ (by decide) h) (by decide)
theorem refmix_calls (a b : Nat) (ha : a < 2 ^ 32) (hb : b < 2 ^ 32) : PCalls Try.prog F_ref01_Mix [.int .u32 (a : Nat), .int .u32 (b : Nat)] (.int .u32 (mixOf a b : Nat)) := by
  have e1 : IntKind.u64.wrap (a : Int) = ((a : Nat) : Int) := wrap_nat .u64 rfl a (by show a < 2 ^ 64; omega)
  have e2 : IntKind.u64.wrap (b : Int) = ((b : Nat) : Int) := wrap_nat .u64 rfl b (by show b < 2 ^ 64; omega)
  have l4 : ∀ v, (be4 v).length = 4 := fun _ => rfl
  have t4 : ∀ v, (avs (be4 v)).take 4 = avs (be4 v) := fun _ => rfl
  refine calls_ref01_Mix (walk0 300 trivial (fun A eA => ?_))
  simp (disch := first | omega | (simp only [avs_len, List.length_cons, List.length_append, List.length_nil, List.length_take, List.length_drop, List.length_map]; omega) | (simp only [cells, scal1, allSz, List.length_cons, List.length_nil, List.length_append, List.length_map, List.all_cons, List.all_nil, avs_len, beq_self_eq_true, Bool.and_self, and_self, or_true, true_or, reduceCtorEq, *]; done) | fail) only [c_ref01_Mix, go_sem, Nat.reduceAdd, Nat.reduceSub, Nat.reduceMul, Nat.reduceLT, Nat.reduceLeDiff, Int.reduceToNat, Nat.reduceEqDiff, Nat.reduceBEq, ↓reduceIte, reduceCtorEq, eA, scal1, e1]
  refine call2 300 trivial trivial [] rfl rfl (wide4_calls a (by omega) 1 zeroC) (.inl rfl) (fun A eA => ?_)
  simp (disch := first | omega | (simp only [avs_len, List.length_cons, List.length_append, List.length_nil, List.length_take, List.length_drop, List.length_map]; omega) | (simp only [cells, scal1, allSz, List.length_cons, List.length_nil, List.length_append, List.length_map, List.all_cons, List.all_nil, avs_len, beq_self_eq_true, Bool.and_self, and_self, or_true, true_or, reduceCtorEq, *]; done) | fail) only [c_ref01_Mix, go_sem, Nat.reduceAdd, Nat.reduceSub, Nat.reduceMul, Nat.reduceLT, Nat.reduceLeDiff, Int.reduceToNat, Nat.reduceEqDiff, Nat.reduceBEq, ↓reduceIte, reduceCtorEq, eA, scal1, e2]
  refine call2 300 trivial trivial [] rfl rfl (wide4_calls b (by omega) 2 _) (.inr ⟨rfl, rfl⟩) (fun A eA => ?_)
  simp (disch := first | omega | (simp only [avs_len, List.length_cons, List.length_append, List.length_nil, List.length_take, List.length_drop, List.length_map]; omega) | (simp only [cells, scal1, allSz, List.length_cons, List.length_nil, List.length_append, List.length_map, List.all_cons, List.all_nil, avs_len, beq_self_eq_true, Bool.and_self, and_self, or_true, true_or, reduceCtorEq, *]; done) | fail) only [c_ref01_Mix, go_sem, Nat.reduceAdd, Nat.reduceSub, Nat.reduceMul, Nat.reduceLT, Nat.reduceLeDiff, Int.reduceToNat, Nat.reduceEqDiff, Nat.reduceBEq, ↓reduceIte, reduceCtorEq, eA, scal1, ↓appK, allSz, avs_len, catCells, catCells_avs, l4, t4, avs_append, avs_take_all, ↓frz_ints, chunk]
  refine call0 300 trivial trivial (ref_calls (be4 a ++ be4 b) (fun x hx => (List.mem_append.1 hx).elim (be4_lt a x) (be4_lt b x)) (by simp [l4])) (.inr rfl) (fun A eA => ?_)
  simp (disch := first | omega | (simp only [avs_len, List.length_cons, List.length_append, List.length_nil, List.length_take, List.length_drop, List.length_map]; omega) | (simp only [cells, scal1, allSz, List.length_cons, List.length_nil, List.length_append, List.length_map, List.all_cons, List.all_nil, avs_len, beq_self_eq_true, Bool.and_self, and_self, or_true, true_or, reduceCtorEq, *]; done) | fail) only [c_ref01_Mix, go_sem, Nat.reduceAdd, Nat.reduceSub, Nat.reduceMul, Nat.reduceLT, Nat.reduceLeDiff, Int.reduceToNat, Nat.reduceEqDiff, Nat.reduceBEq, ↓reduceIte, reduceCtorEq, eA, scal1]
  exact doneG rfl
theorem mix_inner {k : List It} (hk : flat k) (t11 t12 : AV) (w r : Nat) (hw : w < 2 ^ 32) (hr : r < 2 ^ 32) (nx : Ctr) {R : List AV → Heap → Ctr → Prop}
    (h : ∀ nx, RunsX Try.prog 0 R k (e_sum_Mix_2 (.int .u32 ((be4 w).foldl add r : Nat)) t11 t12) [] nx) :
    RunsX Try.prog 0 R (i_sum_Mix_2 ++ k) (s_sum_Mix_2 (.int .u32 (r : Nat)) (.int .u32 (w : Nat)) (.int .i64 24) t11 t12) [] nx := by
  have s24 : ishr .u32 (w : Int) 24 = ((w / 256 / 256 / 256 : Nat) : Int) := by
    have := ishr_nat .u32 .i64 w 24 (by decide)
    rw [show w / 256 / 256 / 256 = w / 2 ^ 24 by omega]; exact this
  have s16 : ishr .u32 (w : Int) 16 = ((w / 256 / 256 : Nat) : Int) := by
    have := ishr_nat .u32 .i64 w 16 (by decide)
    rw [show w / 256 / 256 = w / 2 ^ 16 by omega]; exact this
  have s8 : ishr .u32 (w : Int) 8 = ((w / 256 : Nat) : Int) := by
    have := ishr_nat .u32 .i64 w 8 (by decide)
    rw [show w / 256 = w / 2 ^ 8 by omega]; exact this
  have s0 : ishr .u32 (w : Int) 0 = ((w : Nat) : Int) := by
    have := ishr_nat .u32 .i64 w 0 (by decide)
    simpa using this
  have w24 : IntKind.i64.wrap ((24 : Int) - 8) = 16 := by decide
  have w16 : IntKind.i64.wrap ((16 : Int) - 8) = 8 := by decide
  have w8 : IntKind.i64.wrap ((8 : Int) - 8) = 0 := by decide
  have w0 : IntKind.i64.wrap ((0 : Int) - 8) = -8 := by decide
  have l1 := add_lt (b := w / 256 / 256 / 256 % 256) hr (by omega)
  have l2 := add_lt (b := w / 256 / 256 % 256) l1 (by omega)
  have l3 := add_lt (b := w / 256 % 256) l2 (by omega)
  have c1 := add_calls r _ hr (show w / 256 / 256 / 256 % 256 < 256 by omega)
  have c2 := add_calls _ _ l1 (show w / 256 / 256 % 256 < 256 by omega)
  have c3 := add_calls _ _ l2 (show w / 256 % 256 < 256 by omega)
  have c4 := add_calls _ _ l3 (show w % 256 < 256 by omega)
  simp only [be4, List.foldl_cons, List.foldl_nil] at h
  refine round (its := [.blk 2 wb_sum_Mix_2]) 300 hk trivial (fun A eA => ?_)
  simp (disch := first | omega | (simp only [avs_len, List.length_cons, List.length_append, List.length_nil, List.length_take, List.length_drop, List.length_map]; omega) | (simp only [cells, scal1, allSz, List.length_cons, List.length_nil, List.length_append, List.length_map, List.all_cons, List.all_nil, avs_len, beq_self_eq_true, Bool.and_self, and_self, or_true, true_or, reduceCtorEq, *]; done) | fail) only [c_sum_Mix, wl_sum_Mix_2, s_sum_Mix_2, c_sum_Mix_l2, wb_sum_Mix_2, wb_sum_Mix_1, c_sum_Mix_k0, wl_sum_Mix_0, s_sum_Mix_0, c_sum_Mix_l0, wb_sum_Mix_0, c_sum_Mix_k1, go_sem, Nat.reduceAdd, Nat.reduceSub, Nat.reduceMul, Nat.reduceLT, Nat.reduceLeDiff, Int.reduceToNat, Nat.reduceEqDiff, Nat.reduceBEq, ↓reduceIte, reduceCtorEq, eA, scal1, s24, wrap_u8]
  refine call0 300 hk trivial c1 (.inl rfl) (fun A eA => ?_)
  simp (disch := first | omega | (simp only [avs_len, List.length_cons, List.length_append, List.length_nil, List.length_take, List.length_drop, List.length_map]; omega) | (simp only [cells, scal1, allSz, List.length_cons, List.length_nil, List.length_append, List.length_map, List.all_cons, List.all_nil, avs_len, beq_self_eq_true, Bool.and_self, and_self, or_true, true_or, reduceCtorEq, *]; done) | fail) only [c_sum_Mix, wl_sum_Mix_2, s_sum_Mix_2, c_sum_Mix_l2, wb_sum_Mix_2, wb_sum_Mix_1, c_sum_Mix_k0, wl_sum_Mix_0, s_sum_Mix_0, c_sum_Mix_l0, wb_sum_Mix_0, c_sum_Mix_k1, go_sem, Nat.reduceAdd, Nat.reduceSub, Nat.reduceMul, Nat.reduceLT, Nat.reduceLeDiff, Int.reduceToNat, Nat.reduceEqDiff, Nat.reduceBEq, ↓reduceIte, reduceCtorEq, eA, scal1, w24]
  refine round (its := [.blk 2 wb_sum_Mix_2]) 300 hk trivial (fun A eA => ?_)
  simp (disch := first | omega | (simp only [avs_len, List.length_cons, List.length_append, List.length_nil, List.length_take, List.length_drop, List.length_map]; omega) | (simp only [cells, scal1, allSz, List.length_cons, List.length_nil, List.length_append, List.length_map, List.all_cons, List.all_nil, avs_len, beq_self_eq_true, Bool.and_self, and_self, or_true, true_or, reduceCtorEq, *]; done) | fail) only [c_sum_Mix, wl_sum_Mix_2, s_sum_Mix_2, c_sum_Mix_l2, wb_sum_Mix_2, wb_sum_Mix_1, c_sum_Mix_k0, wl_sum_Mix_0, s_sum_Mix_0, c_sum_Mix_l0, wb_sum_Mix_0, c_sum_Mix_k1, go_sem, Nat.reduceAdd, Nat.reduceSub, Nat.reduceMul, Nat.reduceLT, Nat.reduceLeDiff, Int.reduceToNat, Nat.reduceEqDiff, Nat.reduceBEq, ↓reduceIte, reduceCtorEq, eA, scal1, s16, wrap_u8]
  refine call0 300 hk trivial c2 (.inl rfl) (fun A eA => ?_)
  simp (disch := first | omega | (simp only [avs_len, List.length_cons, List.length_append, List.length_nil, List.length_take, List.length_drop, List.length_map]; omega) | (simp only [cells, scal1, allSz, List.length_cons, List.length_nil, List.length_append, List.length_map, List.all_cons, List.all_nil, avs_len, beq_self_eq_true, Bool.and_self, and_self, or_true, true_or, reduceCtorEq, *]; done) | fail) only [c_sum_Mix, wl_sum_Mix_2, s_sum_Mix_2, c_sum_Mix_l2, wb_sum_Mix_2, wb_sum_Mix_1, c_sum_Mix_k0, wl_sum_Mix_0, s_sum_Mix_0, c_sum_Mix_l0, wb_sum_Mix_0, c_sum_Mix_k1, go_sem, Nat.reduceAdd, Nat.reduceSub, Nat.reduceMul, Nat.reduceLT, Nat.reduceLeDiff, Int.reduceToNat, Nat.reduceEqDiff, Nat.reduceBEq, ↓reduceIte, reduceCtorEq, eA, scal1, w16]
  refine round (its := [.blk 2 wb_sum_Mix_2]) 300 hk trivial (fun A eA => ?_)
  simp (disch := first | omega | (simp only [avs_len, List.length_cons, List.length_append, List.length_nil, List.length_take, List.length_drop, List.length_map]; omega) | (simp only [cells, scal1, allSz, List.length_cons, List.length_nil, List.length_append, List.length_map, List.all_cons, List.all_nil, avs_len, beq_self_eq_true, Bool.and_self, and_self, or_true, true_or, reduceCtorEq, *]; done) | fail) only [c_sum_Mix, wl_sum_Mix_2, s_sum_Mix_2, c_sum_Mix_l2, wb_sum_Mix_2, wb_sum_Mix_1, c_sum_Mix_k0, wl_sum_Mix_0, s_sum_Mix_0, c_sum_Mix_l0, wb_sum_Mix_0, c_sum_Mix_k1, go_sem, Nat.reduceAdd, Nat.reduceSub, Nat.reduceMul, Nat.reduceLT, Nat.reduceLeDiff, Int.reduceToNat, Nat.reduceEqDiff, Nat.reduceBEq, ↓reduceIte, reduceCtorEq, eA, scal1, s8, wrap_u8]
  refine call0 300 hk trivial c3 (.inl rfl) (fun A eA => ?_)
  simp (disch := first | omega | (simp only [avs_len, List.length_cons, List.length_append, List.length_nil, List.length_take, List.length_drop, List.length_map]; omega) | (simp only [cells, scal1, allSz, List.length_cons, List.length_nil, List.length_append, List.length_map, List.all_cons, List.all_nil, avs_len, beq_self_eq_true, Bool.and_self, and_self, or_true, true_or, reduceCtorEq, *]; done) | fail) only [c_sum_Mix, wl_sum_Mix_2, s_sum_Mix_2, c_sum_Mix_l2, wb_sum_Mix_2, wb_sum_Mix_1, c_sum_Mix_k0, wl_sum_Mix_0, s_sum_Mix_0, c_sum_Mix_l0, wb_sum_Mix_0, c_sum_Mix_k1, go_sem, Nat.reduceAdd, Nat.reduceSub, Nat.reduceMul, Nat.reduceLT, Nat.reduceLeDiff, Int.reduceToNat, Nat.reduceEqDiff, Nat.reduceBEq, ↓reduceIte, reduceCtorEq, eA, scal1, w8]
  refine round (its := [.blk 2 wb_sum_Mix_2]) 300 hk trivial (fun A eA => ?_)
  simp (disch := first | omega | (simp only [avs_len, List.length_cons, List.length_append, List.length_nil, List.length_take, List.length_drop, List.length_map]; omega) | (simp only [cells, scal1, allSz, List.length_cons, List.length_nil, List.length_append, List.length_map, List.all_cons, List.all_nil, avs_len, beq_self_eq_true, Bool.and_self, and_self, or_true, true_or, reduceCtorEq, *]; done) | fail) only [c_sum_Mix, wl_sum_Mix_2, s_sum_Mix_2, c_sum_Mix_l2, wb_sum_Mix_2, wb_sum_Mix_1, c_sum_Mix_k0, wl_sum_Mix_0, s_sum_Mix_0, c_sum_Mix_l0, wb_sum_Mix_0, c_sum_Mix_k1, go_sem, Nat.reduceAdd, Nat.reduceSub, Nat.reduceMul, Nat.reduceLT, Nat.reduceLeDiff, Int.reduceToNat, Nat.reduceEqDiff, Nat.reduceBEq, ↓reduceIte, reduceCtorEq, eA, scal1, s0, wrap_u8]
  refine call0 300 hk trivial c4 (.inl rfl) (fun A eA => ?_)
  simp (disch := first | omega | (simp only [avs_len, List.length_cons, List.length_append, List.length_nil, List.length_take, List.length_drop, List.length_map]; omega) | (simp only [cells, scal1, allSz, List.length_cons, List.length_nil, List.length_append, List.length_map, List.all_cons, List.all_nil, avs_len, beq_self_eq_true, Bool.and_self, and_self, or_true, true_or, reduceCtorEq, *]; done) | fail) only [c_sum_Mix, wl_sum_Mix_2, s_sum_Mix_2, c_sum_Mix_l2, wb_sum_Mix_2, wb_sum_Mix_1, c_sum_Mix_k0, wl_sum_Mix_0, s_sum_Mix_0, c_sum_Mix_l0, wb_sum_Mix_0, c_sum_Mix_k1, go_sem, Nat.reduceAdd, Nat.reduceSub, Nat.reduceMul, Nat.reduceLT, Nat.reduceLeDiff, Int.reduceToNat, Nat.reduceEqDiff, Nat.reduceBEq, ↓reduceIte, reduceCtorEq, eA, scal1, w0]
  refine round (its := [.blk 2 wb_sum_Mix_2]) 300 hk trivial (fun A eA => ?_)
  simp (disch := first | omega | (simp only [avs_len, List.length_cons, List.length_append, List.length_nil, List.length_take, List.length_drop, List.length_map]; omega) | (simp only [cells, scal1, allSz, List.length_cons, List.length_nil, List.length_append, List.length_map, List.all_cons, List.all_nil, avs_len, beq_self_eq_true, Bool.and_self, and_self, or_true, true_or, reduceCtorEq, *]; done) | fail) only [c_sum_Mix, wl_sum_Mix_2, s_sum_Mix_2, c_sum_Mix_l2, wb_sum_Mix_2, wb_sum_Mix_1, c_sum_Mix_k0, wl_sum_Mix_0, s_sum_Mix_0, c_sum_Mix_l0, wb_sum_Mix_0, c_sum_Mix_k1, go_sem, Nat.reduceAdd, Nat.reduceSub, Nat.reduceMul, Nat.reduceLT, Nat.reduceLeDiff, Int.reduceToNat, Nat.reduceEqDiff, Nat.reduceBEq, ↓reduceIte, reduceCtorEq, eA, scal1]
  exact h _
theorem mix_calls (a b : Nat) (ha : a < 2 ^ 32) (hb : b < 2 ^ 32) : PCalls Try.prog F_sum_Mix [.int .u32 (a : Nat), .int .u32 (b : Nat)] (.int .u32 (mixOf a b : Nat)) := by
  have i0 : IntKind.i64.wrap ((0 : Int) + 1) = 1 := by decide
  have i1 : IntKind.i64.wrap ((1 : Int) + 1) = 2 := by decide
  have f1 := fold_lt (be4 a) (s := 4294967295) (by decide) (be4_lt a)
  have f2 := fold_lt (be4 b) f1 (be4_lt b)
  have e2 : ibits .xor .u32 (((be4 b).foldl add ((be4 a).foldl add 4294967295) : Nat) : Int) 4294967295 = ((mixOf a b : Nat) : Int) := by
    simp only [mixOf, crcOf, List.foldl_append]
    exact ibits_xor .u32 rfl _ 4294967295 f2 (by decide)
  refine calls_sum_Mix (walk0 300 trivial (fun A eA => ?_))
  simp (disch := first | omega | (simp only [avs_len, List.length_cons, List.length_append, List.length_nil, List.length_take, List.length_drop, List.length_map]; omega) | (simp only [cells, scal1, allSz, List.length_cons, List.length_nil, List.length_append, List.length_map, List.all_cons, List.all_nil, avs_len, beq_self_eq_true, Bool.and_self, and_self, or_true, true_or, reduceCtorEq, *]; done) | fail) only [c_sum_Mix, wl_sum_Mix_2, s_sum_Mix_2, c_sum_Mix_l2, wb_sum_Mix_2, wb_sum_Mix_1, c_sum_Mix_k0, wl_sum_Mix_0, s_sum_Mix_0, c_sum_Mix_l0, wb_sum_Mix_0, c_sum_Mix_k1, go_sem, Nat.reduceAdd, Nat.reduceSub, Nat.reduceMul, Nat.reduceLT, Nat.reduceLeDiff, Int.reduceToNat, Nat.reduceEqDiff, Nat.reduceBEq, ↓reduceIte, reduceCtorEq, eA, scal1]
  refine round (its := [.blk 0 wb_sum_Mix_0]) (k0 := [.c c_sum_Mix_k1]) 300 trivial trivial (fun A eA => ?_)
  simp (disch := first | omega | (simp only [avs_len, List.length_cons, List.length_append, List.length_nil, List.length_take, List.length_drop, List.length_map]; omega) | (simp only [cells, scal1, allSz, List.length_cons, List.length_nil, List.length_append, List.length_map, List.all_cons, List.all_nil, avs_len, beq_self_eq_true, Bool.and_self, and_self, or_true, true_or, reduceCtorEq, *]; done) | fail) only [c_sum_Mix, wl_sum_Mix_2, s_sum_Mix_2, c_sum_Mix_l2, wb_sum_Mix_2, wb_sum_Mix_1, c_sum_Mix_k0, wl_sum_Mix_0, s_sum_Mix_0, c_sum_Mix_l0, wb_sum_Mix_0, c_sum_Mix_k1, go_sem, Nat.reduceAdd, Nat.reduceSub, Nat.reduceMul, Nat.reduceLT, Nat.reduceLeDiff, Int.reduceToNat, Nat.reduceEqDiff, Nat.reduceBEq, ↓reduceIte, reduceCtorEq, eA, scal1, List.getElem?_cons_zero, List.getElem?_cons_succ]
  refine mix_inner (k := .blk 1 wb_sum_Mix_1 :: .c c_sum_Mix_k0 :: .lp wl_sum_Mix_0 c_sum_Mix_l0 :: .blk 0 wb_sum_Mix_0 :: [.c c_sum_Mix_k1]) trivial _ _ a 4294967295 ha (by decide) _ (fun nx => ?_)
  refine walk (its := [.blk 1 wb_sum_Mix_1, .c c_sum_Mix_k0, .lp wl_sum_Mix_0 c_sum_Mix_l0, .blk 0 wb_sum_Mix_0]) (k0 := [.c c_sum_Mix_k1]) 300 trivial trivial (fun A eA => ?_)
  simp (disch := first | omega | (simp only [avs_len, List.length_cons, List.length_append, List.length_nil, List.length_take, List.length_drop, List.length_map]; omega) | (simp only [cells, scal1, allSz, List.length_cons, List.length_nil, List.length_append, List.length_map, List.all_cons, List.all_nil, avs_len, beq_self_eq_true, Bool.and_self, and_self, or_true, true_or, reduceCtorEq, *]; done) | fail) only [c_sum_Mix, wl_sum_Mix_2, s_sum_Mix_2, c_sum_Mix_l2, wb_sum_Mix_2, wb_sum_Mix_1, c_sum_Mix_k0, wl_sum_Mix_0, s_sum_Mix_0, c_sum_Mix_l0, wb_sum_Mix_0, c_sum_Mix_k1, go_sem, Nat.reduceAdd, Nat.reduceSub, Nat.reduceMul, Nat.reduceLT, Nat.reduceLeDiff, Int.reduceToNat, Nat.reduceEqDiff, Nat.reduceBEq, ↓reduceIte, reduceCtorEq, eA, scal1, i0]
  refine round (its := [.blk 0 wb_sum_Mix_0]) (k0 := [.c c_sum_Mix_k1]) 300 trivial trivial (fun A eA => ?_)
  simp (disch := first | omega | (simp only [avs_len, List.length_cons, List.length_append, List.length_nil, List.length_take, List.length_drop, List.length_map]; omega) | (simp only [cells, scal1, allSz, List.length_cons, List.length_nil, List.length_append, List.length_map, List.all_cons, List.all_nil, avs_len, beq_self_eq_true, Bool.and_self, and_self, or_true, true_or, reduceCtorEq, *]; done) | fail) only [c_sum_Mix, wl_sum_Mix_2, s_sum_Mix_2, c_sum_Mix_l2, wb_sum_Mix_2, wb_sum_Mix_1, c_sum_Mix_k0, wl_sum_Mix_0, s_sum_Mix_0, c_sum_Mix_l0, wb_sum_Mix_0, c_sum_Mix_k1, go_sem, Nat.reduceAdd, Nat.reduceSub, Nat.reduceMul, Nat.reduceLT, Nat.reduceLeDiff, Int.reduceToNat, Nat.reduceEqDiff, Nat.reduceBEq, ↓reduceIte, reduceCtorEq, eA, scal1, List.getElem?_cons_zero, List.getElem?_cons_succ]
  refine mix_inner (k := .blk 1 wb_sum_Mix_1 :: .c c_sum_Mix_k0 :: .lp wl_sum_Mix_0 c_sum_Mix_l0 :: .blk 0 wb_sum_Mix_0 :: [.c c_sum_Mix_k1]) trivial _ _ b _ hb f1 _ (fun nx => ?_)
  refine walk (its := [.blk 1 wb_sum_Mix_1, .c c_sum_Mix_k0, .lp wl_sum_Mix_0 c_sum_Mix_l0, .blk 0 wb_sum_Mix_0]) (k0 := [.c c_sum_Mix_k1]) 300 trivial trivial (fun A eA => ?_)
  simp (disch := first | omega | (simp only [avs_len, List.length_cons, List.length_append, List.length_nil, List.length_take, List.length_drop, List.length_map]; omega) | (simp only [cells, scal1, allSz, List.length_cons, List.length_nil, List.length_append, List.length_map, List.all_cons, List.all_nil, avs_len, beq_self_eq_true, Bool.and_self, and_self, or_true, true_or, reduceCtorEq, *]; done) | fail) only [c_sum_Mix, wl_sum_Mix_2, s_sum_Mix_2, c_sum_Mix_l2, wb_sum_Mix_2, wb_sum_Mix_1, c_sum_Mix_k0, wl_sum_Mix_0, s_sum_Mix_0, c_sum_Mix_l0, wb_sum_Mix_0, c_sum_Mix_k1, go_sem, Nat.reduceAdd, Nat.reduceSub, Nat.reduceMul, Nat.reduceLT, Nat.reduceLeDiff, Int.reduceToNat, Nat.reduceEqDiff, Nat.reduceBEq, ↓reduceIte, reduceCtorEq, eA, scal1, i1]
  refine round (its := [.blk 0 wb_sum_Mix_0]) (k0 := [.c c_sum_Mix_k1]) 300 trivial trivial (fun A eA => ?_)
  simp (disch := first | omega | (simp only [avs_len, List.length_cons, List.length_append, List.length_nil, List.length_take, List.length_drop, List.length_map]; omega) | (simp only [cells, scal1, allSz, List.length_cons, List.length_nil, List.length_append, List.length_map, List.all_cons, List.all_nil, avs_len, beq_self_eq_true, Bool.and_self, and_self, or_true, true_or, reduceCtorEq, *]; done) | fail) only [c_sum_Mix, wl_sum_Mix_2, s_sum_Mix_2, c_sum_Mix_l2, wb_sum_Mix_2, wb_sum_Mix_1, c_sum_Mix_k0, wl_sum_Mix_0, s_sum_Mix_0, c_sum_Mix_l0, wb_sum_Mix_0, c_sum_Mix_k1, go_sem, Nat.reduceAdd, Nat.reduceSub, Nat.reduceMul, Nat.reduceLT, Nat.reduceLeDiff, Int.reduceToNat, Nat.reduceEqDiff, Nat.reduceBEq, ↓reduceIte, reduceCtorEq, eA, scal1]
  refine walk0 (its := [.c c_sum_Mix_k1]) 300 trivial (fun A eA => ?_)
  simp (disch := first | omega | (simp only [avs_len, List.length_cons, List.length_append, List.length_nil, List.length_take, List.length_drop, List.length_map]; omega) | (simp only [cells, scal1, allSz, List.length_cons, List.length_nil, List.length_append, List.length_map, List.all_cons, List.all_nil, avs_len, beq_self_eq_true, Bool.and_self, and_self, or_true, true_or, reduceCtorEq, *]; done) | fail) only [c_sum_Mix, wl_sum_Mix_2, s_sum_Mix_2, c_sum_Mix_l2, wb_sum_Mix_2, wb_sum_Mix_1, c_sum_Mix_k0, wl_sum_Mix_0, s_sum_Mix_0, c_sum_Mix_l0, wb_sum_Mix_0, c_sum_Mix_k1, go_sem, Nat.reduceAdd, Nat.reduceSub, Nat.reduceMul, Nat.reduceLT, Nat.reduceLeDiff, Int.reduceToNat, Nat.reduceEqDiff, Nat.reduceBEq, ↓reduceIte, reduceCtorEq, eA, scal1, e2]
  exact doneG rfl
end Go.Proofs.Ytmokhopjnjecbab
/- The order of servers: how two are compared. -/
-- short
-- fuel 300
namespace Go.Proofs.Ytmokhopjnjecbab
open Go.Ev
set_option linter.unusedVariables false
set_option linter.unusedSimpArgs false
set_option maxRecDepth 100000
set_option maxHeartbeats 3200000
theorem isNaN_calls (a : Int) : PCalls Try.prog F_cmp_isNaN_uint32 [.int .u32 a] (.bool false) := by
  refine calls_cmp_isNaN_uint32 (walk0 300 trivial (fun A eA => ?_))
  simp (disch := first | omega | (simp only [avs_len, List.length_cons, List.length_append, List.length_nil, List.length_take, List.length_drop, List.length_map]; omega) | (simp only [cells, scal1, allSz, List.length_cons, List.length_nil, List.length_append, List.length_map, List.all_cons, List.all_nil, avs_len, beq_self_eq_true, Bool.and_self, and_self, or_true, true_or, reduceCtorEq, *]; done) | fail) only [c_cmp_isNaN_uint32, go_sem, Nat.reduceAdd, Nat.reduceSub, Nat.reduceMul, Nat.reduceLT, Nat.reduceLeDiff, Int.reduceToNat, Nat.reduceEqDiff, Nat.reduceBEq, ↓reduceIte, reduceCtorEq, eA, scal1]
  exact doneG rfl
def cmpN (x y : Nat) : Int := if x < y then -1 else if y < x then 1 else 0
theorem compare_calls (x y : Nat) : PCalls Try.prog F_cmp_Compare_uint32 [.int .u32 (x : Nat), .int .u32 (y : Nat)] (.int .i64 (cmpN x y)) := by
  have c1 := isNaN_calls (x : Int)
  have c2 := isNaN_calls (y : Int)
  unfold cmpN
  by_cases h1 : x < y
  · rw [if_pos h1]
    refine calls_cmp_Compare_uint32 (walk0 300 trivial (fun A eA => ?_))
    simp (disch := first | omega | (simp only [avs_len, List.length_cons, List.length_append, List.length_nil, List.length_take, List.length_drop, List.length_map]; omega) | (simp only [cells, scal1, allSz, List.length_cons, List.length_nil, List.length_append, List.length_map, List.all_cons, List.all_nil, avs_len, beq_self_eq_true, Bool.and_self, and_self, or_true, true_or, reduceCtorEq, *]; done) | fail) only [c_cmp_Compare_uint32, go_sem, Nat.reduceAdd, Nat.reduceSub, Nat.reduceMul, Nat.reduceLT, Nat.reduceLeDiff, Int.reduceToNat, Nat.reduceEqDiff, Nat.reduceBEq, ↓reduceIte, reduceCtorEq, eA, scal1]
    refine call0 300 trivial trivial c1 (.inl rfl) (fun A eA => ?_)
    simp (disch := first | omega | (simp only [avs_len, List.length_cons, List.length_append, List.length_nil, List.length_take, List.length_drop, List.length_map]; omega) | (simp only [cells, scal1, allSz, List.length_cons, List.length_nil, List.length_append, List.length_map, List.all_cons, List.all_nil, avs_len, beq_self_eq_true, Bool.and_self, and_self, or_true, true_or, reduceCtorEq, *]; done) | fail) only [c_cmp_Compare_uint32, go_sem, Nat.reduceAdd, Nat.reduceSub, Nat.reduceMul, Nat.reduceLT, Nat.reduceLeDiff, Int.reduceToNat, Nat.reduceEqDiff, Nat.reduceBEq, ↓reduceIte, reduceCtorEq, eA, scal1]
    refine call0 300 trivial trivial c2 (.inl rfl) (fun A eA => ?_)
    simp (disch := first | omega | (simp only [avs_len, List.length_cons, List.length_append, List.length_nil, List.length_take, List.length_drop, List.length_map]; omega) | (simp only [cells, scal1, allSz, List.length_cons, List.length_nil, List.length_append, List.length_map, List.all_cons, List.all_nil, avs_len, beq_self_eq_true, Bool.and_self, and_self, or_true, true_or, reduceCtorEq, *]; done) | fail) only [c_cmp_Compare_uint32, go_sem, Nat.reduceAdd, Nat.reduceSub, Nat.reduceMul, Nat.reduceLT, Nat.reduceLeDiff, Int.reduceToNat, Nat.reduceEqDiff, Nat.reduceBEq, ↓reduceIte, reduceCtorEq, eA, scal1]
    exact doneG rfl
  · rw [if_neg h1]
    by_cases h2 : y < x
    · rw [if_pos h2]
      refine calls_cmp_Compare_uint32 (walk0 300 trivial (fun A eA => ?_))
      simp (disch := first | omega | (simp only [avs_len, List.length_cons, List.length_append, List.length_nil, List.length_take, List.length_drop, List.length_map]; omega) | (simp only [cells, scal1, allSz, List.length_cons, List.length_nil, List.length_append, List.length_map, List.all_cons, List.all_nil, avs_len, beq_self_eq_true, Bool.and_self, and_self, or_true, true_or, reduceCtorEq, *]; done) | fail) only [c_cmp_Compare_uint32, go_sem, Nat.reduceAdd, Nat.reduceSub, Nat.reduceMul, Nat.reduceLT, Nat.reduceLeDiff, Int.reduceToNat, Nat.reduceEqDiff, Nat.reduceBEq, ↓reduceIte, reduceCtorEq, eA, scal1]
      refine call0 300 trivial trivial c1 (.inl rfl) (fun A eA => ?_)
      simp (disch := first | omega | (simp only [avs_len, List.length_cons, List.length_append, List.length_nil, List.length_take, List.length_drop, List.length_map]; omega) | (simp only [cells, scal1, allSz, List.length_cons, List.length_nil, List.length_append, List.length_map, List.all_cons, List.all_nil, avs_len, beq_self_eq_true, Bool.and_self, and_self, or_true, true_or, reduceCtorEq, *]; done) | fail) only [c_cmp_Compare_uint32, go_sem, Nat.reduceAdd, Nat.reduceSub, Nat.reduceMul, Nat.reduceLT, Nat.reduceLeDiff, Int.reduceToNat, Nat.reduceEqDiff, Nat.reduceBEq, ↓reduceIte, reduceCtorEq, eA, scal1]
      refine call0 300 trivial trivial c2 (.inl rfl) (fun A eA => ?_)
      simp (disch := first | omega | (simp only [avs_len, List.length_cons, List.length_append, List.length_nil, List.length_take, List.length_drop, List.length_map]; omega) | (simp only [cells, scal1, allSz, List.length_cons, List.length_nil, List.length_append, List.length_map, List.all_cons, List.all_nil, avs_len, beq_self_eq_true, Bool.and_self, and_self, or_true, true_or, reduceCtorEq, *]; done) | fail) only [c_cmp_Compare_uint32, go_sem, Nat.reduceAdd, Nat.reduceSub, Nat.reduceMul, Nat.reduceLT, Nat.reduceLeDiff, Int.reduceToNat, Nat.reduceEqDiff, Nat.reduceBEq, ↓reduceIte, reduceCtorEq, eA, scal1]
      exact doneG rfl
    · rw [if_neg h2]
      refine calls_cmp_Compare_uint32 (walk0 300 trivial (fun A eA => ?_))
      simp (disch := first | omega | (simp only [avs_len, List.length_cons, List.length_append, List.length_nil, List.length_take, List.length_drop, List.length_map]; omega) | (simp only [cells, scal1, allSz, List.length_cons, List.length_nil, List.length_append, List.length_map, List.all_cons, List.all_nil, avs_len, beq_self_eq_true, Bool.and_self, and_self, or_true, true_or, reduceCtorEq, *]; done) | fail) only [c_cmp_Compare_uint32, go_sem, Nat.reduceAdd, Nat.reduceSub, Nat.reduceMul, Nat.reduceLT, Nat.reduceLeDiff, Int.reduceToNat, Nat.reduceEqDiff, Nat.reduceBEq, ↓reduceIte, reduceCtorEq, eA, scal1]
      refine call0 300 trivial trivial c1 (.inl rfl) (fun A eA => ?_)
      simp (disch := first | omega | (simp only [avs_len, List.length_cons, List.length_append, List.length_nil, List.length_take, List.length_drop, List.length_map]; omega) | (simp only [cells, scal1, allSz, List.length_cons, List.length_nil, List.length_append, List.length_map, List.all_cons, List.all_nil, avs_len, beq_self_eq_true, Bool.and_self, and_self, or_true, true_or, reduceCtorEq, *]; done) | fail) only [c_cmp_Compare_uint32, go_sem, Nat.reduceAdd, Nat.reduceSub, Nat.reduceMul, Nat.reduceLT, Nat.reduceLeDiff, Int.reduceToNat, Nat.reduceEqDiff, Nat.reduceBEq, ↓reduceIte, reduceCtorEq, eA, scal1]
      refine call0 300 trivial trivial c2 (.inl rfl) (fun A eA => ?_)
      simp (disch := first | omega | (simp only [avs_len, List.length_cons, List.length_append, List.length_nil, List.length_take, List.length_drop, List.length_map]; omega) | (simp only [cells, scal1, allSz, List.length_cons, List.length_nil, List.length_append, List.length_map, List.all_cons, List.all_nil, avs_len, beq_self_eq_true, Bool.and_self, and_self, or_true, true_or, reduceCtorEq, *]; done) | fail) only [c_cmp_Compare_uint32, go_sem, Nat.reduceAdd, Nat.reduceSub, Nat.reduceMul, Nat.reduceLT, Nat.reduceLeDiff, Int.reduceToNat, Nat.reduceEqDiff, Nat.reduceBEq, ↓reduceIte, reduceCtorEq, eA, scal1]
      exact doneG rfl
theorem order_calls (c a b : Nat) (hc : c < 2 ^ 32) (ha : a < 3) (hb : b < 3) : PCalls Try.prog F_ring_List_1 [.int .i64 (a : Nat), .int .i64 (b : Nat), .ro [.int .u32 (c : Nat)]] (.int .i64 (cmpN (mixOf c a) (mixOf c b))) := by
  have wa : IntKind.u32.wrap (a : Int) = ((a : Nat) : Int) := wrap_nat .u32 rfl a (by show a < 2 ^ 32; omega)
  have wb : IntKind.u32.wrap (b : Int) = ((b : Nat) : Int) := wrap_nat .u32 rfl b (by show b < 2 ^ 32; omega)
  have c1 := mix_calls c a hc (by omega)
  have c2 := mix_calls c b hc (by omega)
  have c3 := compare_calls (mixOf c a) (mixOf c b)
  refine calls_ring_List_1 (walk0 300 trivial (fun A eA => ?_))
  simp (disch := first | omega | (simp only [avs_len, List.length_cons, List.length_append, List.length_nil, List.length_take, List.length_drop, List.length_map]; omega) | (simp only [cells, scal1, allSz, List.length_cons, List.length_nil, List.length_append, List.length_map, List.all_cons, List.all_nil, avs_len, beq_self_eq_true, Bool.and_self, and_self, or_true, true_or, reduceCtorEq, *]; done) | fail) only [c_ring_List_1, go_sem, Nat.reduceAdd, Nat.reduceSub, Nat.reduceMul, Nat.reduceLT, Nat.reduceLeDiff, Int.reduceToNat, Nat.reduceEqDiff, Nat.reduceBEq, ↓reduceIte, reduceCtorEq, eA, scal1, wa, wb]
  refine call0 300 trivial trivial c1 (.inl rfl) (fun A eA => ?_)
  simp (disch := first | omega | (simp only [avs_len, List.length_cons, List.length_append, List.length_nil, List.length_take, List.length_drop, List.length_map]; omega) | (simp only [cells, scal1, allSz, List.length_cons, List.length_nil, List.length_append, List.length_map, List.all_cons, List.all_nil, avs_len, beq_self_eq_true, Bool.and_self, and_self, or_true, true_or, reduceCtorEq, *]; done) | fail) only [c_ring_List_1, go_sem, Nat.reduceAdd, Nat.reduceSub, Nat.reduceMul, Nat.reduceLT, Nat.reduceLeDiff, Int.reduceToNat, Nat.reduceEqDiff, Nat.reduceBEq, ↓reduceIte, reduceCtorEq, eA, scal1, wa, wb]
  refine call0 300 trivial trivial c2 (.inl rfl) (fun A eA => ?_)
  simp (disch := first | omega | (simp only [avs_len, List.length_cons, List.length_append, List.length_nil, List.length_take, List.length_drop, List.length_map]; omega) | (simp only [cells, scal1, allSz, List.length_cons, List.length_nil, List.length_append, List.length_map, List.all_cons, List.all_nil, avs_len, beq_self_eq_true, Bool.and_self, and_self, or_true, true_or, reduceCtorEq, *]; done) | fail) only [c_ring_List_1, go_sem, Nat.reduceAdd, Nat.reduceSub, Nat.reduceMul, Nat.reduceLT, Nat.reduceLeDiff, Int.reduceToNat, Nat.reduceEqDiff, Nat.reduceBEq, ↓reduceIte, reduceCtorEq, eA, scal1, wa, wb]
  refine call0 300 trivial trivial c3 (.inl rfl) (fun A eA => ?_)
  simp (disch := first | omega | (simp only [avs_len, List.length_cons, List.length_append, List.length_nil, List.length_take, List.length_drop, List.length_map]; omega) | (simp only [cells, scal1, allSz, List.length_cons, List.length_nil, List.length_append, List.length_map, List.all_cons, List.all_nil, avs_len, beq_self_eq_true, Bool.and_self, and_self, or_true, true_or, reduceCtorEq, *]; done) | fail) only [c_ring_List_1, go_sem, Nat.reduceAdd, Nat.reduceSub, Nat.reduceMul, Nat.reduceLT, Nat.reduceLeDiff, Int.reduceToNat, Nat.reduceEqDiff, Nat.reduceBEq, ↓reduceIte, reduceCtorEq, eA, scal1, wa, wb]
  exact doneG rfl
end Go.Proofs.Ytmokhopjnjecbab
/- The order of servers: one is put in its place. -/
-- short
-- fuel 300
namespace Go.Proofs.Ytmokhopjnjecbab
open Go.Ev
set_option linter.unusedVariables false
set_option linter.unusedSimpArgs false
set_option maxRecDepth 100000
set_option maxHeartbeats 3200000
theorem cmpN_neg (x y : Nat) : cmpN x y < 0 ↔ x < y := by
  unfold cmpN
  split
  · exact ⟨fun _ => by assumption, fun _ => by decide⟩
  · split
    · exact ⟨fun h => absurd h (by decide), fun h => absurd h (by assumption)⟩
    · exact ⟨fun h => absurd h (by decide), fun h => absurd h (by assumption)⟩
abbrev ri (n : Nat) : AV := .int .i64 (n : Nat)
abbrev rcl (c : Nat) : AV := .func F_ring_List_1 [.ro [.int .u32 (c : Nat)]]
/-- The one at place 1 among two, others behind them. -/
theorem ins1 (c x y n : Nat) (hc : c < 2 ^ 32) (hx : x < 3) (hy : y < 3) (hn : 2 ≤ n) (rs : List AV) (f d g : Nat) (t8 : AV) {k : List It} (hk : flat k) {R : List AV → Heap → Ctr → Prop} (nx : Ctr)
    (h : RunsX Try.prog 9 R k (e_slices_insertionSortCmpFunc_int_2 (.sl f d g 1 0 n) (.int .i64 0) (ri n) (rcl c) t8) [(f, d, g, some (if mixOf c y < mixOf c x then ri y :: ri x :: rs else ri x :: ri y :: rs))] nx) :
    RunsX Try.prog 9 R (i_slices_insertionSortCmpFunc_int_2 ++ k) (s_slices_insertionSortCmpFunc_int_2 (.sl f d g 1 0 n) (.int .i64 0) (ri n) (rcl c) t8 (.int .i64 1)) [(f, d, g, some (ri x :: ri y :: rs))] nx := by
  have c1 := order_calls c y x hc hy hx
  have w0 : IntKind.i64.wrap ((1 : Int) - 1) = 0 := by decide
  by_cases hm : mixOf c y < mixOf c x
  · rw [if_pos hm] at h
    have hlt : cmpN (mixOf c y) (mixOf c x) < 0 := (cmpN_neg _ _).2 hm
    refine round (its := [.blk 2 wb_slices_insertionSortCmpFunc_int_2]) 300 hk trivial (fun A eA => ?_)
    simp (disch := first | omega | (simp only [avs_len, List.length_cons, List.length_append, List.length_nil, List.length_take, List.length_drop, List.length_map]; omega) | (simp only [cells, scal1, allSz, List.length_cons, List.length_nil, List.length_append, List.length_map, List.all_cons, List.all_nil, avs_len, beq_self_eq_true, Bool.and_self, and_self, or_true, true_or, reduceCtorEq, *]; done) | fail) only [c_slices_insertionSortCmpFunc_int, wl_slices_insertionSortCmpFunc_int_2, s_slices_insertionSortCmpFunc_int_2, c_slices_insertionSortCmpFunc_int_l2, wb_slices_insertionSortCmpFunc_int_2, wb_slices_insertionSortCmpFunc_int_1, c_slices_insertionSortCmpFunc_int_k0, wl_slices_insertionSortCmpFunc_int_0, s_slices_insertionSortCmpFunc_int_0, c_slices_insertionSortCmpFunc_int_l0, wb_slices_insertionSortCmpFunc_int_0, go_sem, Nat.reduceAdd, Nat.reduceSub, Nat.reduceMul, Nat.reduceLT, Nat.reduceLeDiff, Int.reduceToNat, Nat.reduceEqDiff, Nat.reduceBEq, ↓reduceIte, reduceCtorEq, eA, scal1, w0, hlt]
    refine call0 300 hk trivial c1 (.inl rfl) (fun A eA => ?_)
    simp (disch := first | omega | (simp only [avs_len, List.length_cons, List.length_append, List.length_nil, List.length_take, List.length_drop, List.length_map]; omega) | (simp only [cells, scal1, allSz, List.length_cons, List.length_nil, List.length_append, List.length_map, List.all_cons, List.all_nil, avs_len, beq_self_eq_true, Bool.and_self, and_self, or_true, true_or, reduceCtorEq, *]; done) | fail) only [c_slices_insertionSortCmpFunc_int, wl_slices_insertionSortCmpFunc_int_2, s_slices_insertionSortCmpFunc_int_2, c_slices_insertionSortCmpFunc_int_l2, wb_slices_insertionSortCmpFunc_int_2, wb_slices_insertionSortCmpFunc_int_1, c_slices_insertionSortCmpFunc_int_k0, wl_slices_insertionSortCmpFunc_int_0, s_slices_insertionSortCmpFunc_int_0, c_slices_insertionSortCmpFunc_int_l0, wb_slices_insertionSortCmpFunc_int_0, go_sem, Nat.reduceAdd, Nat.reduceSub, Nat.reduceMul, Nat.reduceLT, Nat.reduceLeDiff, Int.reduceToNat, Nat.reduceEqDiff, Nat.reduceBEq, ↓reduceIte, reduceCtorEq, eA, scal1, w0, hlt]
    refine round (its := [.blk 2 wb_slices_insertionSortCmpFunc_int_2]) 300 hk trivial (fun A eA => ?_)
    simp (disch := first | omega | (simp only [avs_len, List.length_cons, List.length_append, List.length_nil, List.length_take, List.length_drop, List.length_map]; omega) | (simp only [cells, scal1, allSz, List.length_cons, List.length_nil, List.length_append, List.length_map, List.all_cons, List.all_nil, avs_len, beq_self_eq_true, Bool.and_self, and_self, or_true, true_or, reduceCtorEq, *]; done) | fail) only [c_slices_insertionSortCmpFunc_int, wl_slices_insertionSortCmpFunc_int_2, s_slices_insertionSortCmpFunc_int_2, c_slices_insertionSortCmpFunc_int_l2, wb_slices_insertionSortCmpFunc_int_2, wb_slices_insertionSortCmpFunc_int_1, c_slices_insertionSortCmpFunc_int_k0, wl_slices_insertionSortCmpFunc_int_0, s_slices_insertionSortCmpFunc_int_0, c_slices_insertionSortCmpFunc_int_l0, wb_slices_insertionSortCmpFunc_int_0, go_sem, Nat.reduceAdd, Nat.reduceSub, Nat.reduceMul, Nat.reduceLT, Nat.reduceLeDiff, Int.reduceToNat, Nat.reduceEqDiff, Nat.reduceBEq, ↓reduceIte, reduceCtorEq, eA, scal1, w0, hlt]
    exact h
  · rw [if_neg hm] at h
    have hlt : ¬ cmpN (mixOf c y) (mixOf c x) < 0 := fun e => hm ((cmpN_neg _ _).1 e)
    refine round (its := [.blk 2 wb_slices_insertionSortCmpFunc_int_2]) 300 hk trivial (fun A eA => ?_)
    simp (disch := first | omega | (simp only [avs_len, List.length_cons, List.length_append, List.length_nil, List.length_take, List.length_drop, List.length_map]; omega) | (simp only [cells, scal1, allSz, List.length_cons, List.length_nil, List.length_append, List.length_map, List.all_cons, List.all_nil, avs_len, beq_self_eq_true, Bool.and_self, and_self, or_true, true_or, reduceCtorEq, *]; done) | fail) only [c_slices_insertionSortCmpFunc_int, wl_slices_insertionSortCmpFunc_int_2, s_slices_insertionSortCmpFunc_int_2, c_slices_insertionSortCmpFunc_int_l2, wb_slices_insertionSortCmpFunc_int_2, wb_slices_insertionSortCmpFunc_int_1, c_slices_insertionSortCmpFunc_int_k0, wl_slices_insertionSortCmpFunc_int_0, s_slices_insertionSortCmpFunc_int_0, c_slices_insertionSortCmpFunc_int_l0, wb_slices_insertionSortCmpFunc_int_0, go_sem, Nat.reduceAdd, Nat.reduceSub, Nat.reduceMul, Nat.reduceLT, Nat.reduceLeDiff, Int.reduceToNat, Nat.reduceEqDiff, Nat.reduceBEq, ↓reduceIte, reduceCtorEq, eA, scal1, w0, hlt]
    refine call0 300 hk trivial c1 (.inl rfl) (fun A eA => ?_)
    simp (disch := first | omega | (simp only [avs_len, List.length_cons, List.length_append, List.length_nil, List.length_take, List.length_drop, List.length_map]; omega) | (simp only [cells, scal1, allSz, List.length_cons, List.length_nil, List.length_append, List.length_map, List.all_cons, List.all_nil, avs_len, beq_self_eq_true, Bool.and_self, and_self, or_true, true_or, reduceCtorEq, *]; done) | fail) only [c_slices_insertionSortCmpFunc_int, wl_slices_insertionSortCmpFunc_int_2, s_slices_insertionSortCmpFunc_int_2, c_slices_insertionSortCmpFunc_int_l2, wb_slices_insertionSortCmpFunc_int_2, wb_slices_insertionSortCmpFunc_int_1, c_slices_insertionSortCmpFunc_int_k0, wl_slices_insertionSortCmpFunc_int_0, s_slices_insertionSortCmpFunc_int_0, c_slices_insertionSortCmpFunc_int_l0, wb_slices_insertionSortCmpFunc_int_0, go_sem, Nat.reduceAdd, Nat.reduceSub, Nat.reduceMul, Nat.reduceLT, Nat.reduceLeDiff, Int.reduceToNat, Nat.reduceEqDiff, Nat.reduceBEq, ↓reduceIte, reduceCtorEq, eA, scal1, w0, hlt]
    exact h
/-- The one at place 2 among three. -/
theorem ins2 (c x y z n : Nat) (hc : c < 2 ^ 32) (hx : x < 3) (hy : y < 3) (hz : z < 3) (hn : 3 ≤ n) (f d g : Nat) (t8 : AV) {k : List It} (hk : flat k) {R : List AV → Heap → Ctr → Prop} (nx : Ctr)
    (h : RunsX Try.prog 9 R k (e_slices_insertionSortCmpFunc_int_2 (.sl f d g 1 0 n) (.int .i64 0) (ri n) (rcl c) t8) [(f, d, g, some (if mixOf c z < mixOf c y then (if mixOf c z < mixOf c x then [ri z, ri x, ri y] else [ri x, ri z, ri y]) else [ri x, ri y, ri z]))] nx) :
    RunsX Try.prog 9 R (i_slices_insertionSortCmpFunc_int_2 ++ k) (s_slices_insertionSortCmpFunc_int_2 (.sl f d g 1 0 n) (.int .i64 0) (ri n) (rcl c) t8 (.int .i64 2)) [(f, d, g, some [ri x, ri y, ri z])] nx := by
  have c1 := order_calls c z y hc hz hy
  have w0 : IntKind.i64.wrap ((2 : Int) - 1) = 1 := by decide
  by_cases hm : mixOf c z < mixOf c y
  · rw [if_pos hm] at h
    have hlt : cmpN (mixOf c z) (mixOf c y) < 0 := (cmpN_neg _ _).2 hm
    refine round (its := [.blk 2 wb_slices_insertionSortCmpFunc_int_2]) 300 hk trivial (fun A eA => ?_)
    simp (disch := first | omega | (simp only [avs_len, List.length_cons, List.length_append, List.length_nil, List.length_take, List.length_drop, List.length_map]; omega) | (simp only [cells, scal1, allSz, List.length_cons, List.length_nil, List.length_append, List.length_map, List.all_cons, List.all_nil, avs_len, beq_self_eq_true, Bool.and_self, and_self, or_true, true_or, reduceCtorEq, *]; done) | fail) only [c_slices_insertionSortCmpFunc_int, wl_slices_insertionSortCmpFunc_int_2, s_slices_insertionSortCmpFunc_int_2, c_slices_insertionSortCmpFunc_int_l2, wb_slices_insertionSortCmpFunc_int_2, wb_slices_insertionSortCmpFunc_int_1, c_slices_insertionSortCmpFunc_int_k0, wl_slices_insertionSortCmpFunc_int_0, s_slices_insertionSortCmpFunc_int_0, c_slices_insertionSortCmpFunc_int_l0, wb_slices_insertionSortCmpFunc_int_0, go_sem, Nat.reduceAdd, Nat.reduceSub, Nat.reduceMul, Nat.reduceLT, Nat.reduceLeDiff, Int.reduceToNat, Nat.reduceEqDiff, Nat.reduceBEq, ↓reduceIte, reduceCtorEq, eA, scal1, w0, hlt]
    refine call0 300 hk trivial c1 (.inl rfl) (fun A eA => ?_)
    simp (disch := first | omega | (simp only [avs_len, List.length_cons, List.length_append, List.length_nil, List.length_take, List.length_drop, List.length_map]; omega) | (simp only [cells, scal1, allSz, List.length_cons, List.length_nil, List.length_append, List.length_map, List.all_cons, List.all_nil, avs_len, beq_self_eq_true, Bool.and_self, and_self, or_true, true_or, reduceCtorEq, *]; done) | fail) only [c_slices_insertionSortCmpFunc_int, wl_slices_insertionSortCmpFunc_int_2, s_slices_insertionSortCmpFunc_int_2, c_slices_insertionSortCmpFunc_int_l2, wb_slices_insertionSortCmpFunc_int_2, wb_slices_insertionSortCmpFunc_int_1, c_slices_insertionSortCmpFunc_int_k0, wl_slices_insertionSortCmpFunc_int_0, s_slices_insertionSortCmpFunc_int_0, c_slices_insertionSortCmpFunc_int_l0, wb_slices_insertionSortCmpFunc_int_0, go_sem, Nat.reduceAdd, Nat.reduceSub, Nat.reduceMul, Nat.reduceLT, Nat.reduceLeDiff, Int.reduceToNat, Nat.reduceEqDiff, Nat.reduceBEq, ↓reduceIte, reduceCtorEq, eA, scal1, w0, hlt]
    exact ins1 c x z n hc hx hz (by omega) [ri y] f d g t8 hk _ h
  · rw [if_neg hm] at h
    have hlt : ¬ cmpN (mixOf c z) (mixOf c y) < 0 := fun e => hm ((cmpN_neg _ _).1 e)
    refine round (its := [.blk 2 wb_slices_insertionSortCmpFunc_int_2]) 300 hk trivial (fun A eA => ?_)
    simp (disch := first | omega | (simp only [avs_len, List.length_cons, List.length_append, List.length_nil, List.length_take, List.length_drop, List.length_map]; omega) | (simp only [cells, scal1, allSz, List.length_cons, List.length_nil, List.length_append, List.length_map, List.all_cons, List.all_nil, avs_len, beq_self_eq_true, Bool.and_self, and_self, or_true, true_or, reduceCtorEq, *]; done) | fail) only [c_slices_insertionSortCmpFunc_int, wl_slices_insertionSortCmpFunc_int_2, s_slices_insertionSortCmpFunc_int_2, c_slices_insertionSortCmpFunc_int_l2, wb_slices_insertionSortCmpFunc_int_2, wb_slices_insertionSortCmpFunc_int_1, c_slices_insertionSortCmpFunc_int_k0, wl_slices_insertionSortCmpFunc_int_0, s_slices_insertionSortCmpFunc_int_0, c_slices_insertionSortCmpFunc_int_l0, wb_slices_insertionSortCmpFunc_int_0, go_sem, Nat.reduceAdd, Nat.reduceSub, Nat.reduceMul, Nat.reduceLT, Nat.reduceLeDiff, Int.reduceToNat, Nat.reduceEqDiff, Nat.reduceBEq, ↓reduceIte, reduceCtorEq, eA, scal1, w0, hlt]
    refine call0 300 hk trivial c1 (.inl rfl) (fun A eA => ?_)
    simp (disch := first | omega | (simp only [avs_len, List.length_cons, List.length_append, List.length_nil, List.length_take, List.length_drop, List.length_map]; omega) | (simp only [cells, scal1, allSz, List.length_cons, List.length_nil, List.length_append, List.length_map, List.all_cons, List.all_nil, avs_len, beq_self_eq_true, Bool.and_self, and_self, or_true, true_or, reduceCtorEq, *]; done) | fail) only [c_slices_insertionSortCmpFunc_int, wl_slices_insertionSortCmpFunc_int_2, s_slices_insertionSortCmpFunc_int_2, c_slices_insertionSortCmpFunc_int_l2, wb_slices_insertionSortCmpFunc_int_2, wb_slices_insertionSortCmpFunc_int_1, c_slices_insertionSortCmpFunc_int_k0, wl_slices_insertionSortCmpFunc_int_0, s_slices_insertionSortCmpFunc_int_0, c_slices_insertionSortCmpFunc_int_l0, wb_slices_insertionSortCmpFunc_int_0, go_sem, Nat.reduceAdd, Nat.reduceSub, Nat.reduceMul, Nat.reduceLT, Nat.reduceLeDiff, Int.reduceToNat, Nat.reduceEqDiff, Nat.reduceBEq, ↓reduceIte, reduceCtorEq, eA, scal1, w0, hlt]
    exact h
end Go.Proofs.Ytmokhopjnjecbab
/- The order of servers: sorted. -/
-- short
-- fuel 300
namespace Go.Proofs.Ytmokhopjnjecbab
open Go.Ev
set_option linter.unusedVariables false
set_option linter.unusedSimpArgs false
set_option maxRecDepth 100000
set_option maxHeartbeats 3200000
theorem fallR {φ : Nat} {ks : List (Nat × Nat)} {rs : List RS} {r : AV} {Hout : Heap} {nx' : Ctr} {t : List AV} {H : Heap} {nx : Ctr} (h1 : Ev.sel ks H = Hout) (h2 : getsK rs t H (fun vs => some (retv vs)) none = some r) (h3 : nx = nx') : RunsO Try.prog φ (GivesH ks rs r Hout nx') [] (.fall t H nx) :=
  RunsX.of (.nil (GivesH.of h1 h2 h3))
theorem isort1 (c f d g : Nat) (nx : Ctr) : HCalls Try.prog F_slices_insertionSortCmpFunc_int [.sl f d g 1 0 1, .int .i64 0, ri 1, rcl c] [(f, d, g, some [ri 0])] nx (.tup []) [(f, d, g, some [ri 0])] nx := by
  have w1 : IntKind.i64.wrap ((0 : Int) + 1) = 1 := by decide
  refine hcalls_slices_insertionSortCmpFunc_int 9 [(f, d)] (walk0 300 trivial (fun A eA => ?_))
  simp (disch := first | omega | (simp only [avs_len, List.length_cons, List.length_append, List.length_nil, List.length_take, List.length_drop, List.length_map]; omega) | (simp only [cells, scal1, allSz, List.length_cons, List.length_nil, List.length_append, List.length_map, List.all_cons, List.all_nil, avs_len, beq_self_eq_true, Bool.and_self, and_self, or_true, true_or, reduceCtorEq, *]; done) | fail) only [c_slices_insertionSortCmpFunc_int, wl_slices_insertionSortCmpFunc_int_2, s_slices_insertionSortCmpFunc_int_2, c_slices_insertionSortCmpFunc_int_l2, wb_slices_insertionSortCmpFunc_int_2, wb_slices_insertionSortCmpFunc_int_1, c_slices_insertionSortCmpFunc_int_k0, wl_slices_insertionSortCmpFunc_int_0, s_slices_insertionSortCmpFunc_int_0, c_slices_insertionSortCmpFunc_int_l0, wb_slices_insertionSortCmpFunc_int_0, go_sem, Nat.reduceAdd, Nat.reduceSub, Nat.reduceMul, Nat.reduceLT, Nat.reduceLeDiff, Int.reduceToNat, Nat.reduceEqDiff, Nat.reduceBEq, ↓reduceIte, reduceCtorEq, eA, scal1, w1]
  refine round (its := [.blk 0 wb_slices_insertionSortCmpFunc_int_0]) (k0 := []) 300 trivial trivial (fun A eA => ?_)
  simp (disch := first | omega | (simp only [avs_len, List.length_cons, List.length_append, List.length_nil, List.length_take, List.length_drop, List.length_map]; omega) | (simp only [cells, scal1, allSz, List.length_cons, List.length_nil, List.length_append, List.length_map, List.all_cons, List.all_nil, avs_len, beq_self_eq_true, Bool.and_self, and_self, or_true, true_or, reduceCtorEq, *]; done) | fail) only [c_slices_insertionSortCmpFunc_int, wl_slices_insertionSortCmpFunc_int_2, s_slices_insertionSortCmpFunc_int_2, c_slices_insertionSortCmpFunc_int_l2, wb_slices_insertionSortCmpFunc_int_2, wb_slices_insertionSortCmpFunc_int_1, c_slices_insertionSortCmpFunc_int_k0, wl_slices_insertionSortCmpFunc_int_0, s_slices_insertionSortCmpFunc_int_0, c_slices_insertionSortCmpFunc_int_l0, wb_slices_insertionSortCmpFunc_int_0, go_sem, Nat.reduceAdd, Nat.reduceSub, Nat.reduceMul, Nat.reduceLT, Nat.reduceLeDiff, Int.reduceToNat, Nat.reduceEqDiff, Nat.reduceBEq, ↓reduceIte, reduceCtorEq, eA, scal1, w1]
  exact fallR (by simp only [go_sem, Nat.reduceAdd, Nat.reduceSub, Nat.reduceMul, Nat.reduceLT, Nat.reduceLeDiff, Int.reduceToNat, Nat.reduceEqDiff, Nat.reduceBEq, ↓reduceIte, reduceCtorEq]) rfl rfl
theorem isort2 (c : Nat) (hc : c < 2 ^ 32) (f d g : Nat) (nx : Ctr) : HCalls Try.prog F_slices_insertionSortCmpFunc_int [.sl f d g 1 0 2, .int .i64 0, ri 2, rcl c] [(f, d, g, some [ri 0, ri 1])] nx (.tup []) [(f, d, g, some (if mixOf c 1 < mixOf c 0 then [ri 1, ri 0] else [ri 0, ri 1]))] nx := by
  have w1 : IntKind.i64.wrap ((0 : Int) + 1) = 1 := by decide
  have w2 : IntKind.i64.wrap ((1 : Int) + 1) = 2 := by decide
  refine hcalls_slices_insertionSortCmpFunc_int 9 [(f, d)] (walk0 300 trivial (fun A eA => ?_))
  simp (disch := first | omega | (simp only [avs_len, List.length_cons, List.length_append, List.length_nil, List.length_take, List.length_drop, List.length_map]; omega) | (simp only [cells, scal1, allSz, List.length_cons, List.length_nil, List.length_append, List.length_map, List.all_cons, List.all_nil, avs_len, beq_self_eq_true, Bool.and_self, and_self, or_true, true_or, reduceCtorEq, *]; done) | fail) only [c_slices_insertionSortCmpFunc_int, wl_slices_insertionSortCmpFunc_int_2, s_slices_insertionSortCmpFunc_int_2, c_slices_insertionSortCmpFunc_int_l2, wb_slices_insertionSortCmpFunc_int_2, wb_slices_insertionSortCmpFunc_int_1, c_slices_insertionSortCmpFunc_int_k0, wl_slices_insertionSortCmpFunc_int_0, s_slices_insertionSortCmpFunc_int_0, c_slices_insertionSortCmpFunc_int_l0, wb_slices_insertionSortCmpFunc_int_0, go_sem, Nat.reduceAdd, Nat.reduceSub, Nat.reduceMul, Nat.reduceLT, Nat.reduceLeDiff, Int.reduceToNat, Nat.reduceEqDiff, Nat.reduceBEq, ↓reduceIte, reduceCtorEq, eA, scal1, w1]
  refine round (its := [.blk 0 wb_slices_insertionSortCmpFunc_int_0]) (k0 := []) 300 trivial trivial (fun A eA => ?_)
  simp (disch := first | omega | (simp only [avs_len, List.length_cons, List.length_append, List.length_nil, List.length_take, List.length_drop, List.length_map]; omega) | (simp only [cells, scal1, allSz, List.length_cons, List.length_nil, List.length_append, List.length_map, List.all_cons, List.all_nil, avs_len, beq_self_eq_true, Bool.and_self, and_self, or_true, true_or, reduceCtorEq, *]; done) | fail) only [c_slices_insertionSortCmpFunc_int, wl_slices_insertionSortCmpFunc_int_2, s_slices_insertionSortCmpFunc_int_2, c_slices_insertionSortCmpFunc_int_l2, wb_slices_insertionSortCmpFunc_int_2, wb_slices_insertionSortCmpFunc_int_1, c_slices_insertionSortCmpFunc_int_k0, wl_slices_insertionSortCmpFunc_int_0, s_slices_insertionSortCmpFunc_int_0, c_slices_insertionSortCmpFunc_int_l0, wb_slices_insertionSortCmpFunc_int_0, go_sem, Nat.reduceAdd, Nat.reduceSub, Nat.reduceMul, Nat.reduceLT, Nat.reduceLeDiff, Int.reduceToNat, Nat.reduceEqDiff, Nat.reduceBEq, ↓reduceIte, reduceCtorEq, eA, scal1, w1]
  refine ins1 c 0 1 2 hc (by omega) (by omega) (by omega) [] f d g _ (k := .blk 1 wb_slices_insertionSortCmpFunc_int_1 :: .c c_slices_insertionSortCmpFunc_int_k0 :: .lp wl_slices_insertionSortCmpFunc_int_0 c_slices_insertionSortCmpFunc_int_l0 :: .blk 0 wb_slices_insertionSortCmpFunc_int_0 :: []) trivial _ ?_
  refine walk (its := [.blk 1 wb_slices_insertionSortCmpFunc_int_1, .c c_slices_insertionSortCmpFunc_int_k0, .lp wl_slices_insertionSortCmpFunc_int_0 c_slices_insertionSortCmpFunc_int_l0, .blk 0 wb_slices_insertionSortCmpFunc_int_0]) (k0 := []) 300 trivial trivial (fun A eA => ?_)
  simp (disch := first | omega | (simp only [avs_len, List.length_cons, List.length_append, List.length_nil, List.length_take, List.length_drop, List.length_map]; omega) | (simp only [cells, scal1, allSz, List.length_cons, List.length_nil, List.length_append, List.length_map, List.all_cons, List.all_nil, avs_len, beq_self_eq_true, Bool.and_self, and_self, or_true, true_or, reduceCtorEq, *]; done) | fail) only [c_slices_insertionSortCmpFunc_int, wl_slices_insertionSortCmpFunc_int_2, s_slices_insertionSortCmpFunc_int_2, c_slices_insertionSortCmpFunc_int_l2, wb_slices_insertionSortCmpFunc_int_2, wb_slices_insertionSortCmpFunc_int_1, c_slices_insertionSortCmpFunc_int_k0, wl_slices_insertionSortCmpFunc_int_0, s_slices_insertionSortCmpFunc_int_0, c_slices_insertionSortCmpFunc_int_l0, wb_slices_insertionSortCmpFunc_int_0, go_sem, Nat.reduceAdd, Nat.reduceSub, Nat.reduceMul, Nat.reduceLT, Nat.reduceLeDiff, Int.reduceToNat, Nat.reduceEqDiff, Nat.reduceBEq, ↓reduceIte, reduceCtorEq, eA, scal1, w2]
  refine round (its := [.blk 0 wb_slices_insertionSortCmpFunc_int_0]) (k0 := []) 300 trivial trivial (fun A eA => ?_)
  simp (disch := first | omega | (simp only [avs_len, List.length_cons, List.length_append, List.length_nil, List.length_take, List.length_drop, List.length_map]; omega) | (simp only [cells, scal1, allSz, List.length_cons, List.length_nil, List.length_append, List.length_map, List.all_cons, List.all_nil, avs_len, beq_self_eq_true, Bool.and_self, and_self, or_true, true_or, reduceCtorEq, *]; done) | fail) only [c_slices_insertionSortCmpFunc_int, wl_slices_insertionSortCmpFunc_int_2, s_slices_insertionSortCmpFunc_int_2, c_slices_insertionSortCmpFunc_int_l2, wb_slices_insertionSortCmpFunc_int_2, wb_slices_insertionSortCmpFunc_int_1, c_slices_insertionSortCmpFunc_int_k0, wl_slices_insertionSortCmpFunc_int_0, s_slices_insertionSortCmpFunc_int_0, c_slices_insertionSortCmpFunc_int_l0, wb_slices_insertionSortCmpFunc_int_0, go_sem, Nat.reduceAdd, Nat.reduceSub, Nat.reduceMul, Nat.reduceLT, Nat.reduceLeDiff, Int.reduceToNat, Nat.reduceEqDiff, Nat.reduceBEq, ↓reduceIte, reduceCtorEq, eA, scal1, w2]
  exact fallR (by simp only [go_sem, Nat.reduceAdd, Nat.reduceSub, Nat.reduceMul, Nat.reduceLT, Nat.reduceLeDiff, Int.reduceToNat, Nat.reduceEqDiff, Nat.reduceBEq, ↓reduceIte, reduceCtorEq]) rfl rfl
/-- Three, by their sums; who comes first stands first among equals. -/
def put2 (c x y z : Nat) : List AV := if mixOf c z < mixOf c y then (if mixOf c z < mixOf c x then [ri z, ri x, ri y] else [ri x, ri z, ri y]) else [ri x, ri y, ri z]
theorem isort3 (c : Nat) (hc : c < 2 ^ 32) (f d g : Nat) (nx : Ctr) : HCalls Try.prog F_slices_insertionSortCmpFunc_int [.sl f d g 1 0 3, .int .i64 0, ri 3, rcl c] [(f, d, g, some [ri 0, ri 1, ri 2])] nx (.tup []) [(f, d, g, some (if mixOf c 1 < mixOf c 0 then put2 c 1 0 2 else put2 c 0 1 2))] nx := by
  have w1 : IntKind.i64.wrap ((0 : Int) + 1) = 1 := by decide
  have w2 : IntKind.i64.wrap ((1 : Int) + 1) = 2 := by decide
  have w3 : IntKind.i64.wrap ((2 : Int) + 1) = 3 := by decide
  refine hcalls_slices_insertionSortCmpFunc_int 9 [(f, d)] (walk0 300 trivial (fun A eA => ?_))
  simp (disch := first | omega | (simp only [avs_len, List.length_cons, List.length_append, List.length_nil, List.length_take, List.length_drop, List.length_map]; omega) | (simp only [cells, scal1, allSz, List.length_cons, List.length_nil, List.length_append, List.length_map, List.all_cons, List.all_nil, avs_len, beq_self_eq_true, Bool.and_self, and_self, or_true, true_or, reduceCtorEq, *]; done) | fail) only [c_slices_insertionSortCmpFunc_int, wl_slices_insertionSortCmpFunc_int_2, s_slices_insertionSortCmpFunc_int_2, c_slices_insertionSortCmpFunc_int_l2, wb_slices_insertionSortCmpFunc_int_2, wb_slices_insertionSortCmpFunc_int_1, c_slices_insertionSortCmpFunc_int_k0, wl_slices_insertionSortCmpFunc_int_0, s_slices_insertionSortCmpFunc_int_0, c_slices_insertionSortCmpFunc_int_l0, wb_slices_insertionSortCmpFunc_int_0, go_sem, Nat.reduceAdd, Nat.reduceSub, Nat.reduceMul, Nat.reduceLT, Nat.reduceLeDiff, Int.reduceToNat, Nat.reduceEqDiff, Nat.reduceBEq, ↓reduceIte, reduceCtorEq, eA, scal1, w1, w2, w3]
  refine round (its := [.blk 0 wb_slices_insertionSortCmpFunc_int_0]) (k0 := []) 300 trivial trivial (fun A eA => ?_)
  simp (disch := first | omega | (simp only [avs_len, List.length_cons, List.length_append, List.length_nil, List.length_take, List.length_drop, List.length_map]; omega) | (simp only [cells, scal1, allSz, List.length_cons, List.length_nil, List.length_append, List.length_map, List.all_cons, List.all_nil, avs_len, beq_self_eq_true, Bool.and_self, and_self, or_true, true_or, reduceCtorEq, *]; done) | fail) only [c_slices_insertionSortCmpFunc_int, wl_slices_insertionSortCmpFunc_int_2, s_slices_insertionSortCmpFunc_int_2, c_slices_insertionSortCmpFunc_int_l2, wb_slices_insertionSortCmpFunc_int_2, wb_slices_insertionSortCmpFunc_int_1, c_slices_insertionSortCmpFunc_int_k0, wl_slices_insertionSortCmpFunc_int_0, s_slices_insertionSortCmpFunc_int_0, c_slices_insertionSortCmpFunc_int_l0, wb_slices_insertionSortCmpFunc_int_0, go_sem, Nat.reduceAdd, Nat.reduceSub, Nat.reduceMul, Nat.reduceLT, Nat.reduceLeDiff, Int.reduceToNat, Nat.reduceEqDiff, Nat.reduceBEq, ↓reduceIte, reduceCtorEq, eA, scal1, w1, w2, w3]
  refine ins1 c 0 1 3 hc (by omega) (by omega) (by omega) [ri 2] f d g _ (k := .blk 1 wb_slices_insertionSortCmpFunc_int_1 :: .c c_slices_insertionSortCmpFunc_int_k0 :: .lp wl_slices_insertionSortCmpFunc_int_0 c_slices_insertionSortCmpFunc_int_l0 :: .blk 0 wb_slices_insertionSortCmpFunc_int_0 :: []) trivial _ ?_
  by_cases hm : mixOf c 1 < mixOf c 0
  · rw [if_pos hm, if_pos hm]
    refine walk (its := [.blk 1 wb_slices_insertionSortCmpFunc_int_1, .c c_slices_insertionSortCmpFunc_int_k0, .lp wl_slices_insertionSortCmpFunc_int_0 c_slices_insertionSortCmpFunc_int_l0, .blk 0 wb_slices_insertionSortCmpFunc_int_0]) (k0 := []) 300 trivial trivial (fun A eA => ?_)
    simp (disch := first | omega | (simp only [avs_len, List.length_cons, List.length_append, List.length_nil, List.length_take, List.length_drop, List.length_map]; omega) | (simp only [cells, scal1, allSz, List.length_cons, List.length_nil, List.length_append, List.length_map, List.all_cons, List.all_nil, avs_len, beq_self_eq_true, Bool.and_self, and_self, or_true, true_or, reduceCtorEq, *]; done) | fail) only [c_slices_insertionSortCmpFunc_int, wl_slices_insertionSortCmpFunc_int_2, s_slices_insertionSortCmpFunc_int_2, c_slices_insertionSortCmpFunc_int_l2, wb_slices_insertionSortCmpFunc_int_2, wb_slices_insertionSortCmpFunc_int_1, c_slices_insertionSortCmpFunc_int_k0, wl_slices_insertionSortCmpFunc_int_0, s_slices_insertionSortCmpFunc_int_0, c_slices_insertionSortCmpFunc_int_l0, wb_slices_insertionSortCmpFunc_int_0, go_sem, Nat.reduceAdd, Nat.reduceSub, Nat.reduceMul, Nat.reduceLT, Nat.reduceLeDiff, Int.reduceToNat, Nat.reduceEqDiff, Nat.reduceBEq, ↓reduceIte, reduceCtorEq, eA, scal1, w1, w2, w3]
    refine round (its := [.blk 0 wb_slices_insertionSortCmpFunc_int_0]) (k0 := []) 300 trivial trivial (fun A eA => ?_)
    simp (disch := first | omega | (simp only [avs_len, List.length_cons, List.length_append, List.length_nil, List.length_take, List.length_drop, List.length_map]; omega) | (simp only [cells, scal1, allSz, List.length_cons, List.length_nil, List.length_append, List.length_map, List.all_cons, List.all_nil, avs_len, beq_self_eq_true, Bool.and_self, and_self, or_true, true_or, reduceCtorEq, *]; done) | fail) only [c_slices_insertionSortCmpFunc_int, wl_slices_insertionSortCmpFunc_int_2, s_slices_insertionSortCmpFunc_int_2, c_slices_insertionSortCmpFunc_int_l2, wb_slices_insertionSortCmpFunc_int_2, wb_slices_insertionSortCmpFunc_int_1, c_slices_insertionSortCmpFunc_int_k0, wl_slices_insertionSortCmpFunc_int_0, s_slices_insertionSortCmpFunc_int_0, c_slices_insertionSortCmpFunc_int_l0, wb_slices_insertionSortCmpFunc_int_0, go_sem, Nat.reduceAdd, Nat.reduceSub, Nat.reduceMul, Nat.reduceLT, Nat.reduceLeDiff, Int.reduceToNat, Nat.reduceEqDiff, Nat.reduceBEq, ↓reduceIte, reduceCtorEq, eA, scal1, w1, w2, w3]
    refine ins2 c 1 0 2 3 hc (by omega) (by omega) (by omega) (by omega) f d g _ (k := .blk 1 wb_slices_insertionSortCmpFunc_int_1 :: .c c_slices_insertionSortCmpFunc_int_k0 :: .lp wl_slices_insertionSortCmpFunc_int_0 c_slices_insertionSortCmpFunc_int_l0 :: .blk 0 wb_slices_insertionSortCmpFunc_int_0 :: []) trivial _ ?_
    refine walk (its := [.blk 1 wb_slices_insertionSortCmpFunc_int_1, .c c_slices_insertionSortCmpFunc_int_k0, .lp wl_slices_insertionSortCmpFunc_int_0 c_slices_insertionSortCmpFunc_int_l0, .blk 0 wb_slices_insertionSortCmpFunc_int_0]) (k0 := []) 300 trivial trivial (fun A eA => ?_)
    simp (disch := first | omega | (simp only [avs_len, List.length_cons, List.length_append, List.length_nil, List.length_take, List.length_drop, List.length_map]; omega) | (simp only [cells, scal1, allSz, List.length_cons, List.length_nil, List.length_append, List.length_map, List.all_cons, List.all_nil, avs_len, beq_self_eq_true, Bool.and_self, and_self, or_true, true_or, reduceCtorEq, *]; done) | fail) only [c_slices_insertionSortCmpFunc_int, wl_slices_insertionSortCmpFunc_int_2, s_slices_insertionSortCmpFunc_int_2, c_slices_insertionSortCmpFunc_int_l2, wb_slices_insertionSortCmpFunc_int_2, wb_slices_insertionSortCmpFunc_int_1, c_slices_insertionSortCmpFunc_int_k0, wl_slices_insertionSortCmpFunc_int_0, s_slices_insertionSortCmpFunc_int_0, c_slices_insertionSortCmpFunc_int_l0, wb_slices_insertionSortCmpFunc_int_0, go_sem, Nat.reduceAdd, Nat.reduceSub, Nat.reduceMul, Nat.reduceLT, Nat.reduceLeDiff, Int.reduceToNat, Nat.reduceEqDiff, Nat.reduceBEq, ↓reduceIte, reduceCtorEq, eA, scal1, w1, w2, w3]
    refine round (its := [.blk 0 wb_slices_insertionSortCmpFunc_int_0]) (k0 := []) 300 trivial trivial (fun A eA => ?_)
    simp (disch := first | omega | (simp only [avs_len, List.length_cons, List.length_append, List.length_nil, List.length_take, List.length_drop, List.length_map]; omega) | (simp only [cells, scal1, allSz, List.length_cons, List.length_nil, List.length_append, List.length_map, List.all_cons, List.all_nil, avs_len, beq_self_eq_true, Bool.and_self, and_self, or_true, true_or, reduceCtorEq, *]; done) | fail) only [c_slices_insertionSortCmpFunc_int, wl_slices_insertionSortCmpFunc_int_2, s_slices_insertionSortCmpFunc_int_2, c_slices_insertionSortCmpFunc_int_l2, wb_slices_insertionSortCmpFunc_int_2, wb_slices_insertionSortCmpFunc_int_1, c_slices_insertionSortCmpFunc_int_k0, wl_slices_insertionSortCmpFunc_int_0, s_slices_insertionSortCmpFunc_int_0, c_slices_insertionSortCmpFunc_int_l0, wb_slices_insertionSortCmpFunc_int_0, go_sem, Nat.reduceAdd, Nat.reduceSub, Nat.reduceMul, Nat.reduceLT, Nat.reduceLeDiff, Int.reduceToNat, Nat.reduceEqDiff, Nat.reduceBEq, ↓reduceIte, reduceCtorEq, eA, scal1, w1, w2, w3]
    exact fallR (by simp only [go_sem, Nat.reduceAdd, Nat.reduceSub, Nat.reduceMul, Nat.reduceLT, Nat.reduceLeDiff, Int.reduceToNat, Nat.reduceEqDiff, Nat.reduceBEq, ↓reduceIte, reduceCtorEq]; rfl) rfl rfl
  · rw [if_neg hm, if_neg hm]
    refine walk (its := [.blk 1 wb_slices_insertionSortCmpFunc_int_1, .c c_slices_insertionSortCmpFunc_int_k0, .lp wl_slices_insertionSortCmpFunc_int_0 c_slices_insertionSortCmpFunc_int_l0, .blk 0 wb_slices_insertionSortCmpFunc_int_0]) (k0 := []) 300 trivial trivial (fun A eA => ?_)
    simp (disch := first | omega | (simp only [avs_len, List.length_cons, List.length_append, List.length_nil, List.length_take, List.length_drop, List.length_map]; omega) | (simp only [cells, scal1, allSz, List.length_cons, List.length_nil, List.length_append, List.length_map, List.all_cons, List.all_nil, avs_len, beq_self_eq_true, Bool.and_self, and_self, or_true, true_or, reduceCtorEq, *]; done) | fail) only [c_slices_insertionSortCmpFunc_int, wl_slices_insertionSortCmpFunc_int_2, s_slices_insertionSortCmpFunc_int_2, c_slices_insertionSortCmpFunc_int_l2, wb_slices_insertionSortCmpFunc_int_2, wb_slices_insertionSortCmpFunc_int_1, c_slices_insertionSortCmpFunc_int_k0, wl_slices_insertionSortCmpFunc_int_0, s_slices_insertionSortCmpFunc_int_0, c_slices_insertionSortCmpFunc_int_l0, wb_slices_insertionSortCmpFunc_int_0, go_sem, Nat.reduceAdd, Nat.reduceSub, Nat.reduceMul, Nat.reduceLT, Nat.reduceLeDiff, Int.reduceToNat, Nat.reduceEqDiff, Nat.reduceBEq, ↓reduceIte, reduceCtorEq, eA, scal1, w1, w2, w3]
    refine round (its := [.blk 0 wb_slices_insertionSortCmpFunc_int_0]) (k0 := []) 300 trivial trivial (fun A eA => ?_)
    simp (disch := first | omega | (simp only [avs_len, List.length_cons, List.length_append, List.length_nil, List.length_take, List.length_drop, List.length_map]; omega) | (simp only [cells, scal1, allSz, List.length_cons, List.length_nil, List.length_append, List.length_map, List.all_cons, List.all_nil, avs_len, beq_self_eq_true, Bool.and_self, and_self, or_true, true_or, reduceCtorEq, *]; done) | fail) only [c_slices_insertionSortCmpFunc_int, wl_slices_insertionSortCmpFunc_int_2, s_slices_insertionSortCmpFunc_int_2, c_slices_insertionSortCmpFunc_int_l2, wb_slices_insertionSortCmpFunc_int_2, wb_slices_insertionSortCmpFunc_int_1, c_slices_insertionSortCmpFunc_int_k0, wl_slices_insertionSortCmpFunc_int_0, s_slices_insertionSortCmpFunc_int_0, c_slices_insertionSortCmpFunc_int_l0, wb_slices_insertionSortCmpFunc_int_0, go_sem, Nat.reduceAdd, Nat.reduceSub, Nat.reduceMul, Nat.reduceLT, Nat.reduceLeDiff, Int.reduceToNat, Nat.reduceEqDiff, Nat.reduceBEq, ↓reduceIte, reduceCtorEq, eA, scal1, w1, w2, w3]
    refine ins2 c 0 1 2 3 hc (by omega) (by omega) (by omega) (by omega) f d g _ (k := .blk 1 wb_slices_insertionSortCmpFunc_int_1 :: .c c_slices_insertionSortCmpFunc_int_k0 :: .lp wl_slices_insertionSortCmpFunc_int_0 c_slices_insertionSortCmpFunc_int_l0 :: .blk 0 wb_slices_insertionSortCmpFunc_int_0 :: []) trivial _ ?_
    refine walk (its := [.blk 1 wb_slices_insertionSortCmpFunc_int_1, .c c_slices_insertionSortCmpFunc_int_k0, .lp wl_slices_insertionSortCmpFunc_int_0 c_slices_insertionSortCmpFunc_int_l0, .blk 0 wb_slices_insertionSortCmpFunc_int_0]) (k0 := []) 300 trivial trivial (fun A eA => ?_)
    simp (disch := first | omega | (simp only [avs_len, List.length_cons, List.length_append, List.length_nil, List.length_take, List.length_drop, List.length_map]; omega) | (simp only [cells, scal1, allSz, List.length_cons, List.length_nil, List.length_append, List.length_map, List.all_cons, List.all_nil, avs_len, beq_self_eq_true, Bool.and_self, and_self, or_true, true_or, reduceCtorEq, *]; done) | fail) only [c_slices_insertionSortCmpFunc_int, wl_slices_insertionSortCmpFunc_int_2, s_slices_insertionSortCmpFunc_int_2, c_slices_insertionSortCmpFunc_int_l2, wb_slices_insertionSortCmpFunc_int_2, wb_slices_insertionSortCmpFunc_int_1, c_slices_insertionSortCmpFunc_int_k0, wl_slices_insertionSortCmpFunc_int_0, s_slices_insertionSortCmpFunc_int_0, c_slices_insertionSortCmpFunc_int_l0, wb_slices_insertionSortCmpFunc_int_0, go_sem, Nat.reduceAdd, Nat.reduceSub, Nat.reduceMul, Nat.reduceLT, Nat.reduceLeDiff, Int.reduceToNat, Nat.reduceEqDiff, Nat.reduceBEq, ↓reduceIte, reduceCtorEq, eA, scal1, w1, w2, w3]
    refine round (its := [.blk 0 wb_slices_insertionSortCmpFunc_int_0]) (k0 := []) 300 trivial trivial (fun A eA => ?_)
    simp (disch := first | omega | (simp only [avs_len, List.length_cons, List.length_append, List.length_nil, List.length_take, List.length_drop, List.length_map]; omega) | (simp only [cells, scal1, allSz, List.length_cons, List.length_nil, List.length_append, List.length_map, List.all_cons, List.all_nil, avs_len, beq_self_eq_true, Bool.and_self, and_self, or_true, true_or, reduceCtorEq, *]; done) | fail) only [c_slices_insertionSortCmpFunc_int, wl_slices_insertionSortCmpFunc_int_2, s_slices_insertionSortCmpFunc_int_2, c_slices_insertionSortCmpFunc_int_l2, wb_slices_insertionSortCmpFunc_int_2, wb_slices_insertionSortCmpFunc_int_1, c_slices_insertionSortCmpFunc_int_k0, wl_slices_insertionSortCmpFunc_int_0, s_slices_insertionSortCmpFunc_int_0, c_slices_insertionSortCmpFunc_int_l0, wb_slices_insertionSortCmpFunc_int_0, go_sem, Nat.reduceAdd, Nat.reduceSub, Nat.reduceMul, Nat.reduceLT, Nat.reduceLeDiff, Int.reduceToNat, Nat.reduceEqDiff, Nat.reduceBEq, ↓reduceIte, reduceCtorEq, eA, scal1, w1, w2, w3]
    exact fallR (by simp only [go_sem, Nat.reduceAdd, Nat.reduceSub, Nat.reduceMul, Nat.reduceLT, Nat.reduceLeDiff, Int.reduceToNat, Nat.reduceEqDiff, Nat.reduceBEq, ↓reduceIte, reduceCtorEq]; rfl) rfl rfl
end Go.Proofs.Ytmokhopjnjecbab
/- The order of servers: the stable sort of so few is one insertion sort. -/
-- short
-- fuel 300
namespace Go.Proofs.Ytmokhopjnjecbab
open Go.Ev
set_option linter.unusedVariables false
set_option linter.unusedSimpArgs false
set_option maxRecDepth 100000
set_option maxHeartbeats 3200000
theorem stable_h (c n f d g : Nat) (hn : n < 20) (row row' : List AV) (nx : Ctr) (hi : HCalls Try.prog F_slices_insertionSortCmpFunc_int [.sl f d g 1 0 n, .int .i64 0, ri n, rcl c] [(f, d, g, some row)] nx (.tup []) [(f, d, g, some row')] nx) :
    HCalls Try.prog F_slices_stableCmpFunc_int [.sl f d g 1 0 n, ri n, rcl c] [(f, d, g, some row)] nx (.tup []) [(f, d, g, some row')] nx := by
  refine hcalls_slices_stableCmpFunc_int 10 [(f, d)] (walk0 300 trivial (fun A eA => ?_))
  simp (disch := first | omega | (simp only [avs_len, List.length_cons, List.length_append, List.length_nil, List.length_take, List.length_drop, List.length_map]; omega) | (simp only [cells, scal1, allSz, List.length_cons, List.length_nil, List.length_append, List.length_map, List.all_cons, List.all_nil, avs_len, beq_self_eq_true, Bool.and_self, and_self, or_true, true_or, reduceCtorEq, *]; done) | fail) only [c_slices_stableCmpFunc_int, wl_slices_stableCmpFunc_int_0, s_slices_stableCmpFunc_int_0, c_slices_stableCmpFunc_int_l0, wb_slices_stableCmpFunc_int_0, wl_slices_stableCmpFunc_int_4, s_slices_stableCmpFunc_int_4, c_slices_stableCmpFunc_int_l4, wb_slices_stableCmpFunc_int_4, c_slices_stableCmpFunc_int_k0, wb_slices_stableCmpFunc_int_3, wl_slices_stableCmpFunc_int_2, s_slices_stableCmpFunc_int_2, c_slices_stableCmpFunc_int_l2, wb_slices_stableCmpFunc_int_2, c_slices_stableCmpFunc_int_k1, go_sem, Nat.reduceAdd, Nat.reduceSub, Nat.reduceMul, Nat.reduceLT, Nat.reduceLeDiff, Int.reduceToNat, Nat.reduceEqDiff, Nat.reduceBEq, ↓reduceIte, reduceCtorEq, eA, scal1]
  refine round (its := [.blk 0 wb_slices_stableCmpFunc_int_0]) 300 (k0 := [.c c_slices_stableCmpFunc_int_k1]) trivial trivial (fun A eA => ?_)
  simp (disch := first | omega | (simp only [avs_len, List.length_cons, List.length_append, List.length_nil, List.length_take, List.length_drop, List.length_map]; omega) | (simp only [cells, scal1, allSz, List.length_cons, List.length_nil, List.length_append, List.length_map, List.all_cons, List.all_nil, avs_len, beq_self_eq_true, Bool.and_self, and_self, or_true, true_or, reduceCtorEq, *]; done) | fail) only [c_slices_stableCmpFunc_int, wl_slices_stableCmpFunc_int_0, s_slices_stableCmpFunc_int_0, c_slices_stableCmpFunc_int_l0, wb_slices_stableCmpFunc_int_0, wl_slices_stableCmpFunc_int_4, s_slices_stableCmpFunc_int_4, c_slices_stableCmpFunc_int_l4, wb_slices_stableCmpFunc_int_4, c_slices_stableCmpFunc_int_k0, wb_slices_stableCmpFunc_int_3, wl_slices_stableCmpFunc_int_2, s_slices_stableCmpFunc_int_2, c_slices_stableCmpFunc_int_l2, wb_slices_stableCmpFunc_int_2, c_slices_stableCmpFunc_int_k1, go_sem, Nat.reduceAdd, Nat.reduceSub, Nat.reduceMul, Nat.reduceLT, Nat.reduceLeDiff, Int.reduceToNat, Nat.reduceEqDiff, Nat.reduceBEq, ↓reduceIte, reduceCtorEq, eA, scal1]
  refine walk0 (its := [.c c_slices_stableCmpFunc_int_k1]) 300 trivial (fun A eA => ?_)
  simp (disch := first | omega | (simp only [avs_len, List.length_cons, List.length_append, List.length_nil, List.length_take, List.length_drop, List.length_map]; omega) | (simp only [cells, scal1, allSz, List.length_cons, List.length_nil, List.length_append, List.length_map, List.all_cons, List.all_nil, avs_len, beq_self_eq_true, Bool.and_self, and_self, or_true, true_or, reduceCtorEq, *]; done) | fail) only [c_slices_stableCmpFunc_int, wl_slices_stableCmpFunc_int_0, s_slices_stableCmpFunc_int_0, c_slices_stableCmpFunc_int_l0, wb_slices_stableCmpFunc_int_0, wl_slices_stableCmpFunc_int_4, s_slices_stableCmpFunc_int_4, c_slices_stableCmpFunc_int_l4, wb_slices_stableCmpFunc_int_4, c_slices_stableCmpFunc_int_k0, wb_slices_stableCmpFunc_int_3, wl_slices_stableCmpFunc_int_2, s_slices_stableCmpFunc_int_2, c_slices_stableCmpFunc_int_l2, wb_slices_stableCmpFunc_int_2, c_slices_stableCmpFunc_int_k1, go_sem, Nat.reduceAdd, Nat.reduceSub, Nat.reduceMul, Nat.reduceLT, Nat.reduceLeDiff, Int.reduceToNat, Nat.reduceEqDiff, Nat.reduceBEq, ↓reduceIte, reduceCtorEq, eA, scal1]
  refine call2 300 trivial trivial [(f, d)] (by simp only [go_sem, Nat.reduceAdd, Nat.reduceSub, Nat.reduceMul, Nat.reduceLT, Nat.reduceLeDiff, Int.reduceToNat, Nat.reduceEqDiff, Nat.reduceBEq, ↓reduceIte, reduceCtorEq] <;> rfl) (by simp only [go_sem, Nat.reduceAdd, Nat.reduceSub, Nat.reduceMul, Nat.reduceLT, Nat.reduceLeDiff, Int.reduceToNat, Nat.reduceEqDiff, Nat.reduceBEq, ↓reduceIte, reduceCtorEq, Ev.rest, keyIn] <;> rfl) hi (.inl rfl) (fun A eA => ?_)
  simp (disch := first | omega | (simp only [avs_len, List.length_cons, List.length_append, List.length_nil, List.length_take, List.length_drop, List.length_map]; omega) | (simp only [cells, scal1, allSz, List.length_cons, List.length_nil, List.length_append, List.length_map, List.all_cons, List.all_nil, avs_len, beq_self_eq_true, Bool.and_self, and_self, or_true, true_or, reduceCtorEq, *]; done) | fail) only [c_slices_stableCmpFunc_int, wl_slices_stableCmpFunc_int_0, s_slices_stableCmpFunc_int_0, c_slices_stableCmpFunc_int_l0, wb_slices_stableCmpFunc_int_0, wl_slices_stableCmpFunc_int_4, s_slices_stableCmpFunc_int_4, c_slices_stableCmpFunc_int_l4, wb_slices_stableCmpFunc_int_4, c_slices_stableCmpFunc_int_k0, wb_slices_stableCmpFunc_int_3, wl_slices_stableCmpFunc_int_2, s_slices_stableCmpFunc_int_2, c_slices_stableCmpFunc_int_l2, wb_slices_stableCmpFunc_int_2, c_slices_stableCmpFunc_int_k1, go_sem, Nat.reduceAdd, Nat.reduceSub, Nat.reduceMul, Nat.reduceLT, Nat.reduceLeDiff, Int.reduceToNat, Nat.reduceEqDiff, Nat.reduceBEq, ↓reduceIte, reduceCtorEq, eA, scal1]
  refine round (its := [.blk 2 wb_slices_stableCmpFunc_int_2]) (k0 := []) 300 trivial trivial (fun A eA => ?_)
  simp (disch := first | omega | (simp only [avs_len, List.length_cons, List.length_append, List.length_nil, List.length_take, List.length_drop, List.length_map]; omega) | (simp only [cells, scal1, allSz, List.length_cons, List.length_nil, List.length_append, List.length_map, List.all_cons, List.all_nil, avs_len, beq_self_eq_true, Bool.and_self, and_self, or_true, true_or, reduceCtorEq, *]; done) | fail) only [c_slices_stableCmpFunc_int, wl_slices_stableCmpFunc_int_0, s_slices_stableCmpFunc_int_0, c_slices_stableCmpFunc_int_l0, wb_slices_stableCmpFunc_int_0, wl_slices_stableCmpFunc_int_4, s_slices_stableCmpFunc_int_4, c_slices_stableCmpFunc_int_l4, wb_slices_stableCmpFunc_int_4, c_slices_stableCmpFunc_int_k0, wb_slices_stableCmpFunc_int_3, wl_slices_stableCmpFunc_int_2, s_slices_stableCmpFunc_int_2, c_slices_stableCmpFunc_int_l2, wb_slices_stableCmpFunc_int_2, c_slices_stableCmpFunc_int_k1, go_sem, Nat.reduceAdd, Nat.reduceSub, Nat.reduceMul, Nat.reduceLT, Nat.reduceLeDiff, Int.reduceToNat, Nat.reduceEqDiff, Nat.reduceBEq, ↓reduceIte, reduceCtorEq, eA, scal1]
  exact fallR (by simp only [go_sem, Nat.reduceAdd, Nat.reduceSub, Nat.reduceMul, Nat.reduceLT, Nat.reduceLeDiff, Int.reduceToNat, Nat.reduceEqDiff, Nat.reduceBEq, ↓reduceIte, reduceCtorEq]) rfl rfl
end Go.Proofs.Ytmokhopjnjecbab
/- The order of servers: the sort as the program calls it. -/
-- short
-- fuel 300
namespace Go.Proofs.Ytmokhopjnjecbab
open Go.Ev
set_option linter.unusedVariables false
set_option linter.unusedSimpArgs false
set_option maxRecDepth 100000
set_option maxHeartbeats 3200000
theorem sortStable_h (c n f d g : Nat) (hn : n < 20) (row row' : List AV) (nx : Ctr) (hi : HCalls Try.prog F_slices_insertionSortCmpFunc_int [.sl f d g 1 0 n, .int .i64 0, ri n, rcl c] [(f, d, g, some row)] nx (.tup []) [(f, d, g, some row')] nx) :
    HCalls Try.prog F_slices_SortStableFunc_int [.sl f d g 1 0 n, rcl c] [(f, d, g, some row)] nx (.tup []) [(f, d, g, some row')] nx := by
  have hs := stable_h c n f d g hn row row' nx hi
  refine hcalls_slices_SortStableFunc_int 11 [(f, d)] (walk0 300 trivial (fun A eA => ?_))
  simp (disch := first | omega | (simp only [avs_len, List.length_cons, List.length_append, List.length_nil, List.length_take, List.length_drop, List.length_map]; omega) | (simp only [cells, scal1, allSz, List.length_cons, List.length_nil, List.length_append, List.length_map, List.all_cons, List.all_nil, avs_len, beq_self_eq_true, Bool.and_self, and_self, or_true, true_or, reduceCtorEq, *]; done) | fail) only [c_slices_SortStableFunc_int, go_sem, Nat.reduceAdd, Nat.reduceSub, Nat.reduceMul, Nat.reduceLT, Nat.reduceLeDiff, Int.reduceToNat, Nat.reduceEqDiff, Nat.reduceBEq, ↓reduceIte, reduceCtorEq, eA, scal1]
  refine call2 300 trivial trivial [(f, d)] (by simp only [go_sem, Nat.reduceAdd, Nat.reduceSub, Nat.reduceMul, Nat.reduceLT, Nat.reduceLeDiff, Int.reduceToNat, Nat.reduceEqDiff, Nat.reduceBEq, ↓reduceIte, reduceCtorEq] <;> rfl) (by simp only [go_sem, Nat.reduceAdd, Nat.reduceSub, Nat.reduceMul, Nat.reduceLT, Nat.reduceLeDiff, Int.reduceToNat, Nat.reduceEqDiff, Nat.reduceBEq, ↓reduceIte, reduceCtorEq, Ev.rest, keyIn] <;> rfl) hs (.inl rfl) (fun A eA => ?_)
  simp (disch := first | omega | (simp only [avs_len, List.length_cons, List.length_append, List.length_nil, List.length_take, List.length_drop, List.length_map]; omega) | (simp only [cells, scal1, allSz, List.length_cons, List.length_nil, List.length_append, List.length_map, List.all_cons, List.all_nil, avs_len, beq_self_eq_true, Bool.and_self, and_self, or_true, true_or, reduceCtorEq, *]; done) | fail) only [c_slices_SortStableFunc_int, go_sem, Nat.reduceAdd, Nat.reduceSub, Nat.reduceMul, Nat.reduceLT, Nat.reduceLeDiff, Int.reduceToNat, Nat.reduceEqDiff, Nat.reduceBEq, ↓reduceIte, reduceCtorEq, eA, scal1]
  exact fallR (by simp only [go_sem, Nat.reduceAdd, Nat.reduceSub, Nat.reduceMul, Nat.reduceLT, Nat.reduceLeDiff, Int.reduceToNat, Nat.reduceEqDiff, Nat.reduceBEq, ↓reduceIte, reduceCtorEq]) rfl rfl
end Go.Proofs.Ytmokhopjnjecbab
/- Who keeps a key: no servers, or too many. -/
-- short
-- fuel 300
namespace Go.Proofs.Ytmokhopjnjecbab
open Go.Ev
set_option linter.unusedVariables false
set_option linter.unusedSimpArgs false
set_option maxRecDepth 100000
set_option maxHeartbeats 3200000
theorem ringList_none (key : ByteArray) (s c : Int) (h : s < 1 ∨ 3 < s) : PCalls Try.prog F_ring_List [.str key, .int .i64 s, .int .i64 c] .nils := by
  by_cases h1 : s < 1
  · refine calls_ring_List (walk0 300 trivial (fun A eA => ?_))
    simp (disch := first | omega | (simp only [avs_len, List.length_cons, List.length_append, List.length_nil, List.length_take, List.length_drop, List.length_map]; omega) | (simp only [cells, scal1, allSz, List.length_cons, List.length_nil, List.length_append, List.length_map, List.all_cons, List.all_nil, avs_len, beq_self_eq_true, Bool.and_self, and_self, or_true, true_or, reduceCtorEq, *]; done) | fail) only [c_ring_List, wl_ring_List_0, s_ring_List_0, c_ring_List_l0, wb_ring_List_0, c_ring_List_k0, go_sem, Nat.reduceAdd, Nat.reduceSub, Nat.reduceMul, Nat.reduceLT, Nat.reduceLeDiff, Int.reduceToNat, Nat.reduceEqDiff, Nat.reduceBEq, ↓reduceIte, reduceCtorEq, eA, scal1]
    exact doneG rfl
  · have h2 : 3 < s := by omega
    refine calls_ring_List (walk0 300 trivial (fun A eA => ?_))
    simp (disch := first | omega | (simp only [avs_len, List.length_cons, List.length_append, List.length_nil, List.length_take, List.length_drop, List.length_map]; omega) | (simp only [cells, scal1, allSz, List.length_cons, List.length_nil, List.length_append, List.length_map, List.all_cons, List.all_nil, avs_len, beq_self_eq_true, Bool.and_self, and_self, or_true, true_or, reduceCtorEq, *]; done) | fail) only [c_ring_List, wl_ring_List_0, s_ring_List_0, c_ring_List_l0, wb_ring_List_0, c_ring_List_k0, go_sem, Nat.reduceAdd, Nat.reduceSub, Nat.reduceMul, Nat.reduceLT, Nat.reduceLeDiff, Int.reduceToNat, Nat.reduceEqDiff, Nat.reduceBEq, ↓reduceIte, reduceCtorEq, eA, scal1]
    exact doneG rfl
theorem refList_none (key : ByteArray) (s c : Int) (h : s < 1 ∨ 3 < s) : PCalls Try.prog F_ref12_List [.str key, .int .i64 s, .int .i64 c] .nils := by
  by_cases h1 : s < 1
  · refine calls_ref12_List (walk0 300 trivial (fun A eA => ?_))
    simp (disch := first | omega | (simp only [avs_len, List.length_cons, List.length_append, List.length_nil, List.length_take, List.length_drop, List.length_map]; omega) | (simp only [cells, scal1, allSz, List.length_cons, List.length_nil, List.length_append, List.length_map, List.all_cons, List.all_nil, avs_len, beq_self_eq_true, Bool.and_self, and_self, or_true, true_or, reduceCtorEq, *]; done) | fail) only [c_ref12_List, wl_ref12_List_4, s_ref12_List_4, c_ref12_List_l4, wb_ref12_List_4, c_ref12_List_k0, wb_ref12_List_3, c_ref12_List_k1, wl_ref12_List_2, s_ref12_List_2, c_ref12_List_l2, wb_ref12_List_2, c_ref12_List_k2, wb_ref12_List_1, wl_ref12_List_0, s_ref12_List_0, c_ref12_List_l0, wb_ref12_List_0, c_ref12_List_k3, go_sem, Nat.reduceAdd, Nat.reduceSub, Nat.reduceMul, Nat.reduceLT, Nat.reduceLeDiff, Int.reduceToNat, Nat.reduceEqDiff, Nat.reduceBEq, ↓reduceIte, reduceCtorEq, eA, scal1]
    exact doneG rfl
  · have h2 : 3 < s := by omega
    refine calls_ref12_List (walk0 300 trivial (fun A eA => ?_))
    simp (disch := first | omega | (simp only [avs_len, List.length_cons, List.length_append, List.length_nil, List.length_take, List.length_drop, List.length_map]; omega) | (simp only [cells, scal1, allSz, List.length_cons, List.length_nil, List.length_append, List.length_map, List.all_cons, List.all_nil, avs_len, beq_self_eq_true, Bool.and_self, and_self, or_true, true_or, reduceCtorEq, *]; done) | fail) only [c_ref12_List, wl_ref12_List_4, s_ref12_List_4, c_ref12_List_l4, wb_ref12_List_4, c_ref12_List_k0, wb_ref12_List_3, c_ref12_List_k1, wl_ref12_List_2, s_ref12_List_2, c_ref12_List_l2, wb_ref12_List_2, c_ref12_List_k2, wb_ref12_List_1, wl_ref12_List_0, s_ref12_List_0, c_ref12_List_l0, wb_ref12_List_0, c_ref12_List_k3, go_sem, Nat.reduceAdd, Nat.reduceSub, Nat.reduceMul, Nat.reduceLT, Nat.reduceLeDiff, Int.reduceToNat, Nat.reduceEqDiff, Nat.reduceBEq, ↓reduceIte, reduceCtorEq, eA, scal1]
    exact doneG rfl
end Go.Proofs.Ytmokhopjnjecbab
