/- The functions' bodies, compiled; printed by a program of mine (gen.py); that they are is checked here. -/
import Derived.Test.YtmokhopjnjecbabM2
import Derived.Test.YtmokhopjnjecbabRows
import Derived.Eval
import Derived.KernelRfl
import Derived.Attr
import Derived.ChangeKeysEq
namespace Go.Proofs.Ytmokhopjnjecbab
open Go.Ev
set_option maxRecDepth 100000

/-- pedlar/stamp.Clone: parameters [96], results [.cn 2 4], calls ident_Clone, event_Clone -/
def c_stamp_Clone : Cd := (.seq (.reg [⟨(some 1), none, .box, [.t 0]⟩, ⟨(some 2), none, (.new [(.bool false), .nils, (.int .i64 0), .nils] 2), []⟩]) (.seq (.reg [⟨(some 3), none, (.fa 0), [.t 1]⟩, ⟨(some 4), none, (.ldn 2), [.t 3]⟩, ⟨(some 5), none, (.call F_ident_Clone 0), [.t 4]⟩, ⟨(some 6), none, (.fa 2), [.t 1]⟩, ⟨(some 7), none, (.ldn 2), [.t 6]⟩, ⟨(some 8), none, (.call F_event_Clone 0), [.t 7]⟩, ⟨(some 9), none, (.bld [(.bool false), .nils, (.int .i64 0), .nils] [(0, 2), (2, 2)]), [.t 5, .t 8]⟩, ⟨none, none, (.st 4), [.t 2, .t 9]⟩]) .ret))
theorem comp_stamp_Clone : compF Try.prog (mset [] [] []) (cset [] [] []) (wset [] []) Try.f66 = some c_stamp_Clone := by kernel_rfl
theorem ok_stamp_Clone : fnOk Try.prog F_stamp_Clone = true := by kernel_rfl
theorem calls_stamp_Clone {args : List AV} {r : AV} (h : RunsX Try.prog 0 (Gives [.cn 2 4] r) [.c c_stamp_Clone] (args ++ List.replicate (10 - args.length) (.tup [])) [] zeroC) : PCalls Try.prog F_stamp_Clone args r :=
  pcallsF Try.checked.mixed Try.func66 ok_stamp_Clone comp_stamp_Clone rfl (rs := [.cn 2 4]) (by kernel_rfl) h
theorem hcalls_stamp_Clone {args : List AV} {Hin Hout : Heap} {nx nx2 : Ctr} {r : AV} (φ : Nat) (ks : List (Nat × Nat)) (h : RunsX Try.prog φ (GivesH ks [.cn 2 4] r Hout nx2) [.c c_stamp_Clone] (args ++ List.replicate (10 - args.length) (.tup [])) Hin nx) : HCalls Try.prog F_stamp_Clone args Hin nx r Hout nx2 :=
  hcallsF Try.checked.mixed Try.func66 ok_stamp_Clone comp_stamp_Clone rfl (rs := [.cn 2 4]) (by kernel_rfl) φ ks h

/-- pedlar/stamp.Same: parameters [96, 96], results [.t 4], calls ident_Same, event_Same -/
def c_stamp_Same : Cd := (.seq (.reg [⟨(some 2), none, .box, [.t 0]⟩, ⟨(some 3), none, .box, [.t 1]⟩, ⟨(some 4), none, .mv, [.c (.bool false)]⟩]) (.seq (.reg [⟨(some 5), none, (.fa 0), [.t 2]⟩, ⟨(some 6), none, (.ldn 2), [.t 5]⟩, ⟨(some 7), none, (.fa 0), [.t 3]⟩, ⟨(some 8), none, (.ldn 2), [.t 7]⟩, ⟨(some 9), none, (.call F_ident_Same 0), [.t 6, .t 8]⟩, ⟨(some 10), none, .mv, [.t 9]⟩, ⟨(some 11), (some (10, true)), (.fa 2), [.t 2]⟩, ⟨(some 12), (some (10, true)), (.ldn 2), [.t 11]⟩, ⟨(some 13), (some (10, true)), (.fa 2), [.t 3]⟩, ⟨(some 14), (some (10, true)), (.ldn 2), [.t 13]⟩, ⟨(some 15), (some (10, true)), (.call F_event_Same 0), [.t 12, .t 14]⟩, ⟨(some 16), none, .pick, [.t 10, .t 15, .c (.bool false)]⟩, ⟨(some 4), none, .mv, [.t 16]⟩]) .ret))
theorem comp_stamp_Same : compF Try.prog (mset [] [] []) (cset [] [] []) (wset [] []) Try.f65 = some c_stamp_Same := by kernel_rfl
theorem ok_stamp_Same : fnOk Try.prog F_stamp_Same = true := by kernel_rfl
theorem calls_stamp_Same {args : List AV} {r : AV} (h : RunsX Try.prog 0 (Gives [.t 4] r) [.c c_stamp_Same] (args ++ List.replicate (17 - args.length) (.tup [])) [] zeroC) : PCalls Try.prog F_stamp_Same args r :=
  pcallsF Try.checked.mixed Try.func65 ok_stamp_Same comp_stamp_Same rfl (rs := [.t 4]) (by kernel_rfl) h
theorem hcalls_stamp_Same {args : List AV} {Hin Hout : Heap} {nx nx2 : Ctr} {r : AV} (φ : Nat) (ks : List (Nat × Nat)) (h : RunsX Try.prog φ (GivesH ks [.t 4] r Hout nx2) [.c c_stamp_Same] (args ++ List.replicate (17 - args.length) (.tup [])) Hin nx) : HCalls Try.prog F_stamp_Same args Hin nx r Hout nx2 :=
  hcallsF Try.checked.mixed Try.func65 ok_stamp_Same comp_stamp_Same rfl (rs := [.t 4]) (by kernel_rfl) φ ks h

/-- pedlar/stamp.putId: parameters [83, 24, 3], results [], calls codec_Out_Num, stamp_putId -/
def c_stamp_putId : Cd := (.seq (.reg [⟨(some 4), none, .box, [.t 1]⟩]) (.blk 0 [] (.seq (.reg [⟨(some 9), none, (.fa 1), [.t 4]⟩, ⟨(some 10), none, .ld1, [.t 9]⟩, ⟨(some 11), none, .len, [.t 10]⟩, ⟨(some 12), none, (.bin .eql), [.t 11, .c (.int .i64 2)]⟩, ⟨(some 13), none, .mv, [.t 12]⟩, ⟨(some 14), (some (13, true)), .mv, [.t 2]⟩, ⟨(some 15), (some (13, true)), (.bin .gtr), [.t 14, .c (.int .i64 1)]⟩, ⟨(some 16), none, .pick, [.t 13, .t 15, .c (.bool false)]⟩, ⟨(some 8), none, .mv, [.t 16]⟩]) (.cond (.t 8) (.seq (.reg [⟨(some 17), none, .mv, [.t 0]⟩, ⟨(some 18), none, (.call F_codec_Out_Num 2), [.t 17, .c (.int .i64 2)]⟩]) (.seq (.reg [⟨(some 19), none, .mv, [.t 0]⟩, ⟨(some 20), none, (.fa 1), [.t 4]⟩, ⟨(some 21), none, .ld1, [.t 20]⟩, ⟨(some 22), none, (.ixS 2), [.t 21, .c (.int .i64 0)]⟩, ⟨(some 23), none, (.ldn 2), [.t 22]⟩, ⟨(some 24), none, .mv, [.t 2]⟩, ⟨(some 25), none, (.bin .sub), [.t 24, .c (.int .i64 1)]⟩, ⟨(some 26), none, (.call F_stamp_putId 2), [.t 19, .t 23, .t 25]⟩]) (.reg [⟨(some 27), none, .mv, [.t 0]⟩, ⟨(some 28), none, (.fa 1), [.t 4]⟩, ⟨(some 29), none, .ld1, [.t 28]⟩, ⟨(some 30), none, (.ixS 2), [.t 29, .c (.int .i64 1)]⟩, ⟨(some 31), none, (.ldn 2), [.t 30]⟩, ⟨(some 32), none, .mv, [.t 2]⟩, ⟨(some 33), none, (.bin .sub), [.t 32, .c (.int .i64 1)]⟩, ⟨(some 34), none, (.call F_stamp_putId 2), [.t 27, .t 31, .t 33]⟩]))) (.seq (.reg [⟨(some 36), none, (.fa 0), [.t 4]⟩, ⟨(some 37), none, .ld1, [.t 36]⟩, ⟨(some 35), none, .mv, [.t 37]⟩]) (.cond (.t 35) (.reg [⟨(some 38), none, .mv, [.t 0]⟩, ⟨(some 39), none, (.call F_codec_Out_Num 2), [.t 38, .c (.int .i64 1)]⟩]) (.reg [⟨(some 6), none, .mv, [.t 0]⟩, ⟨(some 7), none, (.call F_codec_Out_Num 2), [.t 6, .c (.int .i64 0)]⟩])))))))
theorem comp_stamp_putId : compF Try.prog (mset [] [] []) (cset [] [F_stamp_putId, F_codec_Out_Num] []) (wset [] []) Try.f131 = some c_stamp_putId := by kernel_rfl
theorem ok_stamp_putId : fnOk Try.prog F_stamp_putId = true := by kernel_rfl
theorem calls_stamp_putId {args : List AV} {r : AV} (h : RunsX Try.prog 0 (Gives [] r) [.c c_stamp_putId] (args ++ List.replicate (40 - args.length) (.tup [])) [] zeroC) : PCalls Try.prog F_stamp_putId args r :=
  pcallsF Try.checked.mixed Try.func131 ok_stamp_putId comp_stamp_putId rfl (rs := []) (by kernel_rfl) h
theorem hcalls_stamp_putId {args : List AV} {Hin Hout : Heap} {nx nx2 : Ctr} {r : AV} (φ : Nat) (ks : List (Nat × Nat)) (h : RunsX Try.prog φ (GivesH ks [] r Hout nx2) [.c c_stamp_putId] (args ++ List.replicate (40 - args.length) (.tup [])) Hin nx) : HCalls Try.prog F_stamp_putId args Hin nx r Hout nx2 :=
  hcallsF Try.checked.mixed Try.func131 ok_stamp_putId comp_stamp_putId rfl (rs := []) (by kernel_rfl) φ ks h

/-- pedlar/stamp.getId: parameters [77, 3], results [.cn 4 2], calls codec_In_Count, ident_All, stamp_getId -/
def c_stamp_getId : Cd := (.seq (.reg [⟨(some 4), none, (.new [(.bool false), .nils] 4), []⟩]) (.seq (.seq (.reg [⟨(some 5), none, .mv, [.t 0]⟩, ⟨(some 6), none, (.call F_codec_In_Count 2), [.t 5, .c (.int .i64 2)]⟩]) (.blk 0 [] (.seq (.reg [⟨(some 8), none, (.bin .eql), [.t 6, .c (.int .i64 1)]⟩, ⟨(some 7), none, .mv, [.t 8]⟩]) (.cond (.t 7) (.seq (.reg [⟨(some 9), none, (.call F_ident_All 0), []⟩, ⟨none, none, (.st 2), [.t 4, .t 9]⟩]) .ret) (.seq (.reg [⟨(some 11), none, (.bin .eql), [.t 6, .c (.int .i64 2)]⟩, ⟨(some 10), none, .mv, [.t 11]⟩]) (.cond (.t 10) (.seq (.reg [⟨(some 12), none, .mv, [.t 1]⟩, ⟨(some 13), none, (.bin .gtr), [.t 12, .c (.int .i64 0)]⟩]) (.cond (.t 13) (.seq (.reg [⟨(some 14), none, .mv, [.t 0]⟩, ⟨(some 15), none, .mv, [.t 1]⟩, ⟨(some 16), none, (.bin .sub), [.t 15, .c (.int .i64 1)]⟩, ⟨(some 17), none, (.call F_stamp_getId 2), [.t 14, .t 16]⟩, ⟨(some 18), none, .mv, [.t 0]⟩, ⟨(some 19), none, .mv, [.t 1]⟩, ⟨(some 20), none, (.bin .sub), [.t 19, .c (.int .i64 1)]⟩, ⟨(some 21), none, (.call F_stamp_getId 2), [.t 18, .t 20]⟩, ⟨(some 22), none, (.lit 2 2), [.t 17, .t 21]⟩, ⟨(some 23), none, (.bld [(.bool false), .nils] [(1, 1)]), [.t 22]⟩, ⟨none, none, (.st 2), [.t 4, .t 23]⟩]) .ret) .skip)) .skip)))))) (.seq (.reg [⟨(some 24), none, (.bld [(.bool false), .nils] []), []⟩, ⟨none, none, (.st 2), [.t 4, .t 24]⟩]) .ret)))
theorem comp_stamp_getId : compF Try.prog (mset [] [] []) (cset [] [F_stamp_getId, F_codec_In_Count] []) (wset [] []) Try.f130 = some c_stamp_getId := by kernel_rfl
theorem ok_stamp_getId : fnOk Try.prog F_stamp_getId = true := by kernel_rfl
theorem calls_stamp_getId {args : List AV} {r : AV} (h : RunsX Try.prog 0 (Gives [.cn 4 2] r) [.c c_stamp_getId] (args ++ List.replicate (25 - args.length) (.tup [])) [] zeroC) : PCalls Try.prog F_stamp_getId args r :=
  pcallsF Try.checked.mixed Try.func130 ok_stamp_getId comp_stamp_getId rfl (rs := [.cn 4 2]) (by kernel_rfl) h
theorem hcalls_stamp_getId {args : List AV} {Hin Hout : Heap} {nx nx2 : Ctr} {r : AV} (φ : Nat) (ks : List (Nat × Nat)) (h : RunsX Try.prog φ (GivesH ks [.cn 4 2] r Hout nx2) [.c c_stamp_getId] (args ++ List.replicate (25 - args.length) (.tup [])) Hin nx) : HCalls Try.prog F_stamp_getId args Hin nx r Hout nx2 :=
  hcallsF Try.checked.mixed Try.func130 ok_stamp_getId comp_stamp_getId rfl (rs := [.cn 4 2]) (by kernel_rfl) φ ks h

/-- pedlar/stamp.Put: parameters [83, 96], results [], calls stamp_putId, event_Put -/
def c_stamp_Put : Cd := (.seq (.reg [⟨(some 3), none, .box, [.t 1]⟩]) (.seq (.reg [⟨(some 4), none, .mv, [.t 0]⟩, ⟨(some 5), none, (.fa 0), [.t 3]⟩, ⟨(some 6), none, (.ldn 2), [.t 5]⟩, ⟨(some 7), none, (.call F_stamp_putId 2), [.t 4, .t 6, .c (.int .i64 8)]⟩]) (.reg [⟨(some 8), none, .mv, [.t 0]⟩, ⟨(some 9), none, (.fa 2), [.t 3]⟩, ⟨(some 10), none, (.ldn 2), [.t 9]⟩, ⟨(some 11), none, (.call F_event_Put 2), [.t 8, .t 10]⟩])))
theorem comp_stamp_Put : compF Try.prog (mset [] [] []) (cset [] [F_stamp_putId, F_event_Put] []) (wset [] []) Try.f64 = some c_stamp_Put := by kernel_rfl
theorem ok_stamp_Put : fnOk Try.prog F_stamp_Put = true := by kernel_rfl
theorem calls_stamp_Put {args : List AV} {r : AV} (h : RunsX Try.prog 0 (Gives [] r) [.c c_stamp_Put] (args ++ List.replicate (12 - args.length) (.tup [])) [] zeroC) : PCalls Try.prog F_stamp_Put args r :=
  pcallsF Try.checked.mixed Try.func64 ok_stamp_Put comp_stamp_Put rfl (rs := []) (by kernel_rfl) h
theorem hcalls_stamp_Put {args : List AV} {Hin Hout : Heap} {nx nx2 : Ctr} {r : AV} (φ : Nat) (ks : List (Nat × Nat)) (h : RunsX Try.prog φ (GivesH ks [] r Hout nx2) [.c c_stamp_Put] (args ++ List.replicate (12 - args.length) (.tup [])) Hin nx) : HCalls Try.prog F_stamp_Put args Hin nx r Hout nx2 :=
  hcallsF Try.checked.mixed Try.func64 ok_stamp_Put comp_stamp_Put rfl (rs := []) (by kernel_rfl) φ ks h

/-- pedlar/stamp.Get: parameters [77], results [.cn 2 4, .t 3], calls stamp_getId, event_Get, codec_In_Bad, stamp_Right -/
def c_stamp_Get : Cd := (.seq (.reg [⟨(some 2), none, (.new [(.bool false), .nils, (.int .i64 0), .nils] 2), []⟩, ⟨(some 3), none, .mv, [.c (.bool false)]⟩]) (.seq (.reg [⟨(some 8), none, .mv, [.t 0]⟩, ⟨(some 9), none, (.call F_stamp_getId 2), [.t 8, .c (.int .i64 8)]⟩, ⟨(some 4), none, (.new [(.bool false), .nils] 4), []⟩, ⟨none, none, (.st 2), [.t 4, .t 9]⟩]) (.seq (.reg [⟨(some 11), none, .mv, [.t 0]⟩, ⟨(some 12), none, (.call F_event_Get 2), [.t 11]⟩, ⟨(some 10), none, .mv, [.t 12]⟩, ⟨(some 13), none, (.ext 0), [.t 10]⟩, ⟨(some 14), none, (.ext 1), [.t 10]⟩, ⟨(some 5), none, (.new [(.int .i64 0), .nils] 5), []⟩, ⟨none, none, (.st 2), [.t 5, .t 13]⟩, ⟨(some 6), none, .mv, [.t 14]⟩]) (.seq (.reg [⟨(some 15), none, (.ldn 2), [.t 4]⟩, ⟨(some 16), none, (.ldn 2), [.t 5]⟩, ⟨(some 17), none, (.bld [(.bool false), .nils, (.int .i64 0), .nils] [(0, 2), (2, 2)]), [.t 15, .t 16]⟩, ⟨(some 7), none, (.new [(.bool false), .nils, (.int .i64 0), .nils] 7), []⟩, ⟨none, none, (.st 4), [.t 7, .t 17]⟩]) (.seq (.seq (.reg [⟨(some 18), none, .mv, [.t 6]⟩, ⟨(some 19), none, .not, [.t 18]⟩, ⟨(some 20), none, .mv, [.t 19]⟩, ⟨(some 21), (some (20, false)), .mv, [.t 0]⟩, ⟨(some 22), (some (20, false)), (.call F_codec_In_Bad 2), [.t 21]⟩, ⟨(some 23), none, .pick, [.t 20, .c (.bool true), .t 22]⟩, ⟨(some 24), none, .mv, [.t 23]⟩, ⟨(some 25), (some (24, false)), (.ldn 4), [.t 7]⟩, ⟨(some 26), (some (24, false)), (.call F_stamp_Right 0), [.t 25]⟩, ⟨(some 27), (some (24, false)), .not, [.t 26]⟩, ⟨(some 28), none, .pick, [.t 24, .c (.bool true), .t 27]⟩]) (.cond (.t 28) (.seq (.reg [⟨(some 29), none, (.bld [(.bool false), .nils, (.int .i64 0), .nils] []), []⟩, ⟨none, none, (.st 4), [.t 2, .t 29]⟩, ⟨(some 3), none, .mv, [.c (.bool false)]⟩]) .ret) .skip)) (.seq (.reg [⟨(some 30), none, (.ldn 4), [.t 7]⟩, ⟨none, none, (.st 4), [.t 2, .t 30]⟩, ⟨(some 3), none, .mv, [.c (.bool true)]⟩]) .ret))))))
theorem comp_stamp_Get : compF Try.prog (mset [] [] []) (cset [] [F_stamp_getId, F_event_Get, F_codec_In_Bad] []) (wset [] []) Try.f62 = some c_stamp_Get := by kernel_rfl
theorem ok_stamp_Get : fnOk Try.prog F_stamp_Get = true := by kernel_rfl
theorem calls_stamp_Get {args : List AV} {r : AV} (h : RunsX Try.prog 0 (Gives [.cn 2 4, .t 3] r) [.c c_stamp_Get] (args ++ List.replicate (31 - args.length) (.tup [])) [] zeroC) : PCalls Try.prog F_stamp_Get args r :=
  pcallsF Try.checked.mixed Try.func62 ok_stamp_Get comp_stamp_Get rfl (rs := [.cn 2 4, .t 3]) (by kernel_rfl) h
theorem hcalls_stamp_Get {args : List AV} {Hin Hout : Heap} {nx nx2 : Ctr} {r : AV} (φ : Nat) (ks : List (Nat × Nat)) (h : RunsX Try.prog φ (GivesH ks [.cn 2 4, .t 3] r Hout nx2) [.c c_stamp_Get] (args ++ List.replicate (31 - args.length) (.tup [])) Hin nx) : HCalls Try.prog F_stamp_Get args Hin nx r Hout nx2 :=
  hcallsF Try.checked.mixed Try.func62 ok_stamp_Get comp_stamp_Get rfl (rs := [.cn 2 4, .t 3]) (by kernel_rfl) φ ks h

/-- pedlar/pedlarlaw06.StampBytes: parameters [96, 76], results [.t 4], calls law06_awake, law04_Few, law05_Few, ref04_Right, ref04_ERight, codec_NewIn, stamp_Get, stamp_Right, stamp_Put, codec_Out_End, codec_In_Done, stamp_Same, stamp_Clone -/
def c_law06_StampBytes : Cd := (.seq (.reg [⟨(some 2), none, .box, [.t 0]⟩, ⟨(some 4), none, .mv, [.c (.bool false)]⟩]) (.seq (.seq (.reg [⟨(some 14), none, (.call F_law06_awake 0), []⟩, ⟨(some 15), none, .not, [.t 14]⟩, ⟨(some 16), none, .mv, [.t 15]⟩, ⟨(some 17), (some (16, false)), (.fa 0), [.t 2]⟩, ⟨(some 18), (some (16, false)), (.ldn 2), [.t 17]⟩, ⟨(some 19), (some (16, false)), (.call F_law04_Few 0), [.t 18, .c (.int .i64 30)]⟩, ⟨(some 20), (some (16, false)), .not, [.t 19]⟩, ⟨(some 21), none, .pick, [.t 16, .c (.bool true), .t 20]⟩, ⟨(some 22), none, .mv, [.t 21]⟩, ⟨(some 23), (some (22, false)), (.fa 2), [.t 2]⟩, ⟨(some 24), (some (22, false)), (.ldn 2), [.t 23]⟩, ⟨(some 25), (some (22, false)), (.call F_law05_Few 0), [.t 24, .c (.int .i64 30)]⟩, ⟨(some 26), (some (22, false)), .not, [.t 25]⟩, ⟨(some 27), none, .pick, [.t 22, .c (.bool true), .t 26]⟩, ⟨(some 28), none, .mv, [.t 27]⟩, ⟨(some 29), (some (28, false)), .mv, [.t 1]⟩, ⟨(some 30), (some (28, false)), .len, [.t 29]⟩, ⟨(some 31), (some (28, false)), (.bin .gtr), [.t 30, .c (.int .i64 500)]⟩, ⟨(some 32), none, .pick, [.t 28, .c (.bool true), .t 31]⟩]) (.cond (.t 32) (.seq (.reg [⟨(some 33), none, (.call F_law06_awake 0), []⟩, ⟨(some 4), none, .mv, [.t 33]⟩]) .ret) .skip)) (.seq (.reg [⟨(some 34), none, (.fa 0), [.t 2]⟩, ⟨(some 35), none, (.ldn 2), [.t 34]⟩, ⟨(some 36), none, (.call F_ref04_Right 0), [.t 35]⟩, ⟨(some 37), none, .mv, [.t 36]⟩, ⟨(some 38), (some (37, true)), (.fa 0), [.t 2]⟩, ⟨(some 39), (some (37, true)), (.fa 0), [.t 38]⟩, ⟨(some 40), (some (37, true)), .ld1, [.t 39]⟩, ⟨(some 41), (some (37, true)), .mv, [.t 40]⟩, ⟨(some 42), (some (41, false)), (.fa 0), [.t 2]⟩, ⟨(some 43), (some (41, false)), (.fa 1), [.t 42]⟩, ⟨(some 44), (some (41, false)), .ld1, [.t 43]⟩, ⟨(some 45), (some (41, false)), .len, [.t 44]⟩, ⟨(some 46), (some (41, false)), (.bin .gtr), [.t 45, .c (.int .i64 0)]⟩, ⟨(some 47), (some (37, true)), .pick, [.t 41, .c (.bool true), .t 46]⟩, ⟨(some 48), none, .pick, [.t 37, .t 47, .c (.bool false)]⟩, ⟨(some 49), none, .mv, [.t 48]⟩, ⟨(some 50), (some (49, true)), (.fa 2), [.t 2]⟩, ⟨(some 51), (some (49, true)), (.ldn 2), [.t 50]⟩, ⟨(some 52), (some (49, true)), (.call F_ref04_ERight 0), [.t 51]⟩, ⟨(some 53), none, .pick, [.t 49, .t 52, .c (.bool false)]⟩, ⟨(some 5), none, .mv, [.t 53]⟩]) (.seq (.reg [⟨(some 55), none, .mv, [.t 1]⟩, ⟨(some 56), none, (.call F_codec_NewIn 2), [.t 55]⟩, ⟨(some 57), none, (.call F_stamp_Get 2), [.t 56]⟩, ⟨(some 54), none, .mv, [.t 57]⟩, ⟨(some 58), none, (.ext 0), [.t 54]⟩, ⟨(some 59), none, (.ext 1), [.t 54]⟩, ⟨(some 6), none, (.new [(.bool false), .nils, (.int .i64 0), .nils] 6), []⟩, ⟨none, none, (.st 4), [.t 6, .t 58]⟩, ⟨(some 7), none, .mv, [.t 59]⟩]) (.seq (.seq (.reg [⟨(some 60), none, (.ldn 4), [.t 2]⟩, ⟨(some 61), none, (.call F_stamp_Right 0), [.t 60]⟩, ⟨(some 62), none, .mv, [.t 5]⟩, ⟨(some 63), none, (.eqb true), [.t 61, .t 62]⟩, ⟨(some 64), none, .mv, [.t 63]⟩, ⟨(some 65), (some (64, false)), .mv, [.t 7]⟩, ⟨(some 66), (some (64, false)), .mv, [.t 65]⟩, ⟨(some 67), (some (66, true)), (.ldn 4), [.t 6]⟩, ⟨(some 68), (some (66, true)), (.call F_stamp_Right 0), [.t 67]⟩, ⟨(some 69), (some (66, true)), .not, [.t 68]⟩, ⟨(some 70), (some (64, false)), .pick, [.t 66, .t 69, .c (.bool false)]⟩, ⟨(some 71), none, .pick, [.t 64, .c (.bool true), .t 70]⟩, ⟨(some 72), none, .mv, [.t 71]⟩, ⟨(some 73), (some (72, false)), .mv, [.t 7]⟩, ⟨(some 74), (some (72, false)), .not, [.t 73]⟩, ⟨(some 75), (some (72, false)), .mv, [.t 74]⟩, ⟨(some 76), (some (75, true)), (.fa 0), [.t 6]⟩, ⟨(some 77), (some (75, true)), (.fa 1), [.t 76]⟩, ⟨(some 78), (some (75, true)), .ld1, [.t 77]⟩, ⟨(some 79), (some (75, true)), .len, [.t 78]⟩, ⟨(some 80), (some (75, true)), (.bin .neq), [.t 79, .c (.int .i64 0)]⟩, ⟨(some 81), (some (75, true)), .mv, [.t 80]⟩, ⟨(some 82), (some (81, false)), (.fa 0), [.t 6]⟩, ⟨(some 83), (some (81, false)), (.fa 0), [.t 82]⟩, ⟨(some 84), (some (81, false)), .ld1, [.t 83]⟩, ⟨(some 85), (some (75, true)), .pick, [.t 81, .c (.bool true), .t 84]⟩, ⟨(some 86), (some (75, true)), .mv, [.t 85]⟩, ⟨(some 87), (some (86, false)), (.fa 2), [.t 6]⟩, ⟨(some 88), (some (86, false)), (.fa 0), [.t 87]⟩, ⟨(some 89), (some (86, false)), .ld1, [.t 88]⟩, ⟨(some 90), (some (86, false)), (.bin .neq), [.t 89, .c (.int .i64 0)]⟩, ⟨(some 91), (some (75, true)), .pick, [.t 86, .c (.bool true), .t 90]⟩, ⟨(some 92), (some (72, false)), .pick, [.t 75, .t 91, .c (.bool false)]⟩, ⟨(some 93), none, .pick, [.t 72, .c (.bool true), .t 92]⟩]) (.cond (.t 93) (.seq (.reg [⟨(some 4), none, .mv, [.c (.bool false)]⟩]) .ret) .skip)) (.seq (.seq (.reg [⟨(some 94), none, .mv, [.t 5]⟩, ⟨(some 95), none, .not, [.t 94]⟩]) (.cond (.t 95) (.seq (.reg [⟨(some 4), none, .mv, [.c (.bool true)]⟩]) .ret) .skip)) (.seq (.reg [⟨(some 8), none, (.new [.nils, (.bool false)] 8), []⟩]) (.seq (.reg [⟨(some 96), none, (.ldn 4), [.t 2]⟩, ⟨(some 97), none, (.call F_stamp_Put 2), [.t 8, .t 96]⟩]) (.seq (.regf [⟨(some 99), none, (.call F_codec_Out_End 2), [.t 8]⟩, ⟨(some 98), none, .mv, [.t 99]⟩, ⟨(some 100), none, (.ext 0), [.t 98]⟩, ⟨(some 101), none, (.ext 1), [.t 98]⟩, ⟨(some 9), none, .mv, [.t 100]⟩, ⟨(some 10), none, .mv, [.t 101]⟩] [9]) (.seq (.reg [⟨(some 102), none, .mv, [.t 9]⟩, ⟨(some 103), none, (.call F_codec_NewIn 2), [.t 102]⟩, ⟨(some 11), none, .mv, [.t 103]⟩]) (.seq (.reg [⟨(some 105), none, .mv, [.t 11]⟩, ⟨(some 106), none, (.call F_stamp_Get 2), [.t 105]⟩, ⟨(some 104), none, .mv, [.t 106]⟩, ⟨(some 107), none, (.ext 0), [.t 104]⟩, ⟨(some 108), none, (.ext 1), [.t 104]⟩, ⟨(some 12), none, (.new [(.bool false), .nils, (.int .i64 0), .nils] 12), []⟩, ⟨none, none, (.st 4), [.t 12, .t 107]⟩, ⟨(some 13), none, .mv, [.t 108]⟩]) (.seq (.reg [⟨(some 109), none, .mv, [.t 10]⟩, ⟨(some 110), none, (.bin .eql), [.t 109, .c (.int .i64 0)]⟩, ⟨(some 111), none, .mv, [.t 110]⟩, ⟨(some 112), (some (111, true)), .mv, [.t 13]⟩, ⟨(some 113), none, .pick, [.t 111, .t 112, .c (.bool false)]⟩, ⟨(some 114), none, .mv, [.t 113]⟩, ⟨(some 115), (some (114, true)), .mv, [.t 11]⟩, ⟨(some 116), (some (114, true)), (.call F_codec_In_Done 2), [.t 115]⟩, ⟨(some 117), none, .pick, [.t 114, .t 116, .c (.bool false)]⟩, ⟨(some 118), none, .mv, [.t 117]⟩, ⟨(some 119), (some (118, true)), (.ldn 4), [.t 12]⟩, ⟨(some 120), (some (118, true)), (.ldn 4), [.t 2]⟩, ⟨(some 121), (some (118, true)), (.call F_stamp_Same 0), [.t 119, .t 120]⟩, ⟨(some 122), none, .pick, [.t 118, .t 121, .c (.bool false)]⟩, ⟨(some 123), none, .mv, [.t 122]⟩, ⟨(some 124), (some (123, true)), (.ldn 4), [.t 2]⟩, ⟨(some 125), (some (123, true)), (.call F_stamp_Clone 0), [.t 124]⟩, ⟨(some 126), (some (123, true)), (.ldn 4), [.t 2]⟩, ⟨(some 127), (some (123, true)), (.call F_stamp_Same 0), [.t 125, .t 126]⟩, ⟨(some 128), none, .pick, [.t 123, .t 127, .c (.bool false)]⟩, ⟨(some 4), none, .mv, [.t 128]⟩]) .ret))))))))))))
theorem comp_law06_StampBytes : compF Try.prog (mset [] [] []) (cset [] [F_codec_NewIn, F_stamp_Get, F_stamp_Put, F_codec_Out_End, F_codec_In_Done] []) (wset [] [9]) Try.f10 = some c_law06_StampBytes := by kernel_rfl
theorem ok_law06_StampBytes : fnOk Try.prog F_law06_StampBytes = true := by kernel_rfl
theorem calls_law06_StampBytes {args : List AV} {r : AV} (h : RunsX Try.prog 0 (Gives [.t 4] r) [.c c_law06_StampBytes] (args ++ List.replicate (129 - args.length) (.tup [])) [] zeroC) : PCalls Try.prog F_law06_StampBytes args r :=
  pcallsF Try.checked.mixed Try.func10 ok_law06_StampBytes comp_law06_StampBytes rfl (rs := [.t 4]) (by kernel_rfl) h
theorem hcalls_law06_StampBytes {args : List AV} {Hin Hout : Heap} {nx nx2 : Ctr} {r : AV} (φ : Nat) (ks : List (Nat × Nat)) (h : RunsX Try.prog φ (GivesH ks [.t 4] r Hout nx2) [.c c_law06_StampBytes] (args ++ List.replicate (129 - args.length) (.tup [])) Hin nx) : HCalls Try.prog F_law06_StampBytes args Hin nx r Hout nx2 :=
  hcallsF Try.checked.mixed Try.func10 ok_law06_StampBytes comp_law06_StampBytes rfl (rs := [.t 4]) (by kernel_rfl) φ ks h

def tab_CdStBytes : List (Nat × Cd × Nat × List RS) := [(F_stamp_Clone, c_stamp_Clone, 10, [.cn 2 4]), (F_stamp_Same, c_stamp_Same, 17, [.t 4]), (F_stamp_putId, c_stamp_putId, 40, []), (F_stamp_getId, c_stamp_getId, 25, [.cn 4 2]), (F_stamp_Put, c_stamp_Put, 12, []), (F_stamp_Get, c_stamp_Get, 31, [.cn 2 4, .t 3]), (F_law06_StampBytes, c_law06_StampBytes, 129, [.t 4])]
theorem tok_CdStBytes : TabOk Try.prog (tabOf tab_CdStBytes) := tab_cons calls_stamp_Clone hcalls_stamp_Clone (tab_cons calls_stamp_Same hcalls_stamp_Same (tab_cons calls_stamp_putId hcalls_stamp_putId (tab_cons calls_stamp_getId hcalls_stamp_getId (tab_cons calls_stamp_Put hcalls_stamp_Put (tab_cons calls_stamp_Get hcalls_stamp_Get (tab_cons calls_law06_StampBytes hcalls_law06_StampBytes (tab_nil)))))))
end Go.Proofs.Ytmokhopjnjecbab
/- The functions' bodies, compiled; printed by a program of mine (gen.py); that they are is checked here. -/
namespace Go.Proofs.Ytmokhopjnjecbab
open Go.Ev
set_option maxRecDepth 100000

/-- pedlar/stamp.Seed: parameters [], results [.cn 0 4], calls ident_All -/
def c_stamp_Seed : Cd := (.seq (.reg [⟨(some 0), none, (.new [(.bool false), .nils, (.int .i64 0), .nils] 0), []⟩]) (.seq (.reg [⟨(some 1), none, (.call F_ident_All 0), []⟩, ⟨(some 2), none, (.bld [(.bool false), .nils, (.int .i64 0), .nils] [(0, 2)]), [.t 1]⟩, ⟨none, none, (.st 4), [.t 0, .t 2]⟩]) .ret))
theorem comp_stamp_Seed : compF Try.prog (mset [] [] []) (cset [] [] []) (wset [] []) Try.f78 = some c_stamp_Seed := by kernel_rfl
theorem ok_stamp_Seed : fnOk Try.prog F_stamp_Seed = true := by kernel_rfl
theorem calls_stamp_Seed {args : List AV} {r : AV} (h : RunsX Try.prog 0 (Gives [.cn 0 4] r) [.c c_stamp_Seed] (args ++ List.replicate (3 - args.length) (.tup [])) [] zeroC) : PCalls Try.prog F_stamp_Seed args r :=
  pcallsF Try.checked.mixed Try.func78 ok_stamp_Seed comp_stamp_Seed rfl (rs := [.cn 0 4]) (by kernel_rfl) h
theorem hcalls_stamp_Seed {args : List AV} {Hin Hout : Heap} {nx nx2 : Ctr} {r : AV} (φ : Nat) (ks : List (Nat × Nat)) (h : RunsX Try.prog φ (GivesH ks [.cn 0 4] r Hout nx2) [.c c_stamp_Seed] (args ++ List.replicate (3 - args.length) (.tup [])) Hin nx) : HCalls Try.prog F_stamp_Seed args Hin nx r Hout nx2 :=
  hcallsF Try.checked.mixed Try.func78 ok_stamp_Seed comp_stamp_Seed rfl (rs := [.cn 0 4]) (by kernel_rfl) φ ks h

/-- pedlar/stamp.Right: parameters [96], results [.t 2], calls ident_Right, ident_Nothing, event_Right -/
def c_stamp_Right : Cd := (.seq (.reg [⟨(some 1), none, .box, [.t 0]⟩, ⟨(some 2), none, .mv, [.c (.bool false)]⟩]) (.seq (.reg [⟨(some 3), none, (.fa 0), [.t 1]⟩, ⟨(some 4), none, (.ldn 2), [.t 3]⟩, ⟨(some 5), none, (.call F_ident_Right 0), [.t 4]⟩, ⟨(some 6), none, .mv, [.t 5]⟩, ⟨(some 7), (some (6, true)), (.fa 0), [.t 1]⟩, ⟨(some 8), (some (6, true)), (.ldn 2), [.t 7]⟩, ⟨(some 9), (some (6, true)), (.call F_ident_Nothing 0), [.t 8]⟩, ⟨(some 10), (some (6, true)), .not, [.t 9]⟩, ⟨(some 11), none, .pick, [.t 6, .t 10, .c (.bool false)]⟩, ⟨(some 12), none, .mv, [.t 11]⟩, ⟨(some 13), (some (12, true)), (.fa 2), [.t 1]⟩, ⟨(some 14), (some (12, true)), (.ldn 2), [.t 13]⟩, ⟨(some 15), (some (12, true)), (.call F_event_Right 0), [.t 14]⟩, ⟨(some 16), none, .pick, [.t 12, .t 15, .c (.bool false)]⟩, ⟨(some 2), none, .mv, [.t 16]⟩]) .ret))
theorem comp_stamp_Right : compF Try.prog (mset [] [] []) (cset [] [] []) (wset [] []) Try.f63 = some c_stamp_Right := by kernel_rfl
theorem ok_stamp_Right : fnOk Try.prog F_stamp_Right = true := by kernel_rfl
theorem calls_stamp_Right {args : List AV} {r : AV} (h : RunsX Try.prog 0 (Gives [.t 2] r) [.c c_stamp_Right] (args ++ List.replicate (17 - args.length) (.tup [])) [] zeroC) : PCalls Try.prog F_stamp_Right args r :=
  pcallsF Try.checked.mixed Try.func63 ok_stamp_Right comp_stamp_Right rfl (rs := [.t 2]) (by kernel_rfl) h
theorem hcalls_stamp_Right {args : List AV} {Hin Hout : Heap} {nx nx2 : Ctr} {r : AV} (φ : Nat) (ks : List (Nat × Nat)) (h : RunsX Try.prog φ (GivesH ks [.t 2] r Hout nx2) [.c c_stamp_Right] (args ++ List.replicate (17 - args.length) (.tup [])) Hin nx) : HCalls Try.prog F_stamp_Right args Hin nx r Hout nx2 :=
  hcallsF Try.checked.mixed Try.func63 ok_stamp_Right comp_stamp_Right rfl (rs := [.t 2]) (by kernel_rfl) φ ks h

/-- pedlar/pedlarlaw06.awake: parameters [], results [.t 0], calls stamp_Seed, stamp_Right -/
def c_law06_awake : Cd := (.seq (.reg [⟨(some 0), none, .mv, [.c (.bool false)]⟩]) (.seq (.reg [⟨(some 1), none, (.call F_stamp_Seed 0), []⟩, ⟨(some 2), none, (.call F_stamp_Right 0), [.t 1]⟩, ⟨(some 0), none, .mv, [.t 2]⟩]) .ret))
theorem comp_law06_awake : compF Try.prog (mset [] [] []) (cset [] [] []) (wset [] []) Try.f61 = some c_law06_awake := by kernel_rfl
theorem ok_law06_awake : fnOk Try.prog F_law06_awake = true := by kernel_rfl
theorem calls_law06_awake {args : List AV} {r : AV} (h : RunsX Try.prog 0 (Gives [.t 0] r) [.c c_law06_awake] (args ++ List.replicate (3 - args.length) (.tup [])) [] zeroC) : PCalls Try.prog F_law06_awake args r :=
  pcallsF Try.checked.mixed Try.func61 ok_law06_awake comp_law06_awake rfl (rs := [.t 0]) (by kernel_rfl) h
theorem hcalls_law06_awake {args : List AV} {Hin Hout : Heap} {nx nx2 : Ctr} {r : AV} (φ : Nat) (ks : List (Nat × Nat)) (h : RunsX Try.prog φ (GivesH ks [.t 0] r Hout nx2) [.c c_law06_awake] (args ++ List.replicate (3 - args.length) (.tup [])) Hin nx) : HCalls Try.prog F_law06_awake args Hin nx r Hout nx2 :=
  hcallsF Try.checked.mixed Try.func61 ok_law06_awake comp_law06_awake rfl (rs := [.t 0]) (by kernel_rfl) φ ks h

def tab_CdStamp : List (Nat × Cd × Nat × List RS) := [(F_stamp_Seed, c_stamp_Seed, 3, [.cn 0 4]), (F_stamp_Right, c_stamp_Right, 17, [.t 2]), (F_law06_awake, c_law06_awake, 3, [.t 0])]
theorem tok_CdStamp : TabOk Try.prog (tabOf tab_CdStamp) := tab_cons calls_stamp_Seed hcalls_stamp_Seed (tab_cons calls_stamp_Right hcalls_stamp_Right (tab_cons calls_law06_awake hcalls_law06_awake (tab_nil)))
end Go.Proofs.Ytmokhopjnjecbab
/- The functions' bodies, compiled; printed by a program of mine (gen.py); that they are is checked here. -/
namespace Go.Proofs.Ytmokhopjnjecbab
open Go.Ev
set_option maxRecDepth 100000

/-- pedlar/event.put: parameters [83, 42, 3], results [], calls codec_Out_Num, codec_Out_Bool, event_put -/
def c_event_put : Cd := (.seq (.reg [⟨(some 4), none, .box, [.t 1]⟩]) (.seq (.reg [⟨(some 7), none, .mv, [.t 0]⟩, ⟨(some 8), none, (.fa 0), [.t 4]⟩, ⟨(some 9), none, .ld1, [.t 8]⟩, ⟨(some 10), none, (.call F_codec_Out_Num 2), [.t 7, .t 9]⟩]) (.seq (.reg [⟨(some 11), none, (.fa 1), [.t 4]⟩, ⟨(some 12), none, .ld1, [.t 11]⟩, ⟨(some 13), none, .len, [.t 12]⟩, ⟨(some 14), none, (.bin .eql), [.t 13, .c (.int .i64 2)]⟩, ⟨(some 15), none, .mv, [.t 14]⟩, ⟨(some 16), (some (15, true)), .mv, [.t 2]⟩, ⟨(some 17), (some (15, true)), (.bin .gtr), [.t 16, .c (.int .i64 1)]⟩, ⟨(some 18), none, .pick, [.t 15, .t 17, .c (.bool false)]⟩, ⟨(some 6), none, .mv, [.t 18]⟩]) (.seq (.reg [⟨(some 19), none, .mv, [.t 0]⟩, ⟨(some 20), none, .mv, [.t 6]⟩, ⟨(some 21), none, (.call F_codec_Out_Bool 2), [.t 19, .t 20]⟩]) (.seq (.reg [⟨(some 22), none, .mv, [.t 6]⟩]) (.cond (.t 22) (.seq (.reg [⟨(some 23), none, .mv, [.t 0]⟩, ⟨(some 24), none, (.fa 1), [.t 4]⟩, ⟨(some 25), none, .ld1, [.t 24]⟩, ⟨(some 26), none, (.ixS 2), [.t 25, .c (.int .i64 0)]⟩, ⟨(some 27), none, (.ldn 2), [.t 26]⟩, ⟨(some 28), none, .mv, [.t 2]⟩, ⟨(some 29), none, (.bin .sub), [.t 28, .c (.int .i64 1)]⟩, ⟨(some 30), none, (.call F_event_put 2), [.t 23, .t 27, .t 29]⟩]) (.reg [⟨(some 31), none, .mv, [.t 0]⟩, ⟨(some 32), none, (.fa 1), [.t 4]⟩, ⟨(some 33), none, .ld1, [.t 32]⟩, ⟨(some 34), none, (.ixS 2), [.t 33, .c (.int .i64 1)]⟩, ⟨(some 35), none, (.ldn 2), [.t 34]⟩, ⟨(some 36), none, .mv, [.t 2]⟩, ⟨(some 37), none, (.bin .sub), [.t 36, .c (.int .i64 1)]⟩, ⟨(some 38), none, (.call F_event_put 2), [.t 31, .t 35, .t 37]⟩])) .skip))))))
theorem comp_event_put : compF Try.prog (mset [] [] []) (cset [] [F_event_put, F_codec_Out_Num, F_codec_Out_Bool] []) (wset [] []) Try.f129 = some c_event_put := by kernel_rfl
theorem ok_event_put : fnOk Try.prog F_event_put = true := by kernel_rfl
theorem calls_event_put {args : List AV} {r : AV} (h : RunsX Try.prog 0 (Gives [] r) [.c c_event_put] (args ++ List.replicate (39 - args.length) (.tup [])) [] zeroC) : PCalls Try.prog F_event_put args r :=
  pcallsF Try.checked.mixed Try.func129 ok_event_put comp_event_put rfl (rs := []) (by kernel_rfl) h
theorem hcalls_event_put {args : List AV} {Hin Hout : Heap} {nx nx2 : Ctr} {r : AV} (φ : Nat) (ks : List (Nat × Nat)) (h : RunsX Try.prog φ (GivesH ks [] r Hout nx2) [.c c_event_put] (args ++ List.replicate (39 - args.length) (.tup [])) Hin nx) : HCalls Try.prog F_event_put args Hin nx r Hout nx2 :=
  hcallsF Try.checked.mixed Try.func129 ok_event_put comp_event_put rfl (rs := []) (by kernel_rfl) φ ks h

/-- pedlar/event.Put: parameters [83, 42], results [], calls event_put -/
def c_event_Put : Cd := (.seq (.reg [⟨(some 3), none, .box, [.t 1]⟩]) (.reg [⟨(some 4), none, .mv, [.t 0]⟩, ⟨(some 5), none, (.ldn 2), [.t 3]⟩, ⟨(some 6), none, (.call F_event_put 2), [.t 4, .t 5, .c (.int .i64 8)]⟩]))
theorem comp_event_Put : compF Try.prog (mset [] [] []) (cset [] [F_event_put] []) (wset [] []) Try.f60 = some c_event_Put := by kernel_rfl
theorem ok_event_Put : fnOk Try.prog F_event_Put = true := by kernel_rfl
theorem calls_event_Put {args : List AV} {r : AV} (h : RunsX Try.prog 0 (Gives [] r) [.c c_event_Put] (args ++ List.replicate (7 - args.length) (.tup [])) [] zeroC) : PCalls Try.prog F_event_Put args r :=
  pcallsF Try.checked.mixed Try.func60 ok_event_Put comp_event_Put rfl (rs := []) (by kernel_rfl) h
theorem hcalls_event_Put {args : List AV} {Hin Hout : Heap} {nx nx2 : Ctr} {r : AV} (φ : Nat) (ks : List (Nat × Nat)) (h : RunsX Try.prog φ (GivesH ks [] r Hout nx2) [.c c_event_Put] (args ++ List.replicate (7 - args.length) (.tup [])) Hin nx) : HCalls Try.prog F_event_Put args Hin nx r Hout nx2 :=
  hcallsF Try.checked.mixed Try.func60 ok_event_Put comp_event_Put rfl (rs := []) (by kernel_rfl) φ ks h

/-- pedlar/event.get: parameters [77, 3], results [.cn 4 2], calls codec_In_Num, codec_In_Bool, event_get -/
def c_event_get : Cd := (.seq (.reg [⟨(some 4), none, (.new [(.int .i64 0), .nils] 4), []⟩]) (.seq (.reg [⟨(some 6), none, .mv, [.t 0]⟩, ⟨(some 7), none, (.call F_codec_In_Num 2), [.t 6]⟩, ⟨(some 8), none, (.bld [(.int .i64 0), .nils] [(0, 1)]), [.t 7]⟩, ⟨(some 5), none, (.new [(.int .i64 0), .nils] 5), []⟩, ⟨none, none, (.st 2), [.t 5, .t 8]⟩]) (.seq (.seq (.reg [⟨(some 9), none, .mv, [.t 0]⟩, ⟨(some 10), none, (.call F_codec_In_Bool 2), [.t 9]⟩, ⟨(some 11), none, .mv, [.t 10]⟩, ⟨(some 12), (some (11, true)), .mv, [.t 1]⟩, ⟨(some 13), (some (11, true)), (.bin .gtr), [.t 12, .c (.int .i64 0)]⟩, ⟨(some 14), none, .pick, [.t 11, .t 13, .c (.bool false)]⟩]) (.cond (.t 14) (.reg [⟨(some 15), none, .mv, [.t 0]⟩, ⟨(some 16), none, .mv, [.t 1]⟩, ⟨(some 17), none, (.bin .sub), [.t 16, .c (.int .i64 1)]⟩, ⟨(some 18), none, (.call F_event_get 2), [.t 15, .t 17]⟩, ⟨(some 19), none, .mv, [.t 0]⟩, ⟨(some 20), none, .mv, [.t 1]⟩, ⟨(some 21), none, (.bin .sub), [.t 20, .c (.int .i64 1)]⟩, ⟨(some 22), none, (.call F_event_get 2), [.t 19, .t 21]⟩, ⟨(some 23), none, (.lit 2 2), [.t 18, .t 22]⟩, ⟨(some 24), none, (.fa 1), [.t 5]⟩, ⟨none, none, (.st 1), [.t 24, .t 23]⟩]) .skip)) (.seq (.reg [⟨(some 25), none, (.ldn 2), [.t 5]⟩, ⟨none, none, (.st 2), [.t 4, .t 25]⟩]) .ret))))
theorem comp_event_get : compF Try.prog (mset [] [] []) (cset [] [F_event_get, F_codec_In_Num, F_codec_In_Bool] []) (wset [] []) Try.f128 = some c_event_get := by kernel_rfl
theorem ok_event_get : fnOk Try.prog F_event_get = true := by kernel_rfl
theorem calls_event_get {args : List AV} {r : AV} (h : RunsX Try.prog 0 (Gives [.cn 4 2] r) [.c c_event_get] (args ++ List.replicate (26 - args.length) (.tup [])) [] zeroC) : PCalls Try.prog F_event_get args r :=
  pcallsF Try.checked.mixed Try.func128 ok_event_get comp_event_get rfl (rs := [.cn 4 2]) (by kernel_rfl) h
theorem hcalls_event_get {args : List AV} {Hin Hout : Heap} {nx nx2 : Ctr} {r : AV} (φ : Nat) (ks : List (Nat × Nat)) (h : RunsX Try.prog φ (GivesH ks [.cn 4 2] r Hout nx2) [.c c_event_get] (args ++ List.replicate (26 - args.length) (.tup [])) Hin nx) : HCalls Try.prog F_event_get args Hin nx r Hout nx2 :=
  hcallsF Try.checked.mixed Try.func128 ok_event_get comp_event_get rfl (rs := [.cn 4 2]) (by kernel_rfl) φ ks h

/-- pedlar/event.Get: parameters [77], results [.cn 2 2, .t 3], calls event_get, codec_In_Bad, event_Right -/
def c_event_Get : Cd := (.seq (.reg [⟨(some 2), none, (.new [(.int .i64 0), .nils] 2), []⟩, ⟨(some 3), none, .mv, [.c (.bool false)]⟩]) (.seq (.reg [⟨(some 5), none, .mv, [.t 0]⟩, ⟨(some 6), none, (.call F_event_get 2), [.t 5, .c (.int .i64 8)]⟩, ⟨(some 4), none, (.new [(.int .i64 0), .nils] 4), []⟩, ⟨none, none, (.st 2), [.t 4, .t 6]⟩]) (.seq (.seq (.reg [⟨(some 7), none, .mv, [.t 0]⟩, ⟨(some 8), none, (.call F_codec_In_Bad 2), [.t 7]⟩, ⟨(some 9), none, .mv, [.t 8]⟩, ⟨(some 10), (some (9, false)), (.ldn 2), [.t 4]⟩, ⟨(some 11), (some (9, false)), (.call F_event_Right 0), [.t 10]⟩, ⟨(some 12), (some (9, false)), .not, [.t 11]⟩, ⟨(some 13), none, .pick, [.t 9, .c (.bool true), .t 12]⟩]) (.cond (.t 13) (.seq (.reg [⟨(some 14), none, (.bld [(.int .i64 0), .nils] []), []⟩, ⟨none, none, (.st 2), [.t 2, .t 14]⟩, ⟨(some 3), none, .mv, [.c (.bool false)]⟩]) .ret) .skip)) (.seq (.reg [⟨(some 15), none, (.ldn 2), [.t 4]⟩, ⟨(some 16), none, .mv, [.t 0]⟩, ⟨(some 17), none, (.eqp true), [.t 16, .c .nilp]⟩, ⟨none, none, (.st 2), [.t 2, .t 15]⟩, ⟨(some 3), none, .mv, [.t 17]⟩]) .ret))))
theorem comp_event_Get : compF Try.prog (mset [] [] []) (cset [] [F_event_get, F_codec_In_Bad] []) (wset [] []) Try.f59 = some c_event_Get := by kernel_rfl
theorem ok_event_Get : fnOk Try.prog F_event_Get = true := by kernel_rfl
theorem calls_event_Get {args : List AV} {r : AV} (h : RunsX Try.prog 0 (Gives [.cn 2 2, .t 3] r) [.c c_event_Get] (args ++ List.replicate (18 - args.length) (.tup [])) [] zeroC) : PCalls Try.prog F_event_Get args r :=
  pcallsF Try.checked.mixed Try.func59 ok_event_Get comp_event_Get rfl (rs := [.cn 2 2, .t 3]) (by kernel_rfl) h
theorem hcalls_event_Get {args : List AV} {Hin Hout : Heap} {nx nx2 : Ctr} {r : AV} (φ : Nat) (ks : List (Nat × Nat)) (h : RunsX Try.prog φ (GivesH ks [.cn 2 2, .t 3] r Hout nx2) [.c c_event_Get] (args ++ List.replicate (18 - args.length) (.tup [])) Hin nx) : HCalls Try.prog F_event_Get args Hin nx r Hout nx2 :=
  hcallsF Try.checked.mixed Try.func59 ok_event_Get comp_event_Get rfl (rs := [.cn 2 2, .t 3]) (by kernel_rfl) φ ks h

/-- pedlar/pedlarlaw05.EventBytes: parameters [42, 76], results [.t 4], calls law05_awake, law05_Few, codec_NewIn, event_Get, ref04_ERight, event_Put, codec_Out_End, codec_In_Done, ref04_ESame -/
def c_law05_EventBytes : Cd := (.seq (.reg [⟨(some 2), none, .box, [.t 0]⟩, ⟨(some 4), none, .mv, [.c (.bool false)]⟩]) (.seq (.seq (.reg [⟨(some 13), none, (.call F_law05_awake 0), []⟩, ⟨(some 14), none, .not, [.t 13]⟩, ⟨(some 15), none, .mv, [.t 14]⟩, ⟨(some 16), (some (15, false)), (.ldn 2), [.t 2]⟩, ⟨(some 17), (some (15, false)), (.call F_law05_Few 0), [.t 16, .c (.int .i64 30)]⟩, ⟨(some 18), (some (15, false)), .not, [.t 17]⟩, ⟨(some 19), none, .pick, [.t 15, .c (.bool true), .t 18]⟩, ⟨(some 20), none, .mv, [.t 19]⟩, ⟨(some 21), (some (20, false)), .mv, [.t 1]⟩, ⟨(some 22), (some (20, false)), .len, [.t 21]⟩, ⟨(some 23), (some (20, false)), (.bin .gtr), [.t 22, .c (.int .i64 500)]⟩, ⟨(some 24), none, .pick, [.t 20, .c (.bool true), .t 23]⟩]) (.cond (.t 24) (.seq (.reg [⟨(some 25), none, (.call F_law05_awake 0), []⟩, ⟨(some 4), none, .mv, [.t 25]⟩]) .ret) .skip)) (.seq (.reg [⟨(some 27), none, .mv, [.t 1]⟩, ⟨(some 28), none, (.call F_codec_NewIn 2), [.t 27]⟩, ⟨(some 29), none, (.call F_event_Get 2), [.t 28]⟩, ⟨(some 26), none, .mv, [.t 29]⟩, ⟨(some 30), none, (.ext 0), [.t 26]⟩, ⟨(some 31), none, (.ext 1), [.t 26]⟩, ⟨(some 5), none, (.new [(.int .i64 0), .nils] 5), []⟩, ⟨none, none, (.st 2), [.t 5, .t 30]⟩, ⟨(some 6), none, .mv, [.t 31]⟩]) (.seq (.seq (.reg [⟨(some 32), none, .mv, [.t 6]⟩, ⟨(some 33), none, .mv, [.t 32]⟩, ⟨(some 34), (some (33, true)), (.ldn 2), [.t 5]⟩, ⟨(some 35), (some (33, true)), (.call F_ref04_ERight 0), [.t 34]⟩, ⟨(some 36), (some (33, true)), .not, [.t 35]⟩, ⟨(some 37), none, .pick, [.t 33, .t 36, .c (.bool false)]⟩, ⟨(some 38), none, .mv, [.t 37]⟩, ⟨(some 39), (some (38, false)), .mv, [.t 6]⟩, ⟨(some 40), (some (38, false)), .not, [.t 39]⟩, ⟨(some 41), (some (38, false)), .mv, [.t 40]⟩, ⟨(some 42), (some (41, true)), (.fa 0), [.t 5]⟩, ⟨(some 43), (some (41, true)), .ld1, [.t 42]⟩, ⟨(some 44), (some (41, true)), (.bin .neq), [.t 43, .c (.int .i64 0)]⟩, ⟨(some 45), (some (41, true)), .mv, [.t 44]⟩, ⟨(some 46), (some (45, false)), (.fa 1), [.t 5]⟩, ⟨(some 47), (some (45, false)), .ld1, [.t 46]⟩, ⟨(some 48), (some (45, false)), .len, [.t 47]⟩, ⟨(some 49), (some (45, false)), (.bin .neq), [.t 48, .c (.int .i64 0)]⟩, ⟨(some 50), (some (41, true)), .pick, [.t 45, .c (.bool true), .t 49]⟩, ⟨(some 51), (some (38, false)), .pick, [.t 41, .t 50, .c (.bool false)]⟩, ⟨(some 52), none, .pick, [.t 38, .c (.bool true), .t 51]⟩]) (.cond (.t 52) (.seq (.reg [⟨(some 4), none, .mv, [.c (.bool false)]⟩]) .ret) .skip)) (.seq (.seq (.reg [⟨(some 53), none, (.ldn 2), [.t 2]⟩, ⟨(some 54), none, (.call F_ref04_ERight 0), [.t 53]⟩, ⟨(some 55), none, .not, [.t 54]⟩]) (.cond (.t 55) (.seq (.reg [⟨(some 4), none, .mv, [.c (.bool true)]⟩]) .ret) .skip)) (.seq (.reg [⟨(some 7), none, (.new [.nils, (.bool false)] 7), []⟩]) (.seq (.reg [⟨(some 56), none, (.ldn 2), [.t 2]⟩, ⟨(some 57), none, (.call F_event_Put 2), [.t 7, .t 56]⟩]) (.seq (.regf [⟨(some 59), none, (.call F_codec_Out_End 2), [.t 7]⟩, ⟨(some 58), none, .mv, [.t 59]⟩, ⟨(some 60), none, (.ext 0), [.t 58]⟩, ⟨(some 61), none, (.ext 1), [.t 58]⟩, ⟨(some 8), none, .mv, [.t 60]⟩, ⟨(some 9), none, .mv, [.t 61]⟩] [8]) (.seq (.reg [⟨(some 62), none, .mv, [.t 8]⟩, ⟨(some 63), none, (.call F_codec_NewIn 2), [.t 62]⟩, ⟨(some 10), none, .mv, [.t 63]⟩]) (.seq (.reg [⟨(some 65), none, .mv, [.t 10]⟩, ⟨(some 66), none, (.call F_event_Get 2), [.t 65]⟩, ⟨(some 64), none, .mv, [.t 66]⟩, ⟨(some 67), none, (.ext 0), [.t 64]⟩, ⟨(some 68), none, (.ext 1), [.t 64]⟩, ⟨(some 11), none, (.new [(.int .i64 0), .nils] 11), []⟩, ⟨none, none, (.st 2), [.t 11, .t 67]⟩, ⟨(some 12), none, .mv, [.t 68]⟩]) (.seq (.reg [⟨(some 69), none, .mv, [.t 9]⟩, ⟨(some 70), none, (.bin .eql), [.t 69, .c (.int .i64 0)]⟩, ⟨(some 71), none, .mv, [.t 70]⟩, ⟨(some 72), (some (71, true)), .mv, [.t 12]⟩, ⟨(some 73), none, .pick, [.t 71, .t 72, .c (.bool false)]⟩, ⟨(some 74), none, .mv, [.t 73]⟩, ⟨(some 75), (some (74, true)), .mv, [.t 10]⟩, ⟨(some 76), (some (74, true)), (.call F_codec_In_Done 2), [.t 75]⟩, ⟨(some 77), none, .pick, [.t 74, .t 76, .c (.bool false)]⟩, ⟨(some 78), none, .mv, [.t 77]⟩, ⟨(some 79), (some (78, true)), (.ldn 2), [.t 11]⟩, ⟨(some 80), (some (78, true)), (.ldn 2), [.t 2]⟩, ⟨(some 81), (some (78, true)), (.call F_ref04_ESame 0), [.t 79, .t 80]⟩, ⟨(some 82), none, .pick, [.t 78, .t 81, .c (.bool false)]⟩, ⟨(some 4), none, .mv, [.t 82]⟩]) .ret)))))))))))
theorem comp_law05_EventBytes : compF Try.prog (mset [] [] []) (cset [] [F_codec_NewIn, F_event_Get, F_event_Put, F_codec_Out_End, F_codec_In_Done] []) (wset [] [8]) Try.f9 = some c_law05_EventBytes := by kernel_rfl
theorem ok_law05_EventBytes : fnOk Try.prog F_law05_EventBytes = true := by kernel_rfl
theorem calls_law05_EventBytes {args : List AV} {r : AV} (h : RunsX Try.prog 0 (Gives [.t 4] r) [.c c_law05_EventBytes] (args ++ List.replicate (83 - args.length) (.tup [])) [] zeroC) : PCalls Try.prog F_law05_EventBytes args r :=
  pcallsF Try.checked.mixed Try.func9 ok_law05_EventBytes comp_law05_EventBytes rfl (rs := [.t 4]) (by kernel_rfl) h
theorem hcalls_law05_EventBytes {args : List AV} {Hin Hout : Heap} {nx nx2 : Ctr} {r : AV} (φ : Nat) (ks : List (Nat × Nat)) (h : RunsX Try.prog φ (GivesH ks [.t 4] r Hout nx2) [.c c_law05_EventBytes] (args ++ List.replicate (83 - args.length) (.tup [])) Hin nx) : HCalls Try.prog F_law05_EventBytes args Hin nx r Hout nx2 :=
  hcallsF Try.checked.mixed Try.func9 ok_law05_EventBytes comp_law05_EventBytes rfl (rs := [.t 4]) (by kernel_rfl) φ ks h

def tab_CdEvBytes : List (Nat × Cd × Nat × List RS) := [(F_event_put, c_event_put, 39, []), (F_event_Put, c_event_Put, 7, []), (F_event_get, c_event_get, 26, [.cn 4 2]), (F_event_Get, c_event_Get, 18, [.cn 2 2, .t 3]), (F_law05_EventBytes, c_law05_EventBytes, 83, [.t 4])]
theorem tok_CdEvBytes : TabOk Try.prog (tabOf tab_CdEvBytes) := tab_cons calls_event_put hcalls_event_put (tab_cons calls_event_Put hcalls_event_Put (tab_cons calls_event_get hcalls_event_get (tab_cons calls_event_Get hcalls_event_Get (tab_cons calls_law05_EventBytes hcalls_law05_EventBytes (tab_nil)))))
end Go.Proofs.Ytmokhopjnjecbab
/- The functions' bodies, compiled; printed by a program of mine (gen.py); that they are is checked here. -/
namespace Go.Proofs.Ytmokhopjnjecbab
open Go.Ev
set_option maxRecDepth 100000

/-- pedlar/codec.NewIn: parameters [76], results [.t 2], calls bytes_Clone -/
def c_codec_NewIn : Cd := (.seq (.reg [⟨(some 2), none, .mv, [.c .nilp]⟩]) (.seq (.reg [⟨(some 3), none, .mv, [.t 0]⟩, ⟨(some 4), none, (.call F_bytes_Clone 0), [.t 3]⟩, ⟨(some 5), none, (.bld [.nils, (.bool false)] [(0, 1)]), [.t 4]⟩, ⟨(some 6), none, (.boxm 6), [.t 5]⟩, ⟨(some 2), none, .mv, [.t 6]⟩]) .ret))
theorem comp_codec_NewIn : compF Try.prog (mset [6] [] []) (cset [] [] []) (wset [] []) Try.f48 = some c_codec_NewIn := by kernel_rfl
theorem ok_codec_NewIn : fnOk Try.prog F_codec_NewIn = true := by kernel_rfl
theorem calls_codec_NewIn {args : List AV} {r : AV} (h : RunsX Try.prog 0 (Gives [.t 2] r) [.c c_codec_NewIn] (args ++ List.replicate (7 - args.length) (.tup [])) [] zeroC) : PCalls Try.prog F_codec_NewIn args r :=
  pcallsF Try.checked.mixed Try.func48 ok_codec_NewIn comp_codec_NewIn rfl (rs := [.t 2]) (by kernel_rfl) h
theorem hcalls_codec_NewIn {args : List AV} {Hin Hout : Heap} {nx nx2 : Ctr} {r : AV} (φ : Nat) (ks : List (Nat × Nat)) (h : RunsX Try.prog φ (GivesH ks [.t 2] r Hout nx2) [.c c_codec_NewIn] (args ++ List.replicate (7 - args.length) (.tup [])) Hin nx) : HCalls Try.prog F_codec_NewIn args Hin nx r Hout nx2 :=
  hcallsF Try.checked.mixed Try.func48 ok_codec_NewIn comp_codec_NewIn rfl (rs := [.t 2]) (by kernel_rfl) φ ks h

/-- (*pedlar/codec.In).Num: parameters [77], results [.t 2], calls codec_In_fail -/
def wl_codec_In_Num_0 : Mk := ⟨[false, true, true, false, true, true, true, true, true, true, true, true, true, true, true, true, true, false, false, false, true, true, true, true, true, true, true, true, true, true, true, true, true, true, true, true, true, true, true, true, true, true, true, true, true, true, true, true, true, true, true, true, true, true, true, true, true, true, true, true, true, true], []⟩
abbrev s_codec_In_Num_0 (t0 t3 t17 t18 t19 : AV) : List AV := [t0, .any, .any, t3, .any, .any, .any, .any, .any, .any, .any, .any, .any, .any, .any, .any, .any, t17, t18, t19, .any, .any, .any, .any, .any, .any, .any, .any, .any, .any, .any, .any, .any, .any, .any, .any, .any, .any, .any, .any, .any, .any, .any, .any, .any, .any, .any, .any, .any, .any, .any, .any, .any, .any, .any, .any, .any, .any, .any, .any, .any, .any]
def c_codec_In_Num_l0 : Cd := (.seq (.reg [⟨(some 20), none, (.bin .lss), [.t 19, .t 18]⟩]) (.seq (.cond (.t 20) .skip (.exit 0)) (.seq (.blk 1 [] (.seq (.reg [⟨(some 21), none, .mv, [.t 19]⟩, ⟨(some 22), none, (.ixS 1), [.t 17, .t 19]⟩, ⟨(some 23), none, .ld1, [.t 22]⟩, ⟨(some 4), none, .mv, [.t 21]⟩, ⟨(some 5), none, .mv, [.t 23]⟩]) (.seq (.seq (.reg [⟨(some 24), none, .mv, [.t 4]⟩, ⟨(some 25), none, (.bin .geq), [.t 24, .c (.int .i64 9)]⟩]) (.cond (.t 25) (.exit 0) .skip)) (.seq (.reg [⟨(some 26), none, .mv, [.t 3]⟩, ⟨(some 27), none, .mv, [.t 5]⟩, ⟨(some 28), none, (.bin .andNot), [.t 27, .c (.int .u8 128)]⟩, ⟨(some 29), none, (.conv .u64), [.t 28]⟩, ⟨(some 30), none, .mv, [.t 4]⟩, ⟨(some 31), none, (.bin .mul), [.c (.int .i64 7), .t 30]⟩, ⟨(some 32), none, (.bin .shl), [.t 29, .t 31]⟩, ⟨(some 33), none, (.bin .or), [.t 26, .t 32]⟩, ⟨(some 3), none, .mv, [.t 33]⟩]) (.seq (.seq (.reg [⟨(some 34), none, .mv, [.t 5]⟩, ⟨(some 35), none, (.bin .and), [.t 34, .c (.int .u8 128)]⟩, ⟨(some 36), none, (.bin .neq), [.t 35, .c (.int .u8 0)]⟩]) (.cond (.t 36) (.exit 1) .skip)) (.seq (.seq (.reg [⟨(some 37), none, .mv, [.t 5]⟩, ⟨(some 38), none, (.bin .eql), [.t 37, .c (.int .u8 0)]⟩, ⟨(some 39), none, .mv, [.t 38]⟩, ⟨(some 40), (some (39, true)), .mv, [.t 4]⟩, ⟨(some 41), (some (39, true)), (.bin .gtr), [.t 40, .c (.int .i64 0)]⟩, ⟨(some 42), none, .pick, [.t 39, .t 41, .c (.bool false)]⟩, ⟨(some 43), none, .mv, [.t 42]⟩, ⟨(some 44), (some (43, false)), .mv, [.t 3]⟩, ⟨(some 45), (some (43, false)), (.bin .gtr), [.t 44, .c (.int .u64 9223372036854775807)]⟩, ⟨(some 46), none, .pick, [.t 43, .c (.bool true), .t 45]⟩]) (.cond (.t 46) (.exit 0) .skip)) (.seq (.reg [⟨(some 47), none, .mv, [.t 0]⟩, ⟨(some 48), none, .mv, [.t 0]⟩, ⟨(some 49), none, .nck, [.t 48]⟩, ⟨(some 50), none, (.fa 0), [.t 49]⟩, ⟨(some 51), none, .ld1, [.t 50]⟩, ⟨(some 52), none, .mv, [.t 4]⟩, ⟨(some 53), none, (.bin .add), [.t 52, .c (.int .i64 1)]⟩, ⟨(some 54), none, (.slc 1 true false false), [.t 51, .t 53]⟩, ⟨(some 55), none, .nck, [.t 47]⟩, ⟨(some 56), none, (.fa 0), [.t 55]⟩, ⟨none, none, (.st 1), [.t 56, .t 54]⟩]) (.seq (.reg [⟨(some 57), none, .mv, [.t 3]⟩, ⟨(some 58), none, (.conv .i64), [.t 57]⟩, ⟨(some 2), none, .mv, [.t 58]⟩]) .ret)))))))) (.reg [⟨(some 59), none, (.bin .add), [.t 19, .c (.int .i64 1)]⟩, ⟨(some 19), none, .mv, [.t 59]⟩]))))
def wb_codec_In_Num_0 : List Bool := [false, true, true, true, true, true, true, true, true, true, true, true, true, true, true, true, true, true, true, true, true, true, true, true, true, true, true, true, true, true, true, true, true, true, true, true, true, true, true, true, true, true, true, true, true, true, true, true, true, true, true, true, true, true, true, true, true, true, true, true, true, true]
abbrev e_codec_In_Num_0 (t0 : AV) : List AV := [t0, .any, .any, .any, .any, .any, .any, .any, .any, .any, .any, .any, .any, .any, .any, .any, .any, .any, .any, .any, .any, .any, .any, .any, .any, .any, .any, .any, .any, .any, .any, .any, .any, .any, .any, .any, .any, .any, .any, .any, .any, .any, .any, .any, .any, .any, .any, .any, .any, .any, .any, .any, .any, .any, .any, .any, .any, .any, .any, .any, .any, .any]
abbrev i_codec_In_Num_0 : List It := [.lp wl_codec_In_Num_0 c_codec_In_Num_l0, .blk 0 wb_codec_In_Num_0]
def c_codec_In_Num_k0 : Cd := (.seq (.reg [⟨(some 60), none, .mv, [.t 0]⟩, ⟨(some 61), none, (.call F_codec_In_fail 2), [.t 60]⟩, ⟨(some 2), none, .mv, [.t 61]⟩]) .ret)
def c_codec_In_Num : Cd := (.seq (.reg [⟨(some 2), none, .mv, [.c (.int .i64 0)]⟩]) (.seq (.seq (.reg [⟨(some 6), none, .mv, [.t 0]⟩, ⟨(some 7), none, (.eqp false), [.t 6, .c .nilp]⟩, ⟨(some 8), none, .mv, [.t 7]⟩, ⟨(some 9), (some (8, false)), .mv, [.t 0]⟩, ⟨(some 10), (some (8, false)), .nck, [.t 9]⟩, ⟨(some 11), (some (8, false)), (.fa 1), [.t 10]⟩, ⟨(some 12), (some (8, false)), .ld1, [.t 11]⟩, ⟨(some 13), none, .pick, [.t 8, .c (.bool true), .t 12]⟩]) (.cond (.t 13) (.seq (.reg [⟨(some 2), none, .mv, [.c (.int .i64 0)]⟩]) .ret) .skip)) (.seq (.reg [⟨(some 3), none, .mv, [.c (.int .u64 0)]⟩]) (.seq (.seq (.reg [⟨(some 14), none, .mv, [.t 0]⟩, ⟨(some 15), none, .nck, [.t 14]⟩, ⟨(some 16), none, (.fa 0), [.t 15]⟩, ⟨(some 17), none, .ld1, [.t 16]⟩, ⟨(some 18), none, .len, [.t 17]⟩, ⟨(some 19), none, .mv, [.c (.int .i64 0)]⟩]) (.blk 0 wb_codec_In_Num_0 (.loop wl_codec_In_Num_0 c_codec_In_Num_l0))) c_codec_In_Num_k0))))
theorem comp_codec_In_Num : compF Try.prog (mset [] [] []) (cset [] [F_codec_In_fail] []) (wset [(0, wl_codec_In_Num_0, wb_codec_In_Num_0)] []) Try.f156 = some c_codec_In_Num := by kernel_rfl
theorem ok_codec_In_Num : fnOk Try.prog F_codec_In_Num = true := by kernel_rfl
theorem calls_codec_In_Num {args : List AV} {r : AV} (h : RunsX Try.prog 0 (Gives [.t 2] r) [.c c_codec_In_Num] (args ++ List.replicate (62 - args.length) (.tup [])) [] zeroC) : PCalls Try.prog F_codec_In_Num args r :=
  pcallsF Try.checked.mixed Try.func156 ok_codec_In_Num comp_codec_In_Num rfl (rs := [.t 2]) (by kernel_rfl) h
theorem hcalls_codec_In_Num {args : List AV} {Hin Hout : Heap} {nx nx2 : Ctr} {r : AV} (φ : Nat) (ks : List (Nat × Nat)) (h : RunsX Try.prog φ (GivesH ks [.t 2] r Hout nx2) [.c c_codec_In_Num] (args ++ List.replicate (62 - args.length) (.tup [])) Hin nx) : HCalls Try.prog F_codec_In_Num args Hin nx r Hout nx2 :=
  hcallsF Try.checked.mixed Try.func156 ok_codec_In_Num comp_codec_In_Num rfl (rs := [.t 2]) (by kernel_rfl) φ ks h

/-- (*pedlar/codec.In).Text: parameters [77], results [.t 2], calls codec_In_Num, codec_In_fail -/
def c_codec_In_Text : Cd := (.seq (.reg [⟨(some 2), none, .mv, [.c (.str ⟨#[]⟩)]⟩]) (.seq (.reg [⟨(some 5), none, .mv, [.t 0]⟩, ⟨(some 6), none, (.call F_codec_In_Num 2), [.t 5]⟩, ⟨(some 3), none, .mv, [.t 6]⟩]) (.seq (.seq (.reg [⟨(some 7), none, .mv, [.t 0]⟩, ⟨(some 8), none, (.eqp false), [.t 7, .c .nilp]⟩, ⟨(some 9), none, .mv, [.t 8]⟩, ⟨(some 10), (some (9, false)), .mv, [.t 0]⟩, ⟨(some 11), (some (9, false)), .nck, [.t 10]⟩, ⟨(some 12), (some (9, false)), (.fa 1), [.t 11]⟩, ⟨(some 13), (some (9, false)), .ld1, [.t 12]⟩, ⟨(some 14), none, .pick, [.t 9, .c (.bool true), .t 13]⟩]) (.cond (.t 14) (.seq (.reg [⟨(some 2), none, .mv, [.c (.str ⟨#[]⟩)]⟩]) .ret) .skip)) (.seq (.seq (.reg [⟨(some 15), none, .mv, [.t 3]⟩, ⟨(some 16), none, .mv, [.t 0]⟩, ⟨(some 17), none, .nck, [.t 16]⟩, ⟨(some 18), none, (.fa 0), [.t 17]⟩, ⟨(some 19), none, .ld1, [.t 18]⟩, ⟨(some 20), none, .len, [.t 19]⟩, ⟨(some 21), none, (.bin .gtr), [.t 15, .t 20]⟩]) (.cond (.t 21) (.seq (.reg [⟨(some 22), none, .mv, [.t 0]⟩, ⟨(some 23), none, (.call F_codec_In_fail 2), [.t 22]⟩]) (.seq (.reg [⟨(some 2), none, .mv, [.c (.str ⟨#[]⟩)]⟩]) .ret)) .skip)) (.seq (.reg [⟨(some 24), none, .mv, [.t 0]⟩, ⟨(some 25), none, .nck, [.t 24]⟩, ⟨(some 26), none, (.fa 0), [.t 25]⟩, ⟨(some 27), none, .ld1, [.t 26]⟩, ⟨(some 28), none, .mv, [.t 3]⟩, ⟨(some 29), none, (.slc 1 false true false), [.t 27, .t 28]⟩, ⟨(some 30), none, .b2s, [.t 29]⟩, ⟨(some 4), none, .mv, [.t 30]⟩]) (.seq (.reg [⟨(some 31), none, .mv, [.t 0]⟩, ⟨(some 32), none, .mv, [.t 0]⟩, ⟨(some 33), none, .nck, [.t 32]⟩, ⟨(some 34), none, (.fa 0), [.t 33]⟩, ⟨(some 35), none, .ld1, [.t 34]⟩, ⟨(some 36), none, .mv, [.t 3]⟩, ⟨(some 37), none, (.slc 1 true false false), [.t 35, .t 36]⟩, ⟨(some 38), none, .nck, [.t 31]⟩, ⟨(some 39), none, (.fa 0), [.t 38]⟩, ⟨none, none, (.st 1), [.t 39, .t 37]⟩]) (.seq (.reg [⟨(some 40), none, .mv, [.t 4]⟩, ⟨(some 2), none, .mv, [.t 40]⟩]) .ret)))))))
theorem comp_codec_In_Text : compF Try.prog (mset [] [] []) (cset [] [F_codec_In_Num, F_codec_In_fail] []) (wset [] []) Try.f157 = some c_codec_In_Text := by kernel_rfl
theorem ok_codec_In_Text : fnOk Try.prog F_codec_In_Text = true := by kernel_rfl
theorem calls_codec_In_Text {args : List AV} {r : AV} (h : RunsX Try.prog 0 (Gives [.t 2] r) [.c c_codec_In_Text] (args ++ List.replicate (41 - args.length) (.tup [])) [] zeroC) : PCalls Try.prog F_codec_In_Text args r :=
  pcallsF Try.checked.mixed Try.func157 ok_codec_In_Text comp_codec_In_Text rfl (rs := [.t 2]) (by kernel_rfl) h
theorem hcalls_codec_In_Text {args : List AV} {Hin Hout : Heap} {nx nx2 : Ctr} {r : AV} (φ : Nat) (ks : List (Nat × Nat)) (h : RunsX Try.prog φ (GivesH ks [.t 2] r Hout nx2) [.c c_codec_In_Text] (args ++ List.replicate (41 - args.length) (.tup [])) Hin nx) : HCalls Try.prog F_codec_In_Text args Hin nx r Hout nx2 :=
  hcallsF Try.checked.mixed Try.func157 ok_codec_In_Text comp_codec_In_Text rfl (rs := [.t 2]) (by kernel_rfl) φ ks h

/-- (*pedlar/codec.In).Bool: parameters [77], results [.t 2], calls codec_In_Count -/
def c_codec_In_Bool : Cd := (.seq (.reg [⟨(some 2), none, .mv, [.c (.bool false)]⟩]) (.seq (.reg [⟨(some 3), none, .mv, [.t 0]⟩, ⟨(some 4), none, (.call F_codec_In_Count 2), [.t 3, .c (.int .i64 1)]⟩, ⟨(some 5), none, (.bin .eql), [.t 4, .c (.int .i64 1)]⟩, ⟨(some 2), none, .mv, [.t 5]⟩]) .ret))
theorem comp_codec_In_Bool : compF Try.prog (mset [] [] []) (cset [] [F_codec_In_Count] []) (wset [] []) Try.f158 = some c_codec_In_Bool := by kernel_rfl
theorem ok_codec_In_Bool : fnOk Try.prog F_codec_In_Bool = true := by kernel_rfl
theorem calls_codec_In_Bool {args : List AV} {r : AV} (h : RunsX Try.prog 0 (Gives [.t 2] r) [.c c_codec_In_Bool] (args ++ List.replicate (6 - args.length) (.tup [])) [] zeroC) : PCalls Try.prog F_codec_In_Bool args r :=
  pcallsF Try.checked.mixed Try.func158 ok_codec_In_Bool comp_codec_In_Bool rfl (rs := [.t 2]) (by kernel_rfl) h
theorem hcalls_codec_In_Bool {args : List AV} {Hin Hout : Heap} {nx nx2 : Ctr} {r : AV} (φ : Nat) (ks : List (Nat × Nat)) (h : RunsX Try.prog φ (GivesH ks [.t 2] r Hout nx2) [.c c_codec_In_Bool] (args ++ List.replicate (6 - args.length) (.tup [])) Hin nx) : HCalls Try.prog F_codec_In_Bool args Hin nx r Hout nx2 :=
  hcallsF Try.checked.mixed Try.func158 ok_codec_In_Bool comp_codec_In_Bool rfl (rs := [.t 2]) (by kernel_rfl) φ ks h

/-- (*pedlar/codec.In).Count: parameters [77, 3], results [.t 4], calls codec_In_Num, codec_In_fail -/
def c_codec_In_Count : Cd := (.seq (.reg [⟨(some 4), none, .mv, [.c (.int .i64 0)]⟩]) (.seq (.reg [⟨(some 6), none, .mv, [.t 0]⟩, ⟨(some 7), none, (.call F_codec_In_Num 2), [.t 6]⟩, ⟨(some 5), none, .mv, [.t 7]⟩]) (.seq (.seq (.reg [⟨(some 8), none, .mv, [.t 0]⟩, ⟨(some 9), none, (.eqp false), [.t 8, .c .nilp]⟩]) (.cond (.t 9) (.seq (.reg [⟨(some 4), none, .mv, [.c (.int .i64 0)]⟩]) .ret) .skip)) (.seq (.seq (.reg [⟨(some 10), none, .mv, [.t 5]⟩, ⟨(some 11), none, .mv, [.t 1]⟩, ⟨(some 12), none, (.bin .gtr), [.t 10, .t 11]⟩, ⟨(some 13), none, .mv, [.t 12]⟩, ⟨(some 14), (some (13, false)), .mv, [.t 1]⟩, ⟨(some 15), (some (13, false)), (.bin .lss), [.t 14, .c (.int .i64 0)]⟩, ⟨(some 16), none, .pick, [.t 13, .c (.bool true), .t 15]⟩]) (.cond (.t 16) (.seq (.reg [⟨(some 17), none, .mv, [.t 0]⟩, ⟨(some 18), none, (.call F_codec_In_fail 2), [.t 17]⟩]) (.seq (.reg [⟨(some 4), none, .mv, [.c (.int .i64 0)]⟩]) .ret)) .skip)) (.seq (.reg [⟨(some 19), none, .mv, [.t 5]⟩, ⟨(some 4), none, .mv, [.t 19]⟩]) .ret)))))
theorem comp_codec_In_Count : compF Try.prog (mset [] [] []) (cset [] [F_codec_In_Num, F_codec_In_fail] []) (wset [] []) Try.f155 = some c_codec_In_Count := by kernel_rfl
theorem ok_codec_In_Count : fnOk Try.prog F_codec_In_Count = true := by kernel_rfl
theorem calls_codec_In_Count {args : List AV} {r : AV} (h : RunsX Try.prog 0 (Gives [.t 4] r) [.c c_codec_In_Count] (args ++ List.replicate (20 - args.length) (.tup [])) [] zeroC) : PCalls Try.prog F_codec_In_Count args r :=
  pcallsF Try.checked.mixed Try.func155 ok_codec_In_Count comp_codec_In_Count rfl (rs := [.t 4]) (by kernel_rfl) h
theorem hcalls_codec_In_Count {args : List AV} {Hin Hout : Heap} {nx nx2 : Ctr} {r : AV} (φ : Nat) (ks : List (Nat × Nat)) (h : RunsX Try.prog φ (GivesH ks [.t 4] r Hout nx2) [.c c_codec_In_Count] (args ++ List.replicate (20 - args.length) (.tup [])) Hin nx) : HCalls Try.prog F_codec_In_Count args Hin nx r Hout nx2 :=
  hcallsF Try.checked.mixed Try.func155 ok_codec_In_Count comp_codec_In_Count rfl (rs := [.t 4]) (by kernel_rfl) φ ks h

/-- (*pedlar/codec.In).Bad: parameters [77], results [.t 2], calls  -/
def c_codec_In_Bad : Cd := (.seq (.reg [⟨(some 2), none, .mv, [.c (.bool false)]⟩]) (.seq (.reg [⟨(some 3), none, .mv, [.t 0]⟩, ⟨(some 4), none, (.eqp true), [.t 3, .c .nilp]⟩, ⟨(some 5), none, .mv, [.t 4]⟩, ⟨(some 6), (some (5, true)), .mv, [.t 0]⟩, ⟨(some 7), (some (5, true)), .nck, [.t 6]⟩, ⟨(some 8), (some (5, true)), (.fa 1), [.t 7]⟩, ⟨(some 9), (some (5, true)), .ld1, [.t 8]⟩, ⟨(some 10), none, .pick, [.t 5, .t 9, .c (.bool false)]⟩, ⟨(some 2), none, .mv, [.t 10]⟩]) .ret))
theorem comp_codec_In_Bad : compF Try.prog (mset [] [] []) (cset [] [] []) (wset [] []) Try.f50 = some c_codec_In_Bad := by kernel_rfl
theorem ok_codec_In_Bad : fnOk Try.prog F_codec_In_Bad = true := by kernel_rfl
theorem calls_codec_In_Bad {args : List AV} {r : AV} (h : RunsX Try.prog 0 (Gives [.t 2] r) [.c c_codec_In_Bad] (args ++ List.replicate (11 - args.length) (.tup [])) [] zeroC) : PCalls Try.prog F_codec_In_Bad args r :=
  pcallsF Try.checked.mixed Try.func50 ok_codec_In_Bad comp_codec_In_Bad rfl (rs := [.t 2]) (by kernel_rfl) h
theorem hcalls_codec_In_Bad {args : List AV} {Hin Hout : Heap} {nx nx2 : Ctr} {r : AV} (φ : Nat) (ks : List (Nat × Nat)) (h : RunsX Try.prog φ (GivesH ks [.t 2] r Hout nx2) [.c c_codec_In_Bad] (args ++ List.replicate (11 - args.length) (.tup [])) Hin nx) : HCalls Try.prog F_codec_In_Bad args Hin nx r Hout nx2 :=
  hcallsF Try.checked.mixed Try.func50 ok_codec_In_Bad comp_codec_In_Bad rfl (rs := [.t 2]) (by kernel_rfl) φ ks h

/-- (*pedlar/codec.In).Left: parameters [77], results [.t 2], calls  -/
def c_codec_In_Left : Cd := (.seq (.reg [⟨(some 2), none, .mv, [.c (.int .i64 0)]⟩]) (.seq (.seq (.reg [⟨(some 3), none, .mv, [.t 0]⟩, ⟨(some 4), none, (.eqp false), [.t 3, .c .nilp]⟩]) (.cond (.t 4) (.seq (.reg [⟨(some 2), none, .mv, [.c (.int .i64 0)]⟩]) .ret) .skip)) (.seq (.reg [⟨(some 5), none, .mv, [.t 0]⟩, ⟨(some 6), none, .nck, [.t 5]⟩, ⟨(some 7), none, (.fa 0), [.t 6]⟩, ⟨(some 8), none, .ld1, [.t 7]⟩, ⟨(some 9), none, .len, [.t 8]⟩, ⟨(some 2), none, .mv, [.t 9]⟩]) .ret)))
theorem comp_codec_In_Left : compF Try.prog (mset [] [] []) (cset [] [] []) (wset [] []) Try.f114 = some c_codec_In_Left := by kernel_rfl
theorem ok_codec_In_Left : fnOk Try.prog F_codec_In_Left = true := by kernel_rfl
theorem calls_codec_In_Left {args : List AV} {r : AV} (h : RunsX Try.prog 0 (Gives [.t 2] r) [.c c_codec_In_Left] (args ++ List.replicate (10 - args.length) (.tup [])) [] zeroC) : PCalls Try.prog F_codec_In_Left args r :=
  pcallsF Try.checked.mixed Try.func114 ok_codec_In_Left comp_codec_In_Left rfl (rs := [.t 2]) (by kernel_rfl) h
theorem hcalls_codec_In_Left {args : List AV} {Hin Hout : Heap} {nx nx2 : Ctr} {r : AV} (φ : Nat) (ks : List (Nat × Nat)) (h : RunsX Try.prog φ (GivesH ks [.t 2] r Hout nx2) [.c c_codec_In_Left] (args ++ List.replicate (10 - args.length) (.tup [])) Hin nx) : HCalls Try.prog F_codec_In_Left args Hin nx r Hout nx2 :=
  hcallsF Try.checked.mixed Try.func114 ok_codec_In_Left comp_codec_In_Left rfl (rs := [.t 2]) (by kernel_rfl) φ ks h

/-- (*pedlar/codec.In).Done: parameters [77], results [.t 2], calls  -/
def c_codec_In_Done : Cd := (.seq (.reg [⟨(some 2), none, .mv, [.c (.bool false)]⟩]) (.seq (.reg [⟨(some 3), none, .mv, [.t 0]⟩, ⟨(some 4), none, (.eqp true), [.t 3, .c .nilp]⟩, ⟨(some 5), none, .mv, [.t 4]⟩, ⟨(some 6), (some (5, true)), .mv, [.t 0]⟩, ⟨(some 7), (some (5, true)), .nck, [.t 6]⟩, ⟨(some 8), (some (5, true)), (.fa 1), [.t 7]⟩, ⟨(some 9), (some (5, true)), .ld1, [.t 8]⟩, ⟨(some 10), (some (5, true)), .not, [.t 9]⟩, ⟨(some 11), none, .pick, [.t 5, .t 10, .c (.bool false)]⟩, ⟨(some 12), none, .mv, [.t 11]⟩, ⟨(some 13), (some (12, true)), .mv, [.t 0]⟩, ⟨(some 14), (some (12, true)), .nck, [.t 13]⟩, ⟨(some 15), (some (12, true)), (.fa 0), [.t 14]⟩, ⟨(some 16), (some (12, true)), .ld1, [.t 15]⟩, ⟨(some 17), (some (12, true)), .len, [.t 16]⟩, ⟨(some 18), (some (12, true)), (.bin .eql), [.t 17, .c (.int .i64 0)]⟩, ⟨(some 19), none, .pick, [.t 12, .t 18, .c (.bool false)]⟩, ⟨(some 2), none, .mv, [.t 19]⟩]) .ret))
theorem comp_codec_In_Done : compF Try.prog (mset [] [] []) (cset [] [] []) (wset [] []) Try.f53 = some c_codec_In_Done := by kernel_rfl
theorem ok_codec_In_Done : fnOk Try.prog F_codec_In_Done = true := by kernel_rfl
theorem calls_codec_In_Done {args : List AV} {r : AV} (h : RunsX Try.prog 0 (Gives [.t 2] r) [.c c_codec_In_Done] (args ++ List.replicate (20 - args.length) (.tup [])) [] zeroC) : PCalls Try.prog F_codec_In_Done args r :=
  pcallsF Try.checked.mixed Try.func53 ok_codec_In_Done comp_codec_In_Done rfl (rs := [.t 2]) (by kernel_rfl) h
theorem hcalls_codec_In_Done {args : List AV} {Hin Hout : Heap} {nx nx2 : Ctr} {r : AV} (φ : Nat) (ks : List (Nat × Nat)) (h : RunsX Try.prog φ (GivesH ks [.t 2] r Hout nx2) [.c c_codec_In_Done] (args ++ List.replicate (20 - args.length) (.tup [])) Hin nx) : HCalls Try.prog F_codec_In_Done args Hin nx r Hout nx2 :=
  hcallsF Try.checked.mixed Try.func53 ok_codec_In_Done comp_codec_In_Done rfl (rs := [.t 2]) (by kernel_rfl) φ ks h

/-- (*pedlar/codec.In).fail: parameters [77], results [.t 2], calls  -/
def c_codec_In_fail : Cd := (.seq (.reg [⟨(some 2), none, .mv, [.c (.int .i64 0)]⟩]) (.seq (.reg [⟨(some 3), none, .mv, [.t 0]⟩, ⟨(some 4), none, .mv, [.t 0]⟩, ⟨(some 5), none, .nck, [.t 3]⟩, ⟨(some 6), none, (.fa 0), [.t 5]⟩, ⟨none, none, (.st 1), [.t 6, .c .nils]⟩, ⟨(some 7), none, .nck, [.t 4]⟩, ⟨(some 8), none, (.fa 1), [.t 7]⟩, ⟨none, none, (.st 1), [.t 8, .c (.bool true)]⟩]) (.seq (.reg [⟨(some 2), none, .mv, [.c (.int .i64 0)]⟩]) .ret)))
theorem comp_codec_In_fail : compF Try.prog (mset [] [] []) (cset [] [] []) (wset [] []) Try.f176 = some c_codec_In_fail := by kernel_rfl
theorem ok_codec_In_fail : fnOk Try.prog F_codec_In_fail = true := by kernel_rfl
theorem calls_codec_In_fail {args : List AV} {r : AV} (h : RunsX Try.prog 0 (Gives [.t 2] r) [.c c_codec_In_fail] (args ++ List.replicate (9 - args.length) (.tup [])) [] zeroC) : PCalls Try.prog F_codec_In_fail args r :=
  pcallsF Try.checked.mixed Try.func176 ok_codec_In_fail comp_codec_In_fail rfl (rs := [.t 2]) (by kernel_rfl) h
theorem hcalls_codec_In_fail {args : List AV} {Hin Hout : Heap} {nx nx2 : Ctr} {r : AV} (φ : Nat) (ks : List (Nat × Nat)) (h : RunsX Try.prog φ (GivesH ks [.t 2] r Hout nx2) [.c c_codec_In_fail] (args ++ List.replicate (9 - args.length) (.tup [])) Hin nx) : HCalls Try.prog F_codec_In_fail args Hin nx r Hout nx2 :=
  hcallsF Try.checked.mixed Try.func176 ok_codec_In_fail comp_codec_In_fail rfl (rs := [.t 2]) (by kernel_rfl) φ ks h

/-- (*pedlar/codec.Out).Num: parameters [83, 2], results [], calls  -/
def wl_codec_Out_Num_1 : Mk := ⟨[false, false, true, true, true, true, true, true, true, true, true, true, true, true, true, true, true, true, true, true, true, true, true, true, true, true, true, true, true, true, true, true, true, true, true, true, true, true, true, true], []⟩
abbrev s_codec_Out_Num_1 (t0 t1 : AV) : List AV := [t0, t1, .any, .any, .any, .any, .any, .any, .any, .any, .any, .any, .any, .any, .any, .any, .any, .any, .any, .any, .any, .any, .any, .any, .any, .any, .any, .any, .any, .any, .any, .any, .any, .any, .any, .any, .any, .any, .any, .any]
def c_codec_Out_Num_l1 : Cd := (.seq (.seq (.reg [⟨(some 13), none, .mv, [.t 1]⟩, ⟨(some 14), none, (.bin .geq), [.t 13, .c (.int .i64 128)]⟩]) (.cond (.t 14) .skip (.exit 1))) (.seq (.blk 2 [] (.reg [⟨(some 17), none, .mv, [.t 0]⟩, ⟨(some 18), none, .mv, [.t 0]⟩, ⟨(some 19), none, .nck, [.t 18]⟩, ⟨(some 20), none, (.fa 0), [.t 19]⟩, ⟨(some 21), none, .ld1, [.t 20]⟩, ⟨(some 22), none, .mv, [.t 1]⟩, ⟨(some 23), none, (.conv .u8), [.t 22]⟩, ⟨(some 24), none, (.bin .or), [.t 23, .c (.int .u8 128)]⟩, ⟨(some 25), none, (.lit 1 1), [.t 24]⟩, ⟨(some 26), none, (.app 1 1 26), [.t 21, .t 25]⟩, ⟨(some 27), none, .nck, [.t 17]⟩, ⟨(some 28), none, (.fa 0), [.t 27]⟩, ⟨none, none, (.st 1), [.t 28, .t 26]⟩])) (.reg [⟨(some 15), none, .mv, [.t 1]⟩, ⟨(some 16), none, (.bin .shr), [.t 15, .c (.int .u64 7)]⟩, ⟨(some 1), none, .mv, [.t 16]⟩])))
def wb_codec_Out_Num_1 : List Bool := [false, false, true, true, true, true, true, true, true, true, true, true, true, true, true, true, true, true, true, true, true, true, true, true, true, true, true, true, true, true, true, true, true, true, true, true, true, true, true, true]
abbrev e_codec_Out_Num_1 (t0 t1 : AV) : List AV := [t0, t1, .any, .any, .any, .any, .any, .any, .any, .any, .any, .any, .any, .any, .any, .any, .any, .any, .any, .any, .any, .any, .any, .any, .any, .any, .any, .any, .any, .any, .any, .any, .any, .any, .any, .any, .any, .any, .any, .any]
abbrev i_codec_Out_Num_1 : List It := [.lp wl_codec_Out_Num_1 c_codec_Out_Num_l1, .blk 1 wb_codec_Out_Num_1]
def c_codec_Out_Num_k0 : Cd := (.reg [⟨(some 29), none, .mv, [.t 0]⟩, ⟨(some 30), none, .mv, [.t 0]⟩, ⟨(some 31), none, .nck, [.t 30]⟩, ⟨(some 32), none, (.fa 0), [.t 31]⟩, ⟨(some 33), none, .ld1, [.t 32]⟩, ⟨(some 34), none, .mv, [.t 1]⟩, ⟨(some 35), none, (.conv .u8), [.t 34]⟩, ⟨(some 36), none, (.lit 1 1), [.t 35]⟩, ⟨(some 37), none, (.app 1 1 37), [.t 33, .t 36]⟩, ⟨(some 38), none, .nck, [.t 29]⟩, ⟨(some 39), none, (.fa 0), [.t 38]⟩, ⟨none, none, (.st 1), [.t 39, .t 37]⟩])
def c_codec_Out_Num : Cd := (.seq (.blk 0 [] (.seq (.reg [⟨(some 5), none, .mv, [.t 0]⟩, ⟨(some 6), none, (.eqp false), [.t 5, .c .nilp]⟩, ⟨(some 4), none, .mv, [.t 6]⟩]) (.cond (.t 4) .ret (.seq (.reg [⟨(some 8), none, .mv, [.t 1]⟩, ⟨(some 9), none, (.bin .lss), [.t 8, .c (.int .i64 0)]⟩, ⟨(some 7), none, .mv, [.t 9]⟩]) (.cond (.t 7) (.seq (.reg [⟨(some 10), none, .mv, [.t 0]⟩, ⟨(some 11), none, .nck, [.t 10]⟩, ⟨(some 12), none, (.fa 1), [.t 11]⟩, ⟨none, none, (.st 1), [.t 12, .c (.bool true)]⟩]) .ret) .skip))))) (.seq (.blk 1 wb_codec_Out_Num_1 (.loop wl_codec_Out_Num_1 c_codec_Out_Num_l1)) c_codec_Out_Num_k0))
theorem comp_codec_Out_Num : compF Try.prog (mset [] [] []) (cset [] [] []) (wset [(1, wl_codec_Out_Num_1, wb_codec_Out_Num_1)] []) Try.f117 = some c_codec_Out_Num := by kernel_rfl
theorem ok_codec_Out_Num : fnOk Try.prog F_codec_Out_Num = true := by kernel_rfl
theorem calls_codec_Out_Num {args : List AV} {r : AV} (h : RunsX Try.prog 0 (Gives [] r) [.c c_codec_Out_Num] (args ++ List.replicate (40 - args.length) (.tup [])) [] zeroC) : PCalls Try.prog F_codec_Out_Num args r :=
  pcallsF Try.checked.mixed Try.func117 ok_codec_Out_Num comp_codec_Out_Num rfl (rs := []) (by kernel_rfl) h
theorem hcalls_codec_Out_Num {args : List AV} {Hin Hout : Heap} {nx nx2 : Ctr} {r : AV} (φ : Nat) (ks : List (Nat × Nat)) (h : RunsX Try.prog φ (GivesH ks [] r Hout nx2) [.c c_codec_Out_Num] (args ++ List.replicate (40 - args.length) (.tup [])) Hin nx) : HCalls Try.prog F_codec_Out_Num args Hin nx r Hout nx2 :=
  hcallsF Try.checked.mixed Try.func117 ok_codec_Out_Num comp_codec_Out_Num rfl (rs := []) (by kernel_rfl) φ ks h

/-- (*pedlar/codec.Out).Text: parameters [83, 9], results [], calls codec_Out_Num -/
def c_codec_Out_Text : Cd := (.seq (.reg [⟨(some 4), none, .mv, [.t 0]⟩, ⟨(some 5), none, (.eqp true), [.t 4, .c .nilp]⟩]) (.cond (.t 5) (.seq (.reg [⟨(some 6), none, .mv, [.t 0]⟩, ⟨(some 7), none, .mv, [.t 1]⟩, ⟨(some 8), none, .lenT, [.t 7]⟩, ⟨(some 9), none, (.call F_codec_Out_Num 2), [.t 6, .t 8]⟩]) (.reg [⟨(some 10), none, .mv, [.t 0]⟩, ⟨(some 11), none, .mv, [.t 0]⟩, ⟨(some 12), none, .nck, [.t 11]⟩, ⟨(some 13), none, (.fa 0), [.t 12]⟩, ⟨(some 14), none, .ld1, [.t 13]⟩, ⟨(some 15), none, .mv, [.t 1]⟩, ⟨(some 16), none, (.apps 16), [.t 14, .t 15]⟩, ⟨(some 17), none, .nck, [.t 10]⟩, ⟨(some 18), none, (.fa 0), [.t 17]⟩, ⟨none, none, (.st 1), [.t 18, .t 16]⟩])) .skip))
theorem comp_codec_Out_Text : compF Try.prog (mset [] [] []) (cset [] [F_codec_Out_Num] []) (wset [] []) Try.f118 = some c_codec_Out_Text := by kernel_rfl
theorem ok_codec_Out_Text : fnOk Try.prog F_codec_Out_Text = true := by kernel_rfl
theorem calls_codec_Out_Text {args : List AV} {r : AV} (h : RunsX Try.prog 0 (Gives [] r) [.c c_codec_Out_Text] (args ++ List.replicate (19 - args.length) (.tup [])) [] zeroC) : PCalls Try.prog F_codec_Out_Text args r :=
  pcallsF Try.checked.mixed Try.func118 ok_codec_Out_Text comp_codec_Out_Text rfl (rs := []) (by kernel_rfl) h
theorem hcalls_codec_Out_Text {args : List AV} {Hin Hout : Heap} {nx nx2 : Ctr} {r : AV} (φ : Nat) (ks : List (Nat × Nat)) (h : RunsX Try.prog φ (GivesH ks [] r Hout nx2) [.c c_codec_Out_Text] (args ++ List.replicate (19 - args.length) (.tup [])) Hin nx) : HCalls Try.prog F_codec_Out_Text args Hin nx r Hout nx2 :=
  hcallsF Try.checked.mixed Try.func118 ok_codec_Out_Text comp_codec_Out_Text rfl (rs := []) (by kernel_rfl) φ ks h

/-- (*pedlar/codec.Out).Bool: parameters [83, 4], results [], calls codec_Out_Num -/
def c_codec_Out_Bool : Cd := (.seq (.seq (.reg [⟨(some 4), none, .mv, [.t 1]⟩]) (.cond (.t 4) (.seq (.reg [⟨(some 5), none, .mv, [.t 0]⟩, ⟨(some 6), none, (.call F_codec_Out_Num 2), [.t 5, .c (.int .i64 1)]⟩]) .ret) .skip)) (.reg [⟨(some 7), none, .mv, [.t 0]⟩, ⟨(some 8), none, (.call F_codec_Out_Num 2), [.t 7, .c (.int .i64 0)]⟩]))
theorem comp_codec_Out_Bool : compF Try.prog (mset [] [] []) (cset [] [F_codec_Out_Num] []) (wset [] []) Try.f119 = some c_codec_Out_Bool := by kernel_rfl
theorem ok_codec_Out_Bool : fnOk Try.prog F_codec_Out_Bool = true := by kernel_rfl
theorem calls_codec_Out_Bool {args : List AV} {r : AV} (h : RunsX Try.prog 0 (Gives [] r) [.c c_codec_Out_Bool] (args ++ List.replicate (9 - args.length) (.tup [])) [] zeroC) : PCalls Try.prog F_codec_Out_Bool args r :=
  pcallsF Try.checked.mixed Try.func119 ok_codec_Out_Bool comp_codec_Out_Bool rfl (rs := []) (by kernel_rfl) h
theorem hcalls_codec_Out_Bool {args : List AV} {Hin Hout : Heap} {nx nx2 : Ctr} {r : AV} (φ : Nat) (ks : List (Nat × Nat)) (h : RunsX Try.prog φ (GivesH ks [] r Hout nx2) [.c c_codec_Out_Bool] (args ++ List.replicate (9 - args.length) (.tup [])) Hin nx) : HCalls Try.prog F_codec_Out_Bool args Hin nx r Hout nx2 :=
  hcallsF Try.checked.mixed Try.func119 ok_codec_Out_Bool comp_codec_Out_Bool rfl (rs := []) (by kernel_rfl) φ ks h

/-- (*pedlar/codec.Out).End: parameters [83], results [.t 2, .t 3], calls bytes_Clone -/
def c_codec_Out_End : Cd := (.seq (.reg [⟨(some 2), none, .mv, [.c .nils]⟩, ⟨(some 3), none, .mv, [.c (.int .i64 0)]⟩]) (.seq (.seq (.reg [⟨(some 4), none, .mv, [.t 0]⟩, ⟨(some 5), none, (.eqp false), [.t 4, .c .nilp]⟩, ⟨(some 6), none, .mv, [.t 5]⟩, ⟨(some 7), (some (6, false)), .mv, [.t 0]⟩, ⟨(some 8), (some (6, false)), .nck, [.t 7]⟩, ⟨(some 9), (some (6, false)), (.fa 1), [.t 8]⟩, ⟨(some 10), (some (6, false)), .ld1, [.t 9]⟩, ⟨(some 11), none, .pick, [.t 6, .c (.bool true), .t 10]⟩]) (.cond (.t 11) (.seq (.reg [⟨(some 2), none, .mv, [.c .nils]⟩, ⟨(some 3), none, .mv, [.c (.int .i64 1)]⟩]) .ret) .skip)) (.seq (.reg [⟨(some 12), none, .mv, [.t 0]⟩, ⟨(some 13), none, .nck, [.t 12]⟩, ⟨(some 14), none, (.fa 0), [.t 13]⟩, ⟨(some 15), none, .ld1, [.t 14]⟩, ⟨(some 16), none, (.call F_bytes_Clone 2), [.t 15]⟩, ⟨(some 2), none, .mv, [.t 16]⟩, ⟨(some 3), none, .mv, [.c (.int .i64 0)]⟩]) .ret)))
theorem comp_codec_Out_End : compF Try.prog (mset [] [] []) (cset [] [F_bytes_Clone] []) (wset [] []) Try.f52 = some c_codec_Out_End := by kernel_rfl
theorem ok_codec_Out_End : fnOk Try.prog F_codec_Out_End = true := by kernel_rfl
theorem calls_codec_Out_End {args : List AV} {r : AV} (h : RunsX Try.prog 0 (Gives [.t 2, .t 3] r) [.c c_codec_Out_End] (args ++ List.replicate (17 - args.length) (.tup [])) [] zeroC) : PCalls Try.prog F_codec_Out_End args r :=
  pcallsF Try.checked.mixed Try.func52 ok_codec_Out_End comp_codec_Out_End rfl (rs := [.t 2, .t 3]) (by kernel_rfl) h
theorem hcalls_codec_Out_End {args : List AV} {Hin Hout : Heap} {nx nx2 : Ctr} {r : AV} (φ : Nat) (ks : List (Nat × Nat)) (h : RunsX Try.prog φ (GivesH ks [.t 2, .t 3] r Hout nx2) [.c c_codec_Out_End] (args ++ List.replicate (17 - args.length) (.tup [])) Hin nx) : HCalls Try.prog F_codec_Out_End args Hin nx r Hout nx2 :=
  hcallsF Try.checked.mixed Try.func52 ok_codec_Out_End comp_codec_Out_End rfl (rs := [.t 2, .t 3]) (by kernel_rfl) φ ks h

def tab_CdCodec : List (Nat × Cd × Nat × List RS) := [(F_codec_NewIn, c_codec_NewIn, 7, [.t 2]), (F_codec_In_Num, c_codec_In_Num, 62, [.t 2]), (F_codec_In_Text, c_codec_In_Text, 41, [.t 2]), (F_codec_In_Bool, c_codec_In_Bool, 6, [.t 2]), (F_codec_In_Count, c_codec_In_Count, 20, [.t 4]), (F_codec_In_Bad, c_codec_In_Bad, 11, [.t 2]), (F_codec_In_Left, c_codec_In_Left, 10, [.t 2]), (F_codec_In_Done, c_codec_In_Done, 20, [.t 2]), (F_codec_In_fail, c_codec_In_fail, 9, [.t 2]), (F_codec_Out_Num, c_codec_Out_Num, 40, []), (F_codec_Out_Text, c_codec_Out_Text, 19, []), (F_codec_Out_Bool, c_codec_Out_Bool, 9, []), (F_codec_Out_End, c_codec_Out_End, 17, [.t 2, .t 3])]
theorem tok_CdCodec : TabOk Try.prog (tabOf tab_CdCodec) := tab_cons calls_codec_NewIn hcalls_codec_NewIn (tab_cons calls_codec_In_Num hcalls_codec_In_Num (tab_cons calls_codec_In_Text hcalls_codec_In_Text (tab_cons calls_codec_In_Bool hcalls_codec_In_Bool (tab_cons calls_codec_In_Count hcalls_codec_In_Count (tab_cons calls_codec_In_Bad hcalls_codec_In_Bad (tab_cons calls_codec_In_Left hcalls_codec_In_Left (tab_cons calls_codec_In_Done hcalls_codec_In_Done (tab_cons calls_codec_In_fail hcalls_codec_In_fail (tab_cons calls_codec_Out_Num hcalls_codec_Out_Num (tab_cons calls_codec_Out_Text hcalls_codec_Out_Text (tab_cons calls_codec_Out_Bool hcalls_codec_Out_Bool (tab_cons calls_codec_Out_End hcalls_codec_Out_End (tab_nil)))))))))))))
end Go.Proofs.Ytmokhopjnjecbab
/- The lemmas of a walk, under one name of the kit (a simp set), so that the texts are short. -/
namespace Go.Ev
/-- An element by an index: its first unfolding is a step with a proof that is no rfl. -/
def gi (es : List AV) (n : Int) : Option AV := es[n.toNat]?
theorem gi_eq (es : List AV) (n : Int) : gi es n = es[n.toNat]? := of_eq_true (eq_true rfl)
theorem optI_gi {α : Type} (es : List AV) (n : Int) (ok : AV → α) (bad : α) : optI es n ok bad = optK (gi es n) ok bad := rfl
attribute [go_sem ↓ low] optI_gi
attribute [go_sem] gi_eq
attribute [go_sem ↓] as_nil as_ops0 as_op as_opg as_blk as_frz as_lp as_skip as_reg as_regf as_seq as_cond as_cblk as_loop as_exit as_ret condK_true condK_false condK_bool
  guardK_tup guardK_tt guardK_tf guardK_ft guardK_ff guardK_bool q_add q_sub q_mul q_eql q_neq q_lss q_leq q_gtr q_geq q_quo q_rem q_and q_or q_xor q_andNot
  q_shl q_shr q_seql q_sneq q_slss q_sleq q_sgtr q_sgeq q_sadd q_mv q_pick q_eqb q_neb q_eqp q_neqp q_eqs q_neqs q_eqf q_neqf q_eqi q_neqi q_not q_neg q_cpl
  q_conv q_s2b q_b2s0 q_b2s1 q_b2s2 q_s2s q_box q_boxm q_new q_ld1 q_ld1r q_ld1p q_ldn q_ldnr q_ldnp q_ldk q_ldnk q_st q_stf q_slcx q_clr q_stk q_fa q_fap q_fld1 q_fldn q_ixS
  q_ixSl q_ixP q_ixPp q_ixT q_ixA1 q_slc0 q_slc1 q_slc2 q_slcT q_lenT q_len0 q_len1 q_len2 q_app q_apn pureK_nn pureK_nf pureK_fn pureK_ff q_apps q_lit q_litr q_litm q_bld q_mk q_ext q_nckp q_nckr
  q_nckf q_mn q_mx q_mkf q_ifc headK_cons optK_some optI_0 optI_1 optI_2 optI_3 nilK_nil execA mapK frzK_sl frzK_agg frzK_tup frzK_ifc frzK_func frzK_int
  frzK_bool frzK_str frzK_nilp frzK_nils frzK_nilm frzK_nilf frzK_nili frzK_fz frzK_any frzK_ptr frzK_ro getB getsK getR retK nilpK nilsK nilfK niliK bndK
  cutK fillK exitK if_pos if_neg
attribute [go_sem] evs_n evs_c ev_t ev_v getT_z getT_s gets_n gets_c drop_z drop_s setT put List.replicate List.cons_append List.nil_append List.length_cons List.length_nil
  setB kill killM dropK keysOf capOf_nn zeroC bump frzT thaw putAll retv find cells List.append_nil List.take Nat.zero_add Nat.add_zero Nat.mul_one Nat.succ_ne_self
  Nat.le_refl Nat.one_ne_zero Nat.lt_irrefl List.length_append Int.toNat_zero Int.toNat_one List.take_zero List.drop_zero Nat.zero_mul sel rest keyIn Bool.not_true
  Bool.not_false Bool.false_eq_true Bool.true_eq_false and_self and_true true_and false_and and_false decide_true decide_false decide_eq_true decide_eq_false
  decide_eq_true_eq decide_eq_false_iff_not Bool.not_eq_true Bool.not_eq_false Bool.not_eq_eq_eq_not Decidable.not_not
end Go.Ev
/- Contracts over a heap: a cell that may be nil, told as what it is; a cell told less. -/
namespace Go.Ev
set_option linter.unusedVariables false

theorem Lof_head {f d g : Nat} {cs cs' : List AV} {H : Heap} {bm : Nat → Nat → Nat} : Lof ((f, d, g, some cs) :: H) bm = Lof ((f, d, g, some cs') :: H) bm := by
  funext f1 d1 g1 b
  apply propext
  simp only [Lof, find]
  by_cases e : d = d1 ∧ f = f1
  · simp [e]
  · simp only [if_neg e]
theorem Own_head {f d g : Nat} {cs cs' : List AV} {H : Heap} {bm : Nat → Nat → Nat} : Own ((f, d, g, some cs) :: H) bm = Own ((f, d, g, some cs') :: H) bm := by
  funext b
  apply propext
  simp only [Own, find]
  constructor
  · rintro ⟨f1, d1, g1, cs1, h, rfl⟩
    by_cases e : d = d1 ∧ f = f1
    · exact ⟨f1, d1, g, cs', by simp [e], rfl⟩
    · rw [if_neg e] at h; exact ⟨f1, d1, g1, cs1, by simp only [if_neg e]; exact h, rfl⟩
  · rintro ⟨f1, d1, g1, cs1, h, rfl⟩
    by_cases e : d = d1 ∧ f = f1
    · exact ⟨f1, d1, g, cs, by simp [e], rfl⟩
    · rw [if_neg e] at h; exact ⟨f1, d1, g1, cs1, by simp only [if_neg e]; exact h, rfl⟩
/-- The head's cells, told otherwise. -/
theorem Rel.recell {w0 : World} {O X : Nat → Prop} {bm : Nat → Nat → Nat} {f d g : Nat} {cs cs' : List AV} {H : Heap} {nx : Ctr} {w : World} (r : Rel w0 O X bm ((f, d, g, some cs) :: H) nx w)
    (hl : cs'.length = cs.length) (h : ∀ (j : Nat) x' v, cs'[j]? = some x' → (∀ x, cs[j]? = some x → Rep (Lof ((f, d, g, some cs) :: H) bm) X nx w false x v) → (∃ vs E, w.heap[bm f d]? = some (.cells vs E (0, 0)) ∧ vs.getD j undef = v) → Rep (Lof ((f, d, g, some cs) :: H) bm) X nx w false x' v) :
    Rel w0 O X bm ((f, d, g, some cs') :: H) nx w := by
  have hfind : ∀ f1 d1 g1 cs1, find ((f, d, g, some cs') :: H) f1 d1 = some (g1, some cs1) → (f1 = f ∧ d1 = d ∧ g1 = g ∧ cs1 = cs') ∨ (¬ (d = d1 ∧ f = f1) ∧ find ((f, d, g, some cs) :: H) f1 d1 = some (g1, some cs1)) := by
    intro f1 d1 g1 cs1 h
    by_cases e : d = d1 ∧ f = f1
    · obtain ⟨rfl, rfl⟩ := e
      simp [find] at h
      exact .inl ⟨rfl, rfl, h.1.symm, h.2.symm⟩
    · refine .inr ⟨e, ?_⟩
      simp only [find, if_neg e] at h ⊢; exact h
  have hh : find ((f, d, g, some cs) :: H) f d = some (g, some cs) := by simp [find]
  have hex : ∀ f1 d1 g1 cs1, find ((f, d, g, some cs') :: H) f1 d1 = some (g1, some cs1) → ∃ cs2, find ((f, d, g, some cs) :: H) f1 d1 = some (g1, some cs2) := by
    intro f1 d1 g1 cs1 h
    rcases hfind _ _ _ _ h with ⟨rfl, rfl, rfl, rfl⟩ | ⟨_, h⟩
    · exact ⟨cs, hh⟩
    · exact ⟨_, h⟩
  refine ⟨?_, ?_, ?_, ?_, r.os, r.tape, r.output, r.size, r.keep, r.xlt⟩
  · intro f1 d1 g1 cs1 h1
    rw [Lof_head (cs' := cs)]
    rcases hfind _ _ _ _ h1 with ⟨rfl, rfl, rfl, rfl⟩ | ⟨_, h1⟩
    · obtain ⟨vs, E, hb, hle, hrep⟩ := r.blk _ _ _ _ hh
      refine ⟨vs, E, hb, by omega, fun j x' hj => ?_⟩
      have hj' : j < cs.length := by have := (List.getElem?_eq_some_iff.1 hj).1; omega
      have h2 := hrep j _ (List.getElem?_eq_getElem hj')
      exact ⟨h j x' _ hj (fun x hx => (hrep j x hx).1) ⟨vs, E, hb, rfl⟩, h2.2⟩
    · exact r.blk _ _ _ _ h1
  · intro f1 d1 g1 cs1 f2 d2 g2 cs2 h1 h2 he
    obtain ⟨a, h1⟩ := hex _ _ _ _ h1
    obtain ⟨b, h2⟩ := hex _ _ _ _ h2
    exact r.inj _ _ _ _ _ _ _ _ h1 h2 he
  · intro f1 d1 g1 b h1
    by_cases e : d = d1 ∧ f = f1
    · obtain ⟨rfl, rfl⟩ := e
      simp [find] at h1
      have := r.gen _ _ _ _ hh
      omega
    · simp only [find, if_neg e] at h1
      exact r.gen f1 d1 g1 b (by simp only [find, if_neg e]; exact h1)
  · intro f1 d1 g1 cs1 h1
    obtain ⟨a, h1⟩ := hex _ _ _ _ h1
    exact r.own _ _ _ _ h1
/-- A cell that may be nil. -/
theorem HCalls.nil {P : Program} {F f d g sz : Nat} {pre post : List AV} {args : List AV} {H Hout : Heap} {nx nx' : Ctr} {r : AV}
    (h1 : HCalls P F args ((f, d, g, some (pre ++ .nils :: post)) :: H) nx r Hout nx') (h2 : ∀ c, HCalls P F args ((f, d, g, some (pre ++ .fz sz [] (some c) :: post)) :: H) nx r Hout nx') :
    HCalls P F args ((f, d, g, some (pre ++ .fz sz [] none :: post)) :: H) nx r Hout nx' := by
  refine ⟨h1.ok, fun X w bm vals hr ha => ?_⟩
  obtain ⟨vs, E, hb, hle, hrep⟩ := hr.blk f d g _ (by simp [find]; rfl)
  have hm : (pre ++ AV.fz sz [] none :: post)[pre.length]? = some (.fz sz [] none) := by simp
  have key : ∀ x, Rep (Lof ((f, d, g, some (pre ++ .fz sz [] none :: post)) :: H) bm) X nx w false x (vs.getD pre.length undef) → Rel w (Own ((f, d, g, some (pre ++ x :: post)) :: H) bm) X bm ((f, d, g, some (pre ++ x :: post)) :: H) nx w := by
    intro x hx
    rw [Own_head (cs' := pre ++ .fz sz [] none :: post)]
    refine hr.recell (by simp) (fun j x' v hj hv hvs => ?_)
    obtain ⟨vs', E', hb', rfl⟩ := hvs
    rw [hb] at hb'; simp only [Option.some.injEq, Obj.cells.injEq] at hb'; obtain ⟨rfl, rfl, _⟩ := hb'
    by_cases hjp : j = pre.length
    · subst hjp
      simp at hj; subst hj; exact hx
    · refine hv x' ?_
      rcases Nat.lt_or_ge j pre.length with hl | hl
      · rw [List.getElem?_append_left hl] at hj ⊢; exact hj
      · rw [List.getElem?_append_right hl] at hj ⊢
        obtain ⟨k, hk⟩ : ∃ k, j - pre.length = k + 1 := ⟨j - pre.length - 1, by omega⟩
        rw [hk] at hj ⊢; exact hj
  rcases nil_or (hrep _ _ hm).1 with a | ⟨c, a⟩
  · have := h1.calls X w bm vals (key _ a) (by rw [Lof_head (cs' := pre ++ .fz sz [] none :: post)]; exact ha)
    rw [Lof_head (cs' := pre ++ .fz sz [] none :: post), Own_head (cs' := pre ++ .fz sz [] none :: post)] at this
    exact this
  · have := (h2 c).calls X w bm vals (key _ a) (by rw [Lof_head (cs' := pre ++ .fz sz [] none :: post)]; exact ha)
    rw [Lof_head (cs' := pre ++ .fz sz [] none :: post), Own_head (cs' := pre ++ .fz sz [] none :: post)] at this
    exact this
/-- A cell of what comes out, told less. -/
theorem HCalls.out {P : Program} {F f d g : Nat} {pre post : List AV} {x y : AV} {args : List AV} {Hin H : Heap} {nx nx' : Ctr} {r : AV} (hw : Wk1 x y)
    (h : HCalls P F args Hin nx r ((f, d, g, some (pre ++ x :: post)) :: H) nx') : HCalls P F args Hin nx r ((f, d, g, some (pre ++ y :: post)) :: H) nx' := by
  refine ⟨h.ok, fun X w bm vals hr ha => (h.calls X w bm vals hr ha).mono fun e w' he => ?_⟩
  obtain ⟨v, bm', h1, h2, h3, h4⟩ := he
  rw [Lof_head (cs' := pre ++ y :: post)] at h3 h4
  refine ⟨v, bm', h1, ?_, h3, h4⟩
  refine h2.recell (by simp) (fun j x' v hj hv hvs => ?_)
  by_cases hjp : j = pre.length
  · subst hjp
    simp at hj; subst hj
    exact hw _ _ _ _ _ _ (hv x (by simp))
  · refine hv x' ?_
    rcases Nat.lt_or_ge j pre.length with hl | hl
    · rw [List.getElem?_append_left hl] at hj ⊢; exact hj
    · rw [List.getElem?_append_right hl] at hj ⊢
      obtain ⟨k, hk⟩ : ∃ k, j - pre.length = k + 1 := ⟨j - pre.length - 1, by omega⟩
      rw [hk] at hj ⊢; exact hj
/-- A cell of what goes in, told more. -/
theorem HCalls.inn {P : Program} {F f d g : Nat} {pre post : List AV} {x y : AV} {args : List AV} {H Hout : Heap} {nx nx' : Ctr} {r : AV} (hw : Wk1 x y)
    (h : HCalls P F args ((f, d, g, some (pre ++ y :: post)) :: H) nx r Hout nx') : HCalls P F args ((f, d, g, some (pre ++ x :: post)) :: H) nx r Hout nx' := by
  refine ⟨h.ok, fun X w bm vals hr ha => ?_⟩
  have hr' : Rel w (Own ((f, d, g, some (pre ++ y :: post)) :: H) bm) X bm ((f, d, g, some (pre ++ y :: post)) :: H) nx w := by
    rw [Own_head (cs' := pre ++ x :: post)]
    refine hr.recell (by simp) (fun j x' v hj hv hvs => ?_)
    by_cases hjp : j = pre.length
    · subst hjp
      simp at hj; subst hj
      exact hw _ _ _ _ _ _ (hv x (by simp))
    · refine hv x' ?_
      rcases Nat.lt_or_ge j pre.length with hl | hl
      · rw [List.getElem?_append_left hl] at hj ⊢; exact hj
      · rw [List.getElem?_append_right hl] at hj ⊢
        obtain ⟨k, hk⟩ : ∃ k, j - pre.length = k + 1 := ⟨j - pre.length - 1, by omega⟩
        rw [hk] at hj ⊢; exact hj
  have := h.calls X w bm vals hr' (by rw [Lof_head (cs' := pre ++ x :: post)]; exact ha)
  rw [Lof_head (cs' := pre ++ x :: post), Own_head (cs' := pre ++ x :: post)] at this
  exact this
theorem find_nil (f d : Nat) : find [] f d = none := rfl
/-- What is called with values that lead to nothing of ours. -/
theorem PCalls.h {P : Program} {F : Nat} {args args' : List AV} {r : AV} (h : PCalls P F args' r) (nx : Ctr) (hf : mapK (frzK 9 []) args (fun vs i => some (vs, i)) none = some (args', [])) : HCalls P F args [] nx r [] nx := by
  refine ⟨h.ok, fun X w bm vals hr ha => ?_⟩
  obtain ⟨cs', ids, h2, _, _, g⟩ := frz_map (fun v val _ ok r h1 h2 => frz_ok hr 9 v val ok r h1 h2) args vals _ _ ha hf
  simp only [Option.some.injEq, Prod.mk.injEq] at h2
  obtain ⟨rfl, rfl⟩ := h2
  have := g none4 zeroC (by intro f d g b hb; exact hb.elim)
  refine (h.calls X w vals hr.xlt this).mono ?_
  rintro e w' ⟨v, rfl, bel, rep⟩
  refine ⟨v, bm, rfl, ⟨?_, ?_, ?_, ?_, bel.os, bel.tape, bel.output, bel.size, fun b hb _ => bel.block b hb, hr.xlt⟩, ⟨fun _ => Nat.le_refl _, bel.size, ?_, ?_, ?_, ?_⟩, (rep.sub ?_).weak⟩
  · intro f d g cs h; rw [find_nil] at h; cases h
  · intro f d g cs f' d' g' cs' h; rw [find_nil] at h; cases h
  · intro f d g cs h; rw [find_nil] at h; cases h
  · intro f d g cs h; rw [find_nil] at h; cases h
  · rintro f d g b ⟨⟨cs, h⟩, _⟩; rw [find_nil] at h; cases h
  · rintro f d g b ⟨⟨cs, h⟩, _⟩; rw [find_nil] at h; cases h
  · intro a u hc _
    rw [World.cell?_of_block (w := w) (bel.block _ (World.block_lt_of_cell? w a hc))]; exact hc
  · rintro f d g b vs E ⟨⟨cs, h⟩, _⟩; rw [find_nil] at h; cases h
  · rintro f d g b ⟨⟨cs, h⟩, _⟩; rw [find_nil] at h; cases h
section
variable {P : Program} {φ : Nat} {R : List AV → Heap → Ctr → Prop} {k0 : List It}
theorem call2x {f : Nat} {vs : List AV} {ids : List (Nat × Nat)} {d : Option Nat} {l : List Op} {k : List It} {t : List AV} {H : Heap} {nx : Ctr} {r : AV} {Hout : Heap} (n : Nat) (hk0 : flat k0) (hk : flat k) (ks : List (Nat × Nat)) {Hin Hr : Heap} (hin : sel ks H = Hin) (hre : rest ks H = Hr)
    (hp : ∃ nx', HCalls P f vs Hin nx r Hout nx') (hf : Hr = [] ∨ (nameFree 9 Hr r = true ∧ heapFree Hr Hout = true))
    (h : ∀ (nx' : Ctr) (A : Nat → List It → List AV → Heap → Ctr → Out), (∀ n its t H nx, A (n + 1) its t H nx = advStep φ (A n) its t H nx) → RunsO P φ R k0 (A n (.ops l :: k) (put t d r) (Hout ++ Hr) nx')) : RunsO P φ R k0 (.call f 2 vs ids d l k t H nx) := by
  obtain ⟨nx', hp⟩ := hp
  exact call2 n hk0 hk ks hin hre hp hf (fun A eA => h nx' A eA)
theorem call2p {C : Nat → Prop} {f : Nat} {vs : List AV} {ids : List (Nat × Nat)} {d : Option Nat} {l : List Op} {k : List It} {t : List AV} {H : Heap} {nx : Ctr} {r : AV} {Hout : Nat → Nat → Heap} (n : Nat) (hk0 : flat k0) (hk : flat k) (ks : List (Nat × Nat)) {Hin Hr : Heap} (hin : sel ks H = Hin) (hre : rest ks H = Hr)
    (hp : ∃ key g' nx', C key ∧ HCalls P f vs Hin nx r (Hout key g') nx') (hf : ∀ key g', C key → Hr = [] ∨ (nameFree 9 Hr r = true ∧ heapFree Hr (Hout key g') = true))
    (h : ∀ (key g' : Nat) (nx' : Ctr), C key → ∀ (A : Nat → List It → List AV → Heap → Ctr → Out), (∀ n its t H nx, A (n + 1) its t H nx = advStep φ (A n) its t H nx) → RunsO P φ R k0 (A n (.ops l :: k) (put t d r) (Hout key g' ++ Hr) nx')) : RunsO P φ R k0 (.call f 2 vs ids d l k t H nx) := by
  obtain ⟨key, g', nx', hc, hp⟩ := hp
  exact call2 n hk0 hk ks hin hre hp (hf key g' hc) (fun A eA => h key g' nx' hc A eA)
end
theorem RunsX.wkT {P : Program} {φ : Nat} {R : List AV → Heap → Ctr → Prop} {its : List It} {t t' : List AV} {H : Heap} {nx : Ctr} (hf : flat its) (hw : Wk t t') (h : RunsX P φ R its t' H nx) : RunsX P φ R its t H nx := RunsX.of (.wk hw (h.flatTo hf))
theorem Wk.at1 {x y : AV} (hw : Wk1 x y) (pre post : List AV) : Wk (pre ++ x :: post) (pre ++ y :: post) := fun L X nx w vs h => Reps.arg hw pre vs h
theorem WkH.cell {f d g : Nat} {pre post : List AV} {x y : AV} {H : Heap} (hw : Wk1 x y) : WkH ((f, d, g, some (pre ++ x :: post)) :: H) ((f, d, g, some (pre ++ y :: post)) :: H) := by
  refine ⟨fun bm => Lof_head, fun w0 O X bm nx w r => ?_⟩
  refine r.recell (by simp) (fun j x' v hj hv hvs => ?_)
  by_cases hjp : j = pre.length
  · subst hjp
    simp at hj; subst hj
    exact hw _ _ _ _ _ _ (hv x (by simp))
  · refine hv x' ?_
    rcases Nat.lt_or_ge j pre.length with hl | hl
    · rw [List.getElem?_append_left hl] at hj ⊢; exact hj
    · rw [List.getElem?_append_right hl] at hj ⊢
      obtain ⟨k, hk⟩ : ∃ k, j - pre.length = k + 1 := ⟨j - pre.length - 1, by omega⟩
      rw [hk] at hj ⊢; exact hj
theorem RunsX.wkHeap {P : Program} {φ : Nat} {R : List AV → Heap → Ctr → Prop} {its : List It} {t : List AV} {H H' : Heap} {nx : Ctr} (hf : flat its) (hw : WkH H H') (h : RunsX P φ R its t H' nx) : RunsX P φ R its t H nx := RunsX.of (.wkH hw (h.flatTo hf))
end Go.Ev
/- The functions' bodies, compiled; printed by a program of mine (gen.py); that they are is checked here. -/
namespace Go.Proofs.Ytmokhopjnjecbab
open Go.Ev
set_option maxRecDepth 100000

/-- bytes.Clone: parameters [76], results [.t 2], calls  -/
def c_bytes_Clone : Cd := (.seq (.reg [⟨(some 2), none, .mv, [.c .nils]⟩]) (.seq (.seq (.reg [⟨(some 3), none, .mv, [.t 0]⟩, ⟨(some 4), none, (.eqs false), [.t 3, .c .nils]⟩]) (.cond (.t 4) (.seq (.reg [⟨(some 2), none, .mv, [.c .nils]⟩]) .ret) .skip)) (.seq (.reg [⟨(some 5), none, (.lit 1 0), []⟩, ⟨(some 6), none, .mv, [.t 0]⟩, ⟨(some 7), none, (.app 1 1 7), [.t 5, .t 6]⟩, ⟨(some 2), none, .mv, [.t 7]⟩]) .ret)))
theorem comp_bytes_Clone : compF Try.prog (mset [] [] []) (cset [] [] []) (wset [] []) Try.f113 = some c_bytes_Clone := by kernel_rfl
theorem ok_bytes_Clone : fnOk Try.prog F_bytes_Clone = true := by kernel_rfl
theorem calls_bytes_Clone {args : List AV} {r : AV} (h : RunsX Try.prog 0 (Gives [.t 2] r) [.c c_bytes_Clone] (args ++ List.replicate (8 - args.length) (.tup [])) [] zeroC) : PCalls Try.prog F_bytes_Clone args r :=
  pcallsF Try.checked.mixed Try.func113 ok_bytes_Clone comp_bytes_Clone rfl (rs := [.t 2]) (by kernel_rfl) h
theorem hcalls_bytes_Clone {args : List AV} {Hin Hout : Heap} {nx nx2 : Ctr} {r : AV} (φ : Nat) (ks : List (Nat × Nat)) (h : RunsX Try.prog φ (GivesH ks [.t 2] r Hout nx2) [.c c_bytes_Clone] (args ++ List.replicate (8 - args.length) (.tup [])) Hin nx) : HCalls Try.prog F_bytes_Clone args Hin nx r Hout nx2 :=
  hcallsF Try.checked.mixed Try.func113 ok_bytes_Clone comp_bytes_Clone rfl (rs := [.t 2]) (by kernel_rfl) φ ks h

def tab_CdClone : List (Nat × Cd × Nat × List RS) := [(F_bytes_Clone, c_bytes_Clone, 8, [.t 2])]
theorem tok_CdClone : TabOk Try.prog (tabOf tab_CdClone) := tab_cons calls_bytes_Clone hcalls_bytes_Clone (tab_nil)
end Go.Proofs.Ytmokhopjnjecbab
/- Whole numbers of the machine's kinds, as naturals; the sums by arithmetic alone. -/
set_option linter.unusedSimpArgs false
namespace Go.Ev
set_option linter.unusedVariables false

theorem bv_toNat (n a : Nat) (h : a < 2 ^ n) : (BitVec.ofInt n (a : Int)).toNat = a := by
  rw [BitVec.toNat_ofInt]
  have : ((a : Int) % ((2 ^ n : Nat) : Int)).toNat = a := by
    rw [← Int.natCast_emod, Int.toNat_natCast, Nat.mod_eq_of_lt h]
  exact this
theorem wrap_nat (k : IntKind) (hk : k.signed = false) (a : Nat) (h : a < 2 ^ k.bits) : k.wrap (a : Int) = (a : Int) := by
  have : ((a : Int) % ((2 ^ k.bits : Nat) : Int)) = (a : Int) := by
    rw [← Int.natCast_emod, Nat.mod_eq_of_lt h]
  have e : ((2 : Int) ^ k.bits) = ((2 ^ k.bits : Nat) : Int) := by simp
  simp only [IntKind.wrap, hk, Bool.false_and, Bool.false_eq_true, if_false, e, this]
theorem ibits_xor (k : IntKind) (hk : k.signed = false) (a b : Nat) (ha : a < 2 ^ k.bits) (hb : b < 2 ^ k.bits) : ibits .xor k a b = ((a ^^^ b : Nat) : Int) := by
  simp only [ibits, BitVec.toNat_xor, bv_toNat _ _ ha, bv_toNat _ _ hb]
  exact wrap_nat k hk _ (Nat.xor_lt_two_pow ha hb)
theorem ibits_and (k : IntKind) (hk : k.signed = false) (a b : Nat) (ha : a < 2 ^ k.bits) (hb : b < 2 ^ k.bits) : ibits .and k a b = ((a &&& b : Nat) : Int) := by
  simp only [ibits, BitVec.toNat_and, bv_toNat _ _ ha, bv_toNat _ _ hb]
  exact wrap_nat k hk _ (Nat.lt_of_le_of_lt Nat.and_le_left ha)
theorem ishr_nat (k k2 : IntKind) (a b : Nat) (hb : b ≤ k.bits) : ishr k a b = ((a / 2 ^ b : Nat) : Int) := by
  have h1 : min (Int.toNat (b : Int)) k.bits = b := by rw [Int.toNat_natCast]; exact Nat.min_eq_left hb
  simp only [ishr, h1]
  have e : ((2 : Int) ^ b) = ((2 ^ b : Nat) : Int) := by simp
  rw [e, Int.fdiv_eq_ediv_of_nonneg _ (Int.natCast_nonneg _)]
  simp
/-- Bytes. -/
def avs (bs : List Nat) : List AV := bs.map fun (b : Nat) => .int .u8 (b : Int)
theorem avs_get (bs : List Nat) (i : Nat) : (avs bs)[i]? = (bs[i]?).map fun (b : Nat) => AV.int .u8 (b : Int) := by simp [avs]
theorem avs_len (bs : List Nat) : (avs bs).length = bs.length := by simp [avs]
theorem frz_ints {α : Type} (n : Nat) (H : Heap) : ∀ (bs : List Nat) (ok : List AV → List (Nat × Nat) → α) (bad : α), mapK (frzK (n + 1) H) (avs bs) ok bad = ok (avs bs) []
  | [], ok, bad => rfl
  | b :: bs, ok, bad => by
    have ih := frz_ints (α := α) n H bs
    simp only [avs, List.map_cons, mapK, frzK] at ih ⊢
    rw [ih]; rfl

def cstep (s : Nat) : Nat := if s % 2 = 1 then (s / 2) ^^^ 2197175160 else s / 2
def csteps : Nat → Nat → Nat
  | 0, s => s
  | n + 1, s => csteps n (cstep s)
def add (s b : Nat) : Nat := csteps 8 (s ^^^ b)
def crcOf (bs : List Nat) : Nat := (bs.foldl add 4294967295) ^^^ 4294967295
theorem cstep_lt {s : Nat} (h : s < 2 ^ 32) : cstep s < 2 ^ 32 := by
  unfold cstep
  have h2 : s / 2 < 2 ^ 32 := by omega
  split
  · exact Nat.xor_lt_two_pow h2 (by decide)
  · exact h2
theorem csteps_lt : ∀ (n : Nat) {s : Nat}, s < 2 ^ 32 → csteps n s < 2 ^ 32
  | 0, _, h => h
  | n + 1, _, h => csteps_lt n (cstep_lt h)
theorem add_lt {s b : Nat} (hs : s < 2 ^ 32) (hb : b < 256) : add s b < 2 ^ 32 := csteps_lt 8 (Nat.xor_lt_two_pow hs (by omega))
theorem fold_lt : ∀ (bs : List Nat) {s : Nat}, s < 2 ^ 32 → (∀ b ∈ bs, b < 256) → bs.foldl add s < 2 ^ 32
  | [], _, h, _ => h
  | b :: bs, _, h, hb => fold_lt bs (add_lt h (hb b (List.mem_cons_self))) (fun c hc => hb c (List.mem_cons_of_mem _ hc))

def rbit (r b j : Nat) : Nat := (r % 2) ^^^ ((b / 2 ^ j) % 2)
def rstep (r b j : Nat) : Nat := if rbit r b j = 1 then (r / 2) ^^^ 2197175160 else r / 2
def rsteps : Nat → Nat → Nat → Nat → Nat
  | 0, r, _, _ => r
  | n + 1, r, b, j => rsteps n (rstep r b j) b (j + 1)
theorem xor_half (x y : Nat) : (x ^^^ y) / 2 = x / 2 ^^^ y / 2 := by
  have := @Nat.shiftRight_xor_distrib 1 x y
  simpa [Nat.shiftRight_eq_div_pow] using this
theorem xor_two (x y : Nat) : (x ^^^ y) % 2 = (x % 2) ^^^ (y % 2) := by
  have := @Nat.xor_mod_two_pow x y 1
  simpa using this
theorem cstep_rstep (r b j : Nat) : cstep (r ^^^ b / 2 ^ j) = rstep r b j ^^^ (b / 2 ^ (j + 1)) := by
  have e1 : b / 2 ^ j / 2 = b / 2 ^ (j + 1) := by rw [Nat.div_div_eq_div_mul, Nat.pow_succ]
  unfold cstep rstep rbit
  rw [xor_two, xor_half, e1]
  split
  · rw [Nat.xor_assoc, Nat.xor_comm (b / 2 ^ (j + 1)), ← Nat.xor_assoc]
  · rfl
theorem csteps_rsteps : ∀ (n r b j : Nat), csteps n (r ^^^ b / 2 ^ j) = rsteps n r b j ^^^ (b / 2 ^ (j + n))
  | 0, r, b, j => rfl
  | n + 1, r, b, j => by
    simp only [csteps, rsteps]
    rw [cstep_rstep, csteps_rsteps n (rstep r b j) b (j + 1)]
    congr 2
    rw [Nat.add_right_comm, Nat.add_assoc]
theorem rsteps_add (r b : Nat) (hb : b < 256) : rsteps 8 r b 0 = add r b := by
  have := csteps_rsteps 8 r b 0
  have e : b / 2 ^ (0 + 8) = 0 := Nat.div_eq_of_lt hb
  rw [e] at this
  simpa [add] using this.symm
theorem rstep_lt {r b j : Nat} (h : r < 2 ^ 32) : rstep r b j < 2 ^ 32 := by
  unfold rstep
  have h2 : r / 2 < 2 ^ 32 := by omega
  split
  · exact Nat.xor_lt_two_pow h2 (by decide)
  · exact h2
end Go.Ev
/- Texts out of rows of bytes: equal just where the rows are. -/
namespace Go.Ev
set_option linter.unusedVariables false

/-- The text of a row of bytes. -/
def bstr (bs : List Nat) : ByteArray := ⟨(bytesOf (avs bs)).toArray⟩
theorem bytesOf_avs (bs : List Nat) : bytesOf (avs bs) = bs.map UInt8.ofNat := by
  induction bs with
  | nil => rfl
  | cons b bs ih => simp only [avs, List.map_cons, bytesOf, Int.toNat_natCast] at ih ⊢; rw [ih]
theorem isBytes_avs {bs : List Nat} (h : ∀ b ∈ bs, b < 256) : isBytes (avs bs) = true := by
  simp only [isBytes, avs, List.all_map, List.all_eq_true]
  intro b hb
  have := h b hb
  simp; omega
theorem map_ofNat_inj : ∀ {a b : List Nat}, (∀ x ∈ a, x < 256) → (∀ x ∈ b, x < 256) → a.map UInt8.ofNat = b.map UInt8.ofNat → a = b
  | [], [], _, _, _ => rfl
  | [], _ :: _, _, _, h => by simp at h
  | _ :: _, [], _, _, h => by simp at h
  | x :: a, y :: b, ha, hb, h => by
    simp only [List.map_cons, List.cons.injEq] at h
    have h1 := ha x (List.mem_cons_self)
    have h2 := hb y (List.mem_cons_self)
    have h3 : x = y := by
      have := congrArg UInt8.toNat h.1
      simp only [UInt8.toNat_ofNat'] at this
      omega
    rw [h3, map_ofNat_inj (fun z hz => ha z (List.mem_cons_of_mem _ hz)) (fun z hz => hb z (List.mem_cons_of_mem _ hz)) h.2]
theorem bstr_beq {a b : List Nat} (ha : ∀ x ∈ a, x < 256) (hb : ∀ x ∈ b, x < 256) : ((bstr a).toList == (bstr b).toList) = decide (a = b) := by
  have e : ∀ l, (bstr l).toList = l.map UInt8.ofNat := fun l => by rw [ByteArray.toList_eq, bstr, bytesOf_avs]
  rw [e, e]
  by_cases h : a = b
  · subst h; simp
  · simp only [h, decide_false, beq_eq_false_iff_ne, ne_eq]
    exact fun h2 => h (map_ofNat_inj ha hb h2)
theorem bstr_size (a : List Nat) : (bstr a).size = a.length := by
  show (bytesOf (avs a)).toArray.size = _
  rw [bytesOf_avs]; simp
end Go.Ev
/- Rows of bytes; the walk through bytes.Clone. -/
namespace Go.Proofs.Ytmokhopjnjecbab
open Go.Ev
set_option linter.unusedVariables false
set_option linter.unusedSimpArgs false
set_option maxRecDepth 100000
variable {R : List AV → Heap → Ctr → Prop} {k : List It} {H : Heap} {nx : Ctr} {φ : Nat}

theorem catCells_avs (bs : List Nat) : catCells (avs bs) = avs bs := by
  induction bs with
  | nil => rfl
  | cons b bs ih => simp only [avs, List.map_cons, catCells, cells] at ih ⊢; rw [ih]; rfl
theorem avs_append (a b : List Nat) : avs a ++ avs b = avs (a ++ b) := by simp [avs]
theorem avs_take (n : Nat) (a : List Nat) : (avs a).take n = avs (a.take n) := by simp [avs]
theorem avs_drop (n : Nat) (a : List Nat) : (avs a).drop n = avs (a.drop n) := by simp [avs]
theorem avs_take_all (n : Nat) (a : List Nat) (h : a.length ≤ n) : (avs a).take n = avs a := by rw [avs_take, List.take_of_length_le h]
theorem avs_cons' (b : Nat) (bs : List Nat) : AV.int .u8 (b : Int) :: avs bs = avs (b :: bs) := rfl
theorem avs_nil' : ([] : List AV) = avs [] := rfl
theorem nilsK_avs {α : Type} (b : Nat) (bs : List Nat) (c : Option Nat) (ok : Bool → α) (bad : α) : nilsK (.fz 1 (avs (b :: bs)) c) ok bad = ok false := rfl
theorem wrap_u8 (a : Nat) : IntKind.u8.wrap (a : Int) = ((a % 256 : Nat) : Int) := by
  simp only [IntKind.wrap, IntKind.signed, IntKind.bits, Bool.false_and, Bool.false_eq_true, if_false]
  omega
/-- A row of bytes that nobody writes. -/
abbrev bv (bs : List Nat) : AV := .fz 1 (avs bs) none
theorem bytesClone_calls (bs : List Nat) (hlen : bs.length ≤ 1099511627776) : PCalls Try.prog F_bytes_Clone [bv bs] (bv bs) := by
  cases bs with
  | nil =>
    refine PCalls.nil (pre := []) (post := []) ?_ (fun c => ?_)
    · refine calls_bytes_Clone (walk0 60 trivial (fun A eA => ?_))
      simp only [c_bytes_Clone, ↓advStep, ↓execK, ↓opK, ↓binK, ↓intK, ↓strK, evs, ev, getT, setT, put, List.replicate, List.cons_append, List.nil_append, List.length_cons, List.length_nil, ↓mapK, ↓frzK_sl, ↓frzK_agg, ↓frzK_tup, ↓frzK_ifc, ↓frzK_func, ↓frzK_int, ↓frzK_bool, ↓frzK_str, ↓frzK_nilp, ↓frzK_nils, ↓frzK_nilm, ↓frzK_nilf, ↓frzK_nili, ↓frzK_fz, ↓frzK_any, ↓frzK_ptr, ↓frzK_ro, ↓getB, setB, kill, killM, dropK, keysOf, capOf_nn, zeroC, bump, frzT, thaw, gets, putAll, ↓getsK, ↓getR, ↓retK, retv, find, cells, ↓nilpK, ↓nilsK, ↓nilfK, ↓niliK, ↓bndK, ↓cutK, ↓fillK, ↓exitK, List.append_nil, List.drop, List.take, Nat.reduceAdd, Nat.reduceSub, Nat.reduceMul, Nat.reduceLT, Nat.reduceLeDiff, Nat.zero_add, Nat.add_zero, Nat.mul_one, Int.reduceToNat, Nat.reduceEqDiff, Nat.succ_ne_self, Nat.le_refl, Nat.one_ne_zero, Nat.reduceBEq, Nat.lt_irrefl, List.length_append, Int.toNat_zero, Int.toNat_one, List.take_zero, List.drop_zero, Nat.zero_mul, sel, rest, keyIn, ↓reduceIte, ↓if_pos, ↓if_neg, reduceCtorEq, Bool.not_true, Bool.not_false, Bool.false_eq_true, Bool.true_eq_false, and_self, and_true, true_and, false_and, and_false, decide_true, decide_false, decide_eq_true, decide_eq_false, decide_eq_true_eq, decide_eq_false_iff_not, Bool.not_eq_true, Bool.not_eq_false, Bool.not_eq_eq_eq_not, Decidable.not_not, ↓appK, eA]
      exact doneW rfl (Wk1.nils 1)
    · refine calls_bytes_Clone (walk0 60 trivial (fun A eA => ?_))
      simp only [c_bytes_Clone, ↓advStep, ↓execK, ↓opK, ↓binK, ↓intK, ↓strK, evs, ev, getT, setT, put, List.replicate, List.cons_append, List.nil_append, List.length_cons, List.length_nil, ↓mapK, ↓frzK_sl, ↓frzK_agg, ↓frzK_tup, ↓frzK_ifc, ↓frzK_func, ↓frzK_int, ↓frzK_bool, ↓frzK_str, ↓frzK_nilp, ↓frzK_nils, ↓frzK_nilm, ↓frzK_nilf, ↓frzK_nili, ↓frzK_fz, ↓frzK_any, ↓frzK_ptr, ↓frzK_ro, ↓getB, setB, kill, killM, dropK, keysOf, capOf_nn, zeroC, bump, frzT, thaw, gets, putAll, ↓getsK, ↓getR, ↓retK, retv, find, cells, ↓nilpK, ↓nilsK, ↓nilfK, ↓niliK, ↓bndK, ↓cutK, ↓fillK, ↓exitK, List.append_nil, List.drop, List.take, Nat.reduceAdd, Nat.reduceSub, Nat.reduceMul, Nat.reduceLT, Nat.reduceLeDiff, Nat.zero_add, Nat.add_zero, Nat.mul_one, Int.reduceToNat, Nat.reduceEqDiff, Nat.succ_ne_self, Nat.le_refl, Nat.one_ne_zero, Nat.reduceBEq, Nat.lt_irrefl, List.length_append, Int.toNat_zero, Int.toNat_one, List.take_zero, List.drop_zero, Nat.zero_mul, sel, rest, keyIn, ↓reduceIte, ↓if_pos, ↓if_neg, reduceCtorEq, Bool.not_true, Bool.not_false, Bool.false_eq_true, Bool.true_eq_false, and_self, and_true, true_and, false_and, and_false, decide_true, decide_false, decide_eq_true, decide_eq_false, decide_eq_true_eq, decide_eq_false_iff_not, Bool.not_eq_true, Bool.not_eq_false, Bool.not_eq_eq_eq_not, Decidable.not_not, ↓appK, eA, allSz]
      exact doneW rfl (Wk1.cap 1 _ _)
  | cons b bs =>
    simp only [List.length_cons] at hlen
    have h1 : ¬ (bs.length + 1 = 0) := by omega
    have h2 : bs.length + 1 ≤ 1099511627776 ∧ bs.length + 1 ≤ 1099511627776 := ⟨hlen, hlen⟩
    have h3 : 0 < bs.length + 1 := by omega
    refine calls_bytes_Clone (walk0 60 trivial (fun A eA => ?_))
    simp only [c_bytes_Clone, ↓advStep, ↓execK, ↓opK, ↓binK, ↓intK, ↓strK, evs, ev, getT, setT, put, List.replicate, List.cons_append, List.nil_append, List.length_cons, List.length_nil, ↓mapK, ↓frzK_sl, ↓frzK_agg, ↓frzK_tup, ↓frzK_ifc, ↓frzK_func, ↓frzK_int, ↓frzK_bool, ↓frzK_str, ↓frzK_nilp, ↓frzK_nils, ↓frzK_nilm, ↓frzK_nilf, ↓frzK_nili, ↓frzK_fz, ↓frzK_any, ↓frzK_ptr, ↓frzK_ro, ↓getB, setB, kill, killM, dropK, keysOf, capOf_nn, zeroC, bump, frzT, thaw, gets, putAll, ↓getsK, ↓getR, ↓retK, retv, find, cells, ↓nilpK, ↓nilsK, ↓nilfK, ↓niliK, ↓bndK, ↓cutK, ↓fillK, ↓exitK, List.append_nil, List.drop, List.take, Nat.reduceAdd, Nat.reduceSub, Nat.reduceMul, Nat.reduceLT, Nat.reduceLeDiff, Nat.zero_add, Nat.add_zero, Nat.mul_one, Int.reduceToNat, Nat.reduceEqDiff, Nat.succ_ne_self, Nat.le_refl, Nat.one_ne_zero, Nat.reduceBEq, Nat.lt_irrefl, List.length_append, Int.toNat_zero, Int.toNat_one, List.take_zero, List.drop_zero, Nat.zero_mul, sel, rest, keyIn, ↓reduceIte, ↓if_pos, ↓if_neg, reduceCtorEq, Bool.not_true, Bool.not_false, Bool.false_eq_true, Bool.true_eq_false, and_self, and_true, true_and, false_and, and_false, decide_true, decide_false, decide_eq_true, decide_eq_false, decide_eq_true_eq, decide_eq_false_iff_not, Bool.not_eq_true, Bool.not_eq_false, Bool.not_eq_eq_eq_not, Decidable.not_not, ↓appK, eA, allSz, bv, ↓nilsK_avs, avs_len, h1, hlen, h3, catCells, catCells_avs]
    refine doneG ?_
    simp (disch := first | omega | (simp only [avs_len, List.length_cons, List.length_append, List.length_nil, List.length_take, List.length_drop, List.length_map]; omega)) only [↓advStep, ↓execK, ↓opK, ↓binK, ↓intK, ↓strK, evs, ev, getT, setT, put, List.replicate, List.cons_append, List.nil_append, List.length_cons, List.length_nil, ↓mapK, ↓frzK_sl, ↓frzK_agg, ↓frzK_tup, ↓frzK_ifc, ↓frzK_func, ↓frzK_int, ↓frzK_bool, ↓frzK_str, ↓frzK_nilp, ↓frzK_nils, ↓frzK_nilm, ↓frzK_nilf, ↓frzK_nili, ↓frzK_fz, ↓frzK_any, ↓frzK_ptr, ↓frzK_ro, ↓getB, setB, kill, killM, dropK, keysOf, capOf_nn, zeroC, bump, frzT, thaw, gets, putAll, ↓getsK, ↓getR, ↓retK, retv, find, cells, ↓nilpK, ↓nilsK, ↓nilfK, ↓niliK, ↓bndK, ↓cutK, ↓fillK, ↓exitK, List.append_nil, List.drop, List.take, Nat.reduceAdd, Nat.reduceSub, Nat.reduceMul, Nat.reduceLT, Nat.reduceLeDiff, Nat.zero_add, Nat.add_zero, Nat.mul_one, Int.reduceToNat, Nat.reduceEqDiff, Nat.succ_ne_self, Nat.le_refl, Nat.one_ne_zero, Nat.reduceBEq, Nat.lt_irrefl, List.length_append, Int.toNat_zero, Int.toNat_one, List.take_zero, List.drop_zero, Nat.zero_mul, sel, rest, keyIn, ↓reduceIte, ↓if_pos, ↓if_neg, reduceCtorEq, Bool.not_true, Bool.not_false, Bool.false_eq_true, Bool.true_eq_false, and_self, and_true, true_and, false_and, and_false, decide_true, decide_false, decide_eq_true, decide_eq_false, decide_eq_true_eq, decide_eq_false_iff_not, Bool.not_eq_true, Bool.not_eq_false, Bool.not_eq_eq_eq_not, Decidable.not_not, avs_len, Nat.sub_zero, avs_take_all, ↓frz_ints, chunk]
theorem bytesClone_hcalls (φ : Nat) (nx : Ctr) (a : AV) (es : List AV) (c : Option Nat) (hlen : es.length + 1 ≤ 1099511627776) :
    HCalls Try.prog F_bytes_Clone [.fz 1 (a :: es) c] [] nx (.sl φ 7 (nx 7) 1 0 (es.length + 1)) [(φ, 7, nx 7, some (catCells (a :: es)))] (bump nx 7) := by
  have h1 : ¬ (es.length + 1 = 0) := by omega
  have h3 : 0 < es.length + 1 := by omega
  refine hcalls_bytes_Clone φ [(φ, 7)] (walk0 60 trivial (fun A eA => ?_))
  simp only [c_bytes_Clone, ↓advStep, ↓execK, ↓opK, ↓binK, ↓intK, ↓strK, evs, ev, getT, setT, put, List.replicate, List.cons_append, List.nil_append, List.length_cons, List.length_nil, ↓mapK, ↓frzK_sl, ↓frzK_agg, ↓frzK_tup, ↓frzK_ifc, ↓frzK_func, ↓frzK_int, ↓frzK_bool, ↓frzK_str, ↓frzK_nilp, ↓frzK_nils, ↓frzK_nilm, ↓frzK_nilf, ↓frzK_nili, ↓frzK_fz, ↓frzK_any, ↓frzK_ptr, ↓frzK_ro, ↓getB, setB, kill, killM, dropK, keysOf, capOf_nn, zeroC, bump, frzT, thaw, gets, putAll, ↓getsK, ↓getR, ↓retK, retv, find, cells, ↓nilpK, ↓nilsK, ↓nilfK, ↓niliK, ↓bndK, ↓cutK, ↓fillK, ↓exitK, List.append_nil, List.drop, List.take, Nat.reduceAdd, Nat.reduceSub, Nat.reduceMul, Nat.reduceLT, Nat.reduceLeDiff, Nat.zero_add, Nat.add_zero, Nat.mul_one, Int.reduceToNat, Nat.reduceEqDiff, Nat.succ_ne_self, Nat.le_refl, Nat.one_ne_zero, Nat.reduceBEq, Nat.lt_irrefl, List.length_append, Int.toNat_zero, Int.toNat_one, List.take_zero, List.drop_zero, Nat.zero_mul, sel, rest, keyIn, ↓reduceIte, ↓if_pos, ↓if_neg, reduceCtorEq, Bool.not_true, Bool.not_false, Bool.false_eq_true, Bool.true_eq_false, and_self, and_true, true_and, false_and, and_false, decide_true, decide_false, decide_eq_true, decide_eq_false, decide_eq_true_eq, decide_eq_false_iff_not, Bool.not_eq_true, Bool.not_eq_false, Bool.not_eq_eq_eq_not, Decidable.not_not, ↓appK, eA, allSz, h1, hlen, h3, catCells]
  refine doneH ?_ ?_ rfl
  · simp only [↓advStep, ↓execK, ↓opK, ↓binK, ↓intK, ↓strK, evs, ev, getT, setT, put, List.replicate, List.cons_append, List.nil_append, List.length_cons, List.length_nil, ↓mapK, ↓frzK_sl, ↓frzK_agg, ↓frzK_tup, ↓frzK_ifc, ↓frzK_func, ↓frzK_int, ↓frzK_bool, ↓frzK_str, ↓frzK_nilp, ↓frzK_nils, ↓frzK_nilm, ↓frzK_nilf, ↓frzK_nili, ↓frzK_fz, ↓frzK_any, ↓frzK_ptr, ↓frzK_ro, ↓getB, setB, kill, killM, dropK, keysOf, capOf_nn, zeroC, bump, frzT, thaw, gets, putAll, ↓getsK, ↓getR, ↓retK, retv, find, cells, ↓nilpK, ↓nilsK, ↓nilfK, ↓niliK, ↓bndK, ↓cutK, ↓fillK, ↓exitK, List.append_nil, List.drop, List.take, Nat.reduceAdd, Nat.reduceSub, Nat.reduceMul, Nat.reduceLT, Nat.reduceLeDiff, Nat.zero_add, Nat.add_zero, Nat.mul_one, Int.reduceToNat, Nat.reduceEqDiff, Nat.succ_ne_self, Nat.le_refl, Nat.one_ne_zero, Nat.reduceBEq, Nat.lt_irrefl, List.length_append, Int.toNat_zero, Int.toNat_one, List.take_zero, List.drop_zero, Nat.zero_mul, sel, rest, keyIn, ↓reduceIte, ↓if_pos, ↓if_neg, reduceCtorEq, Bool.not_true, Bool.not_false, Bool.false_eq_true, Bool.true_eq_false, and_self, and_true, true_and, false_and, and_false, decide_true, decide_false, decide_eq_true, decide_eq_false, decide_eq_true_eq, decide_eq_false_iff_not, Bool.not_eq_true, Bool.not_eq_false, Bool.not_eq_eq_eq_not, Decidable.not_not]
  · simp only [↓advStep, ↓execK, ↓opK, ↓binK, ↓intK, ↓strK, evs, ev, getT, setT, put, List.replicate, List.cons_append, List.nil_append, List.length_cons, List.length_nil, ↓mapK, ↓frzK_sl, ↓frzK_agg, ↓frzK_tup, ↓frzK_ifc, ↓frzK_func, ↓frzK_int, ↓frzK_bool, ↓frzK_str, ↓frzK_nilp, ↓frzK_nils, ↓frzK_nilm, ↓frzK_nilf, ↓frzK_nili, ↓frzK_fz, ↓frzK_any, ↓frzK_ptr, ↓frzK_ro, ↓getB, setB, kill, killM, dropK, keysOf, capOf_nn, zeroC, bump, frzT, thaw, gets, putAll, ↓getsK, ↓getR, ↓retK, retv, find, cells, ↓nilpK, ↓nilsK, ↓nilfK, ↓niliK, ↓bndK, ↓cutK, ↓fillK, ↓exitK, List.append_nil, List.drop, List.take, Nat.reduceAdd, Nat.reduceSub, Nat.reduceMul, Nat.reduceLT, Nat.reduceLeDiff, Nat.zero_add, Nat.add_zero, Nat.mul_one, Int.reduceToNat, Nat.reduceEqDiff, Nat.succ_ne_self, Nat.le_refl, Nat.one_ne_zero, Nat.reduceBEq, Nat.lt_irrefl, List.length_append, Int.toNat_zero, Int.toNat_one, List.take_zero, List.drop_zero, Nat.zero_mul, sel, rest, keyIn, ↓reduceIte, ↓if_pos, ↓if_neg, reduceCtorEq, Bool.not_true, Bool.not_false, Bool.false_eq_true, Bool.true_eq_false, and_self, and_true, true_and, false_and, and_false, decide_true, decide_false, decide_eq_true, decide_eq_false, decide_eq_true_eq, decide_eq_false_iff_not, Bool.not_eq_true, Bool.not_eq_false, Bool.not_eq_eq_eq_not, Decidable.not_not]
theorem bstr_mk (bs : List Nat) : (⟨(bytesOf (avs bs)).toArray⟩ : ByteArray) = bstr bs := rfl
theorem avs_free (bs : List Nat) (H : Heap) : (avs bs).all (nameFree 9 H) = true := by simp [avs, nameFree]
end Go.Proofs.Ytmokhopjnjecbab
/- Numbers by sevens of bits: plain. -/
namespace Go.Ev
set_option linter.unusedVariables false
/-- Sevens of bits, the least first. -/
def lowS : List Nat → Nat
  | [] => 0
  | b :: l => b % 128 + 128 * lowS l
/-- How many bytes a number has that bytes begin with; none: there is none. -/
def takeGo : Nat → List Nat → Option Nat
  | _, [] => none
  | k, b :: l => if 9 ≤ k then none else if 128 ≤ b then takeGo (k + 1) l else if b = 0 ∧ 0 < k then none else some (k + 1)
theorem lowS_append (a b : List Nat) : lowS (a ++ b) = lowS a + 128 ^ a.length * lowS b := by
  induction a with
  | nil => simp [lowS]
  | cons x a ih => simp only [List.cons_append, lowS, ih, List.length_cons, Nat.pow_succ]; rw [Nat.mul_add, ← Nat.mul_assoc, Nat.mul_comm 128 (128 ^ a.length), ← Nat.add_assoc]
theorem lowS_lt (a : List Nat) : lowS a < 128 ^ a.length := by
  induction a with
  | nil => simp [lowS]
  | cons x a ih => simp only [lowS, List.length_cons, Nat.pow_succ]; omega
theorem takeGo_some : ∀ (l : List Nat) (k n : Nat), takeGo k l = some n → k < n ∧ n ≤ 9 ∧ n ≤ k + l.length
  | [], k, n, h => by simp [takeGo] at h
  | b :: l, k, n, h => by
    simp only [takeGo] at h
    split at h
    · cases h
    · split at h
      · have := takeGo_some l (k + 1) n h
        simp only [List.length_cons]; omega
      · split at h
        · cases h
        · simp only [Option.some.injEq] at h; subst h
          simp only [List.length_cons]; omega
theorem ibits_or (k : IntKind) (hk : k.signed = false) (a b : Nat) (ha : a < 2 ^ k.bits) (hb : b < 2 ^ k.bits) : ibits .or k a b = ((a ||| b : Nat) : Int) := by
  simp only [ibits, BitVec.toNat_or, bv_toNat _ _ ha, bv_toNat _ _ hb]
  exact wrap_nat k hk _ (Nat.or_lt_two_pow ha hb)
theorem and128 : ∀ b : Fin 256, ibits .andNot .u8 (b.1 : Int) 128 = ((b.1 % 128 : Nat) : Int) := by decide +kernel
theorem and128' : ∀ b : Fin 256, (ibits .and .u8 (b.1 : Int) 128 = 0) ↔ b.1 < 128 := by decide +kernel
/-- One more seven of bits. -/
theorem or_step (v k x : Nat) (hv : v < 128 ^ k) (hk : k ≤ 8) (hx : x < 128) : ibits .or .u64 (v : Int) ((x * 2 ^ (7 * k) : Nat) : Int) = ((v + 128 ^ k * x : Nat) : Int) := by
  have e : 128 ^ k = 2 ^ (7 * k) := by rw [Nat.pow_mul]
  rw [e] at hv ⊢
  have h1 : 2 ^ (7 * k) ≤ 2 ^ 56 := Nat.pow_le_pow_right (by omega) (by omega)
  have h2 : x * 2 ^ (7 * k) ≤ 127 * 2 ^ 56 := Nat.mul_le_mul (by omega) h1
  rw [ibits_or .u64 rfl v _ (by show _ < 2 ^ 64; omega) (by show _ < 2 ^ 64; omega), Nat.or_comm, Nat.mul_comm x, ← Nat.two_pow_add_eq_or_of_lt hv, Nat.add_comm]
end Go.Ev
/- The walk through what takes bytes apart: a number. -/
-- short
namespace Go.Proofs.Ytmokhopjnjecbab
open Go.Ev
set_option linter.unusedVariables false
set_option linter.unusedSimpArgs false
set_option maxRecDepth 100000
variable {R : List AV → Heap → Ctr → Prop} {k : List It} {H : Heap} {nx : Ctr} {φ : Nat}

/-- The value, and the state behind it. -/
def rvN (bs : List Nat) : Option Nat → Nat
  | some n => lowS (bs.take n)
  | none => 0
def stN (bs : List Nat) : Option Nat → List AV
  | some n => [bv (bs.drop n), .bool false]
  | none => [.nils, .bool true]
theorem fail_h (f d g : Nat) (x : AV) (b : Bool) (nx : Ctr) : HCalls Try.prog F_codec_In_fail [.ptr f d g 0] [(f, d, g, some [x, .bool b])] nx (.int .i64 0) [(f, d, g, some [.nils, .bool true])] nx := by
  refine hcalls_codec_In_fail 1 [(f, d)] (walk0 100 trivial (fun A eA => ?_))
  simp (disch := first | omega | (simp only [avs_len, List.length_cons, List.length_append, List.length_nil, List.length_take, List.length_drop, List.length_map]; omega) | (simp only [cells, scal1, allSz, List.length_cons, List.length_nil, List.length_append, List.length_map, List.all_cons, List.all_nil, avs_len, beq_self_eq_true, Bool.and_self, and_self, or_true, true_or, reduceCtorEq, *]; done) | fail) only [c_codec_In_fail, go_sem, Nat.reduceAdd, Nat.reduceSub, Nat.reduceMul, Nat.reduceLT, Nat.reduceLeDiff, Int.reduceToNat, Nat.reduceEqDiff, Nat.reduceBEq, ↓reduceIte, reduceCtorEq, eA, scal1]
  exact doneH (by simp only [go_sem, Nat.reduceAdd, Nat.reduceSub, Nat.reduceMul, Nat.reduceLT, Nat.reduceLeDiff, Int.reduceToNat, Nat.reduceEqDiff, Nat.reduceBEq, ↓reduceIte, reduceCtorEq]) rfl rfl
theorem takeGo_nine (k : Nat) (l : List Nat) (h : 9 ≤ k) : takeGo k l = none := by
  cases l with
  | nil => rfl
  | cons b l => simp [takeGo, h]
set_option maxHeartbeats 1600000 in
theorem num_loop (bs : List Nat) (hbs : ∀ b ∈ bs, b < 256) (hlen : bs.length ≤ 1099511627776) (f d g : Nat) (nx : Ctr) : ∀ (post pre : List Nat), bs = pre ++ post → pre.length ≤ 9 →
    RunsX Try.prog φ (GivesH [(f, d)] [.t 2] (.int .i64 (rvN bs (takeGo pre.length post) : Nat)) [(f, d, g, some (stN bs (takeGo pre.length post)))] nx) (i_codec_In_Num_0 ++ [.c c_codec_In_Num_k0])
      (s_codec_In_Num_0 (.ptr f d g 0) (.int .u64 (lowS pre : Nat)) (bv bs) (.int .i64 (bs.length : Nat)) (.int .i64 (pre.length : Nat))) [(f, d, g, some [bv bs, .bool false])] nx := by
  intro post
  induction post with
  | nil =>
    intro pre hpre hk9
    rw [List.append_nil] at hpre
    subst hpre
    refine round (its := [.blk 0 wb_codec_In_Num_0]) (k0 := [.c c_codec_In_Num_k0]) 100 trivial trivial (fun A eA => ?_)
    have h1 : ¬ ((bs.length : Int) < bs.length) := by omega
    simp (disch := first | omega | (simp only [avs_len, List.length_cons, List.length_append, List.length_nil, List.length_take, List.length_drop, List.length_map]; omega) | (simp only [cells, scal1, allSz, List.length_cons, List.length_nil, List.length_append, List.length_map, List.all_cons, List.all_nil, avs_len, beq_self_eq_true, Bool.and_self, and_self, or_true, true_or, reduceCtorEq, *]; done) | fail) only [c_codec_In_Num, wl_codec_In_Num_0, s_codec_In_Num_0, c_codec_In_Num_l0, wb_codec_In_Num_0, c_codec_In_Num_k0, go_sem, Nat.reduceAdd, Nat.reduceSub, Nat.reduceMul, Nat.reduceLT, Nat.reduceLeDiff, Int.reduceToNat, Nat.reduceEqDiff, Nat.reduceBEq, ↓reduceIte, reduceCtorEq, eA, h1]
    refine walk0 (its := [.c c_codec_In_Num_k0]) 100 trivial (fun A eA => ?_)
    simp (disch := first | omega | (simp only [avs_len, List.length_cons, List.length_append, List.length_nil, List.length_take, List.length_drop, List.length_map]; omega) | (simp only [cells, scal1, allSz, List.length_cons, List.length_nil, List.length_append, List.length_map, List.all_cons, List.all_nil, avs_len, beq_self_eq_true, Bool.and_self, and_self, or_true, true_or, reduceCtorEq, *]; done) | fail) only [c_codec_In_Num, wl_codec_In_Num_0, s_codec_In_Num_0, c_codec_In_Num_l0, wb_codec_In_Num_0, c_codec_In_Num_k0, go_sem, Nat.reduceAdd, Nat.reduceSub, Nat.reduceMul, Nat.reduceLT, Nat.reduceLeDiff, Int.reduceToNat, Nat.reduceEqDiff, Nat.reduceBEq, ↓reduceIte, reduceCtorEq, eA, h1]
    refine call2 100 trivial trivial [(f, d)] (by simp only [go_sem, Nat.reduceAdd, Nat.reduceSub, Nat.reduceMul, Nat.reduceLT, Nat.reduceLeDiff, Int.reduceToNat, Nat.reduceEqDiff, Nat.reduceBEq, ↓reduceIte, reduceCtorEq] <;> rfl) (by simp only [go_sem, Nat.reduceAdd, Nat.reduceSub, Nat.reduceMul, Nat.reduceLT, Nat.reduceLeDiff, Int.reduceToNat, Nat.reduceEqDiff, Nat.reduceBEq, ↓reduceIte, reduceCtorEq] <;> rfl) (fail_h f d g _ _ _) (.inl rfl) (fun A eA => ?_)
    simp (disch := first | omega | (simp only [avs_len, List.length_cons, List.length_append, List.length_nil, List.length_take, List.length_drop, List.length_map]; omega) | (simp only [cells, scal1, allSz, List.length_cons, List.length_nil, List.length_append, List.length_map, List.all_cons, List.all_nil, avs_len, beq_self_eq_true, Bool.and_self, and_self, or_true, true_or, reduceCtorEq, *]; done) | fail) only [c_codec_In_Num, wl_codec_In_Num_0, s_codec_In_Num_0, c_codec_In_Num_l0, wb_codec_In_Num_0, c_codec_In_Num_k0, go_sem, Nat.reduceAdd, Nat.reduceSub, Nat.reduceMul, Nat.reduceLT, Nat.reduceLeDiff, Int.reduceToNat, Nat.reduceEqDiff, Nat.reduceBEq, ↓reduceIte, reduceCtorEq, eA, h1]
    exact doneH (by simp only [go_sem, Nat.reduceAdd, Nat.reduceSub, Nat.reduceMul, Nat.reduceLT, Nat.reduceLeDiff, Int.reduceToNat, Nat.reduceEqDiff, Nat.reduceBEq, ↓reduceIte, reduceCtorEq]; rfl) rfl rfl
  | cons c post ih =>
    intro pre hpre hk9
    have hl : pre.length < bs.length := by rw [hpre]; simp
    have hc : c < 256 := hbs c (by rw [hpre]; simp)
    have h1 : (pre.length : Int) < bs.length := by omega
    have h2 : ¬ ((pre.length : Int) < 0) := by omega
    have e1 : (avs bs)[pre.length]? = some (.int .u8 (c : Nat)) := by
      rw [avs_get, hpre, List.getElem?_append_right (Nat.le_refl _), Nat.sub_self]; rfl
    have e4 : IntKind.i64.wrap ((pre.length : Int) + 1) = ((pre.length + 1 : Nat) : Int) := by rw [IntKind.wrap_i64]; omega
    by_cases h9 : 9 ≤ pre.length
    · rw [takeGo_nine _ _ h9]
      refine round (its := [.blk 0 wb_codec_In_Num_0]) (k0 := [.c c_codec_In_Num_k0]) 100 trivial trivial (fun A eA => ?_)
      simp (disch := first | omega | (simp only [avs_len, List.length_cons, List.length_append, List.length_nil, List.length_take, List.length_drop, List.length_map]; omega) | (simp only [cells, scal1, allSz, List.length_cons, List.length_nil, List.length_append, List.length_map, List.all_cons, List.all_nil, avs_len, beq_self_eq_true, Bool.and_self, and_self, or_true, true_or, reduceCtorEq, *]; done) | fail) only [c_codec_In_Num, wl_codec_In_Num_0, s_codec_In_Num_0, c_codec_In_Num_l0, wb_codec_In_Num_0, c_codec_In_Num_k0, go_sem, Nat.reduceAdd, Nat.reduceSub, Nat.reduceMul, Nat.reduceLT, Nat.reduceLeDiff, Int.reduceToNat, Nat.reduceEqDiff, Nat.reduceBEq, ↓reduceIte, reduceCtorEq, eA, h1, h2, e1, bv, avs_len, Int.toNat_natCast]
      refine walk0 (its := [.c c_codec_In_Num_k0]) 100 trivial (fun A eA => ?_)
      simp (disch := first | omega | (simp only [avs_len, List.length_cons, List.length_append, List.length_nil, List.length_take, List.length_drop, List.length_map]; omega) | (simp only [cells, scal1, allSz, List.length_cons, List.length_nil, List.length_append, List.length_map, List.all_cons, List.all_nil, avs_len, beq_self_eq_true, Bool.and_self, and_self, or_true, true_or, reduceCtorEq, *]; done) | fail) only [c_codec_In_Num, wl_codec_In_Num_0, s_codec_In_Num_0, c_codec_In_Num_l0, wb_codec_In_Num_0, c_codec_In_Num_k0, go_sem, Nat.reduceAdd, Nat.reduceSub, Nat.reduceMul, Nat.reduceLT, Nat.reduceLeDiff, Int.reduceToNat, Nat.reduceEqDiff, Nat.reduceBEq, ↓reduceIte, reduceCtorEq, eA, h1]
      refine call2 100 trivial trivial [(f, d)] (by simp only [go_sem, Nat.reduceAdd, Nat.reduceSub, Nat.reduceMul, Nat.reduceLT, Nat.reduceLeDiff, Int.reduceToNat, Nat.reduceEqDiff, Nat.reduceBEq, ↓reduceIte, reduceCtorEq] <;> rfl) (by simp only [go_sem, Nat.reduceAdd, Nat.reduceSub, Nat.reduceMul, Nat.reduceLT, Nat.reduceLeDiff, Int.reduceToNat, Nat.reduceEqDiff, Nat.reduceBEq, ↓reduceIte, reduceCtorEq] <;> rfl) (fail_h f d g _ _ _) (.inl rfl) (fun A eA => ?_)
      simp (disch := first | omega | (simp only [avs_len, List.length_cons, List.length_append, List.length_nil, List.length_take, List.length_drop, List.length_map]; omega) | (simp only [cells, scal1, allSz, List.length_cons, List.length_nil, List.length_append, List.length_map, List.all_cons, List.all_nil, avs_len, beq_self_eq_true, Bool.and_self, and_self, or_true, true_or, reduceCtorEq, *]; done) | fail) only [c_codec_In_Num, wl_codec_In_Num_0, s_codec_In_Num_0, c_codec_In_Num_l0, wb_codec_In_Num_0, c_codec_In_Num_k0, go_sem, Nat.reduceAdd, Nat.reduceSub, Nat.reduceMul, Nat.reduceLT, Nat.reduceLeDiff, Int.reduceToNat, Nat.reduceEqDiff, Nat.reduceBEq, ↓reduceIte, reduceCtorEq, eA, h1]
      exact doneH (by simp only [go_sem, Nat.reduceAdd, Nat.reduceSub, Nat.reduceMul, Nat.reduceLT, Nat.reduceLeDiff, Int.reduceToNat, Nat.reduceEqDiff, Nat.reduceBEq, ↓reduceIte, reduceCtorEq]; rfl) rfl rfl
    have hv := lowS_lt pre
    have e2 := and128 ⟨c, hc⟩
    have e3 := and128' ⟨c, hc⟩
    simp only at e2 e3
    have e5 : IntKind.u64.wrap ((c % 128 : Nat) : Int) = ((c % 128 : Nat) : Int) := wrap_nat .u64 rfl _ (by show _ < 2 ^ 64; omega)
    have e6 : IntKind.i64.wrap (7 * (pre.length : Int)) = ((7 * pre.length : Nat) : Int) := by rw [IntKind.wrap_i64]; omega
    have hp : 2 ^ (7 * pre.length) ≤ 2 ^ 56 := Nat.pow_le_pow_right (by omega) (by omega)
    have e7 : ishl .u64 ((c % 128 : Nat) : Int) ((7 * pre.length : Nat) : Int) = ((c % 128 * 2 ^ (7 * pre.length) : Nat) : Int) := by
      unfold ishl
      rw [Int.toNat_natCast, Nat.min_eq_left (by show _ ≤ 64; omega)]
      have h3 : c % 128 * 2 ^ (7 * pre.length) ≤ 127 * 2 ^ 56 := Nat.mul_le_mul (by omega) hp
      rw [show (((c % 128 : Nat) : Int) * 2 ^ (7 * pre.length)) = ((c % 128 * 2 ^ (7 * pre.length) : Nat) : Int) by push_cast; rfl]
      exact wrap_nat .u64 rfl _ (by show _ < 2 ^ 64; omega)
    have e8 := or_step (lowS pre) pre.length (c % 128) hv (by omega) (by omega)
    have e9 : lowS pre + 128 ^ pre.length * (c % 128) = lowS (pre ++ [c]) := by rw [lowS_append]; simp [lowS]
    rw [e9] at e8
    by_cases h128 : 128 ≤ c
    · have et : takeGo pre.length (c :: post) = takeGo (pre.length + 1) post := by simp [takeGo, h9, h128]
      rw [et]
      have e10 : ¬ (ibits .and .u8 (c : Int) 128 = 0) := by rw [e3]; omega
      refine round (its := [.blk 0 wb_codec_In_Num_0]) (k0 := [.c c_codec_In_Num_k0]) 100 trivial trivial (fun A eA => ?_)
      simp (disch := first | omega | (simp only [avs_len, List.length_cons, List.length_append, List.length_nil, List.length_take, List.length_drop, List.length_map]; omega) | (simp only [cells, scal1, allSz, List.length_cons, List.length_nil, List.length_append, List.length_map, List.all_cons, List.all_nil, avs_len, beq_self_eq_true, Bool.and_self, and_self, or_true, true_or, reduceCtorEq, *]; done) | fail) only [c_codec_In_Num, wl_codec_In_Num_0, s_codec_In_Num_0, c_codec_In_Num_l0, wb_codec_In_Num_0, c_codec_In_Num_k0, go_sem, Nat.reduceAdd, Nat.reduceSub, Nat.reduceMul, Nat.reduceLT, Nat.reduceLeDiff, Int.reduceToNat, Nat.reduceEqDiff, Nat.reduceBEq, ↓reduceIte, reduceCtorEq, eA, h1, h2, e1, e2, e4, e5, e6, e7, e8, e10, bv, avs_len, Int.toNat_natCast]
      have := ih (pre ++ [c]) (by rw [hpre]; simp) (by simp; omega)
      rw [show (pre ++ [c]).length = pre.length + 1 by simp] at this
      exact this
    have e10 : ibits .and .u8 (c : Int) 128 = 0 := by rw [e3]; omega
    by_cases hz : c = 0 ∧ 0 < pre.length
    · have et : takeGo pre.length (c :: post) = none := by simp only [takeGo]; rw [if_neg h9, if_neg h128, if_pos hz]
      rw [et]
      have z1 : ((c : Int) = 0) ↔ True := iff_of_true (by omega) trivial
      have z2 : (0 : Int) < (pre.length : Int) := by omega
      refine round (its := [.blk 0 wb_codec_In_Num_0]) (k0 := [.c c_codec_In_Num_k0]) 100 trivial trivial (fun A eA => ?_)
      simp (disch := first | omega | (simp only [avs_len, List.length_cons, List.length_append, List.length_nil, List.length_take, List.length_drop, List.length_map]; omega) | (simp only [cells, scal1, allSz, List.length_cons, List.length_nil, List.length_append, List.length_map, List.all_cons, List.all_nil, avs_len, beq_self_eq_true, Bool.and_self, and_self, or_true, true_or, reduceCtorEq, *]; done) | fail) only [c_codec_In_Num, wl_codec_In_Num_0, s_codec_In_Num_0, c_codec_In_Num_l0, wb_codec_In_Num_0, c_codec_In_Num_k0, go_sem, Nat.reduceAdd, Nat.reduceSub, Nat.reduceMul, Nat.reduceLT, Nat.reduceLeDiff, Int.reduceToNat, Nat.reduceEqDiff, Nat.reduceBEq, ↓reduceIte, reduceCtorEq, eA, h1, h2, e1, e2, e4, e5, e6, e7, e8, e10, z1, z2, bv, avs_len, Int.toNat_natCast]
      refine walk0 (its := [.c c_codec_In_Num_k0]) 100 trivial (fun A eA => ?_)
      simp (disch := first | omega | (simp only [avs_len, List.length_cons, List.length_append, List.length_nil, List.length_take, List.length_drop, List.length_map]; omega) | (simp only [cells, scal1, allSz, List.length_cons, List.length_nil, List.length_append, List.length_map, List.all_cons, List.all_nil, avs_len, beq_self_eq_true, Bool.and_self, and_self, or_true, true_or, reduceCtorEq, *]; done) | fail) only [c_codec_In_Num, wl_codec_In_Num_0, s_codec_In_Num_0, c_codec_In_Num_l0, wb_codec_In_Num_0, c_codec_In_Num_k0, go_sem, Nat.reduceAdd, Nat.reduceSub, Nat.reduceMul, Nat.reduceLT, Nat.reduceLeDiff, Int.reduceToNat, Nat.reduceEqDiff, Nat.reduceBEq, ↓reduceIte, reduceCtorEq, eA, h1]
      refine call2 100 trivial trivial [(f, d)] (by simp only [go_sem, Nat.reduceAdd, Nat.reduceSub, Nat.reduceMul, Nat.reduceLT, Nat.reduceLeDiff, Int.reduceToNat, Nat.reduceEqDiff, Nat.reduceBEq, ↓reduceIte, reduceCtorEq] <;> rfl) (by simp only [go_sem, Nat.reduceAdd, Nat.reduceSub, Nat.reduceMul, Nat.reduceLT, Nat.reduceLeDiff, Int.reduceToNat, Nat.reduceEqDiff, Nat.reduceBEq, ↓reduceIte, reduceCtorEq] <;> rfl) (fail_h f d g _ _ _) (.inl rfl) (fun A eA => ?_)
      simp (disch := first | omega | (simp only [avs_len, List.length_cons, List.length_append, List.length_nil, List.length_take, List.length_drop, List.length_map]; omega) | (simp only [cells, scal1, allSz, List.length_cons, List.length_nil, List.length_append, List.length_map, List.all_cons, List.all_nil, avs_len, beq_self_eq_true, Bool.and_self, and_self, or_true, true_or, reduceCtorEq, *]; done) | fail) only [c_codec_In_Num, wl_codec_In_Num_0, s_codec_In_Num_0, c_codec_In_Num_l0, wb_codec_In_Num_0, c_codec_In_Num_k0, go_sem, Nat.reduceAdd, Nat.reduceSub, Nat.reduceMul, Nat.reduceLT, Nat.reduceLeDiff, Int.reduceToNat, Nat.reduceEqDiff, Nat.reduceBEq, ↓reduceIte, reduceCtorEq, eA, h1]
      exact doneH (by simp only [go_sem, Nat.reduceAdd, Nat.reduceSub, Nat.reduceMul, Nat.reduceLT, Nat.reduceLeDiff, Int.reduceToNat, Nat.reduceEqDiff, Nat.reduceBEq, ↓reduceIte, reduceCtorEq]; rfl) rfl rfl
    have et : takeGo pre.length (c :: post) = some (pre.length + 1) := by simp only [takeGo]; rw [if_neg h9, if_neg h128, if_neg hz]
    rw [et]
    have hv2 := lowS_lt (pre ++ [c])
    have hq : 128 ^ (pre ++ [c]).length ≤ 128 ^ 9 := Nat.pow_le_pow_right (by omega) (by simp; omega)
    have q2 : lowS (pre ++ [c]) < 9223372036854775808 := by omega
    have e11 : IntKind.i64.wrap ((lowS (pre ++ [c]) : Nat) : Int) = ((lowS (pre ++ [c]) : Nat) : Int) := by rw [IntKind.wrap_i64]; omega
    have ev : rvN bs (some (pre.length + 1)) = lowS (pre ++ [c]) := by
      simp only [rvN]
      rw [hpre, show pre ++ c :: post = (pre ++ [c]) ++ post by simp, show pre.length + 1 = (pre ++ [c]).length by simp, List.take_left]
    rw [ev]
    have hT : (avs bs).take bs.length = avs bs := avs_take_all _ _ (Nat.le_refl _)
    clear hv2 hq hv hp ev et e3 e9 ih
    obtain ⟨V, hV⟩ : ∃ V, V = lowS (pre ++ [c]) := ⟨_, rfl⟩
    rw [← hV] at e8 e11 q2 ⊢
    have et : stN bs (some (pre.length + 1)) = [bv (bs.drop (pre.length + 1)), .bool false] := rfl
    rw [et]
    refine round (its := [.blk 0 wb_codec_In_Num_0]) (k0 := [.c c_codec_In_Num_k0]) 100 trivial trivial (fun A eA => ?_)
    have g1 : ¬ (9223372036854775807 < ((V : Nat) : Int)) := by omega
    by_cases c0 : c = 0
    · have z1 : ((c : Int) = 0) ↔ True := iff_of_true (by omega) trivial
      have z2 : ¬ (0 : Int) < (pre.length : Int) := by omega
      simp (disch := first | omega | (simp only [avs_len, List.length_cons, List.length_append, List.length_nil, List.length_take, List.length_drop, List.length_map]; omega) | (simp only [cells, scal1, allSz, List.length_cons, List.length_nil, List.length_append, List.length_map, List.all_cons, List.all_nil, avs_len, beq_self_eq_true, Bool.and_self, and_self, or_true, true_or, reduceCtorEq, *]; done) | fail) only [c_codec_In_Num, wl_codec_In_Num_0, s_codec_In_Num_0, c_codec_In_Num_l0, wb_codec_In_Num_0, c_codec_In_Num_k0, go_sem, Nat.reduceAdd, Nat.reduceSub, Nat.reduceMul, Nat.reduceLT, Nat.reduceLeDiff, Int.reduceToNat, Nat.reduceEqDiff, Nat.reduceBEq, ↓reduceIte, reduceCtorEq, eA, h1, h2, e1, e2, e4, e5, e6, e7, e8, e10, e11, z1, z2, g1, hT, bv, avs_len, Int.toNat_natCast, avs_drop]
      exact doneH (by simp only [go_sem, Nat.reduceAdd, Nat.reduceSub, Nat.reduceMul, Nat.reduceLT, Nat.reduceLeDiff, Int.reduceToNat, Nat.reduceEqDiff, Nat.reduceBEq, ↓reduceIte, reduceCtorEq]) rfl rfl
    · have z1 : ¬ (c : Int) = 0 := by omega
      simp (disch := first | omega | (simp only [avs_len, List.length_cons, List.length_append, List.length_nil, List.length_take, List.length_drop, List.length_map]; omega) | (simp only [cells, scal1, allSz, List.length_cons, List.length_nil, List.length_append, List.length_map, List.all_cons, List.all_nil, avs_len, beq_self_eq_true, Bool.and_self, and_self, or_true, true_or, reduceCtorEq, *]; done) | fail) only [c_codec_In_Num, wl_codec_In_Num_0, s_codec_In_Num_0, c_codec_In_Num_l0, wb_codec_In_Num_0, c_codec_In_Num_k0, go_sem, Nat.reduceAdd, Nat.reduceSub, Nat.reduceMul, Nat.reduceLT, Nat.reduceLeDiff, Int.reduceToNat, Nat.reduceEqDiff, Nat.reduceBEq, ↓reduceIte, reduceCtorEq, eA, h1, h2, e1, e2, e4, e5, e6, e7, e8, e10, e11, z1, g1, hT, bv, avs_len, Int.toNat_natCast, avs_drop]
      exact doneH (by simp only [go_sem, Nat.reduceAdd, Nat.reduceSub, Nat.reduceMul, Nat.reduceLT, Nat.reduceLeDiff, Int.reduceToNat, Nat.reduceEqDiff, Nat.reduceBEq, ↓reduceIte, reduceCtorEq]) rfl rfl
theorem num_h (bs : List Nat) (hbs : ∀ b ∈ bs, b < 256) (hlen : bs.length ≤ 1099511627776) (f d g : Nat) (nx : Ctr) :
    HCalls Try.prog F_codec_In_Num [.ptr f d g 0] [(f, d, g, some [bv bs, .bool false])] nx (.int .i64 (rvN bs (takeGo 0 bs) : Nat)) [(f, d, g, some (stN bs (takeGo 0 bs)))] nx := by
  refine hcalls_codec_In_Num 1 [(f, d)] (walk0 100 trivial (fun A eA => ?_))
  simp (disch := first | omega | (simp only [avs_len, List.length_cons, List.length_append, List.length_nil, List.length_take, List.length_drop, List.length_map]; omega) | (simp only [cells, scal1, allSz, List.length_cons, List.length_nil, List.length_append, List.length_map, List.all_cons, List.all_nil, avs_len, beq_self_eq_true, Bool.and_self, and_self, or_true, true_or, reduceCtorEq, *]; done) | fail) only [c_codec_In_Num, wl_codec_In_Num_0, s_codec_In_Num_0, c_codec_In_Num_l0, wb_codec_In_Num_0, c_codec_In_Num_k0, go_sem, Nat.reduceAdd, Nat.reduceSub, Nat.reduceMul, Nat.reduceLT, Nat.reduceLeDiff, Int.reduceToNat, Nat.reduceEqDiff, Nat.reduceBEq, ↓reduceIte, reduceCtorEq, eA, bv, avs_len]
  exact num_loop bs hbs hlen f d g nx bs [] rfl (by simp)
theorem num_bad (f d g : Nat) (x : AV) (nx : Ctr) : HCalls Try.prog F_codec_In_Num [.ptr f d g 0] [(f, d, g, some [x, .bool true])] nx (.int .i64 0) [(f, d, g, some [x, .bool true])] nx := by
  refine hcalls_codec_In_Num 1 [(f, d)] (walk0 100 trivial (fun A eA => ?_))
  simp (disch := first | omega | (simp only [avs_len, List.length_cons, List.length_append, List.length_nil, List.length_take, List.length_drop, List.length_map]; omega) | (simp only [cells, scal1, allSz, List.length_cons, List.length_nil, List.length_append, List.length_map, List.all_cons, List.all_nil, avs_len, beq_self_eq_true, Bool.and_self, and_self, or_true, true_or, reduceCtorEq, *]; done) | fail) only [c_codec_In_Num, wl_codec_In_Num_0, s_codec_In_Num_0, c_codec_In_Num_l0, wb_codec_In_Num_0, c_codec_In_Num_k0, go_sem, Nat.reduceAdd, Nat.reduceSub, Nat.reduceMul, Nat.reduceLT, Nat.reduceLeDiff, Int.reduceToNat, Nat.reduceEqDiff, Nat.reduceBEq, ↓reduceIte, reduceCtorEq, eA, scal1]
  exact doneH (by simp only [go_sem, Nat.reduceAdd, Nat.reduceSub, Nat.reduceMul, Nat.reduceLT, Nat.reduceLeDiff, Int.reduceToNat, Nat.reduceEqDiff, Nat.reduceBEq, ↓reduceIte, reduceCtorEq]) rfl rfl
end Go.Proofs.Ytmokhopjnjecbab
/- The walk through what takes bytes apart: texts, counts, truths; what is left. -/
-- short
namespace Go.Proofs.Ytmokhopjnjecbab
open Go.Ev
set_option linter.unusedVariables false
set_option linter.unusedSimpArgs false
set_option maxRecDepth 100000
set_option maxHeartbeats 1600000

theorem num_ok {r r1 : List Nat} {n v : Nat} (hr : ∀ b ∈ r, b < 256) (hl : r.length ≤ 1099511627776) (hn : takeGo 0 r = some n) (hv : v = lowS (r.take n)) (h1 : r1 = r.drop n) (f d g : Nat) (nx : Ctr) :
    HCalls Try.prog F_codec_In_Num [.ptr f d g 0] [(f, d, g, some [bv r, .bool false])] nx (.int .i64 (v : Nat)) [(f, d, g, some [bv r1, .bool false])] nx := by
  have := num_h r hr hl f d g nx
  rw [hn] at this; subst hv h1; exact this
theorem num_no {r : List Nat} (hr : ∀ b ∈ r, b < 256) (hl : r.length ≤ 1099511627776) (hn : takeGo 0 r = none) (f d g : Nat) (nx : Ctr) :
    HCalls Try.prog F_codec_In_Num [.ptr f d g 0] [(f, d, g, some [bv r, .bool false])] nx (.int .i64 0) [(f, d, g, some [.nils, .bool true])] nx := by
  have := num_h r hr hl f d g nx
  rw [hn] at this; exact this
theorem bad_h (f d g : Nat) (x : AV) (b : Bool) (nx : Ctr) : HCalls Try.prog F_codec_In_Bad [.ptr f d g 0] [(f, d, g, some [x, .bool b])] nx (.bool b) [(f, d, g, some [x, .bool b])] nx := by
  refine hcalls_codec_In_Bad 1 [(f, d)] (walk0 100 trivial (fun A eA => ?_))
  simp (disch := first | omega | (simp only [avs_len, List.length_cons, List.length_append, List.length_nil, List.length_take, List.length_drop, List.length_map]; omega) | (simp only [cells, scal1, allSz, List.length_cons, List.length_nil, List.length_append, List.length_map, List.all_cons, List.all_nil, avs_len, beq_self_eq_true, Bool.and_self, and_self, or_true, true_or, reduceCtorEq, *]; done) | fail) only [c_codec_In_Bad, go_sem, Nat.reduceAdd, Nat.reduceSub, Nat.reduceMul, Nat.reduceLT, Nat.reduceLeDiff, Int.reduceToNat, Nat.reduceEqDiff, Nat.reduceBEq, ↓reduceIte, reduceCtorEq, eA, scal1]
  exact doneH (by simp only [go_sem, Nat.reduceAdd, Nat.reduceSub, Nat.reduceMul, Nat.reduceLT, Nat.reduceLeDiff, Int.reduceToNat, Nat.reduceEqDiff, Nat.reduceBEq, ↓reduceIte, reduceCtorEq]) rfl rfl
theorem left_h (f d g : Nat) (bs : List Nat) (b : Bool) (nx : Ctr) : HCalls Try.prog F_codec_In_Left [.ptr f d g 0] [(f, d, g, some [bv bs, .bool b])] nx (.int .i64 (bs.length : Nat)) [(f, d, g, some [bv bs, .bool b])] nx := by
  refine hcalls_codec_In_Left 1 [(f, d)] (walk0 100 trivial (fun A eA => ?_))
  simp (disch := first | omega | (simp only [avs_len, List.length_cons, List.length_append, List.length_nil, List.length_take, List.length_drop, List.length_map]; omega) | (simp only [cells, scal1, allSz, List.length_cons, List.length_nil, List.length_append, List.length_map, List.all_cons, List.all_nil, avs_len, beq_self_eq_true, Bool.and_self, and_self, or_true, true_or, reduceCtorEq, *]; done) | fail) only [c_codec_In_Left, go_sem, Nat.reduceAdd, Nat.reduceSub, Nat.reduceMul, Nat.reduceLT, Nat.reduceLeDiff, Int.reduceToNat, Nat.reduceEqDiff, Nat.reduceBEq, ↓reduceIte, reduceCtorEq, eA, scal1, bv, avs_len]
  exact doneH (by simp only [go_sem, Nat.reduceAdd, Nat.reduceSub, Nat.reduceMul, Nat.reduceLT, Nat.reduceLeDiff, Int.reduceToNat, Nat.reduceEqDiff, Nat.reduceBEq, ↓reduceIte, reduceCtorEq]) rfl rfl
theorem left_n (f d g : Nat) (b : Bool) (nx : Ctr) : HCalls Try.prog F_codec_In_Left [.ptr f d g 0] [(f, d, g, some [.nils, .bool b])] nx (.int .i64 0) [(f, d, g, some [.nils, .bool b])] nx := by
  refine hcalls_codec_In_Left 1 [(f, d)] (walk0 100 trivial (fun A eA => ?_))
  simp (disch := first | omega | (simp only [avs_len, List.length_cons, List.length_append, List.length_nil, List.length_take, List.length_drop, List.length_map]; omega) | (simp only [cells, scal1, allSz, List.length_cons, List.length_nil, List.length_append, List.length_map, List.all_cons, List.all_nil, avs_len, beq_self_eq_true, Bool.and_self, and_self, or_true, true_or, reduceCtorEq, *]; done) | fail) only [c_codec_In_Left, go_sem, Nat.reduceAdd, Nat.reduceSub, Nat.reduceMul, Nat.reduceLT, Nat.reduceLeDiff, Int.reduceToNat, Nat.reduceEqDiff, Nat.reduceBEq, ↓reduceIte, reduceCtorEq, eA, scal1]
  exact doneH (by simp only [go_sem, Nat.reduceAdd, Nat.reduceSub, Nat.reduceMul, Nat.reduceLT, Nat.reduceLeDiff, Int.reduceToNat, Nat.reduceEqDiff, Nat.reduceBEq, ↓reduceIte, reduceCtorEq]) rfl rfl
theorem done_t (f d g : Nat) (bs : List Nat) (h : bs.length = 0) (nx : Ctr) : HCalls Try.prog F_codec_In_Done [.ptr f d g 0] [(f, d, g, some [bv bs, .bool false])] nx (.bool true) [(f, d, g, some [bv bs, .bool false])] nx := by
  refine hcalls_codec_In_Done 1 [(f, d)] (walk0 100 trivial (fun A eA => ?_))
  have h' : ((bs.length : Int) = 0) ↔ True := iff_of_true (by omega) trivial
  simp (disch := first | omega | (simp only [avs_len, List.length_cons, List.length_append, List.length_nil, List.length_take, List.length_drop, List.length_map]; omega) | (simp only [cells, scal1, allSz, List.length_cons, List.length_nil, List.length_append, List.length_map, List.all_cons, List.all_nil, avs_len, beq_self_eq_true, Bool.and_self, and_self, or_true, true_or, reduceCtorEq, *]; done) | fail) only [c_codec_In_Done, go_sem, Nat.reduceAdd, Nat.reduceSub, Nat.reduceMul, Nat.reduceLT, Nat.reduceLeDiff, Int.reduceToNat, Nat.reduceEqDiff, Nat.reduceBEq, ↓reduceIte, reduceCtorEq, eA, scal1, bv, avs_len, h']
  exact doneH (by simp only [go_sem, Nat.reduceAdd, Nat.reduceSub, Nat.reduceMul, Nat.reduceLT, Nat.reduceLeDiff, Int.reduceToNat, Nat.reduceEqDiff, Nat.reduceBEq, ↓reduceIte, reduceCtorEq]) rfl rfl
theorem done_f (f d g : Nat) (bs : List Nat) (h : 0 < bs.length) (nx : Ctr) : HCalls Try.prog F_codec_In_Done [.ptr f d g 0] [(f, d, g, some [bv bs, .bool false])] nx (.bool false) [(f, d, g, some [bv bs, .bool false])] nx := by
  refine hcalls_codec_In_Done 1 [(f, d)] (walk0 100 trivial (fun A eA => ?_))
  have h' : ((bs.length : Int) = 0) ↔ False := iff_of_false (by omega) id
  simp (disch := first | omega | (simp only [avs_len, List.length_cons, List.length_append, List.length_nil, List.length_take, List.length_drop, List.length_map]; omega) | (simp only [cells, scal1, allSz, List.length_cons, List.length_nil, List.length_append, List.length_map, List.all_cons, List.all_nil, avs_len, beq_self_eq_true, Bool.and_self, and_self, or_true, true_or, reduceCtorEq, *]; done) | fail) only [c_codec_In_Done, go_sem, Nat.reduceAdd, Nat.reduceSub, Nat.reduceMul, Nat.reduceLT, Nat.reduceLeDiff, Int.reduceToNat, Nat.reduceEqDiff, Nat.reduceBEq, ↓reduceIte, reduceCtorEq, eA, scal1, bv, avs_len, h']
  exact doneH (by simp only [go_sem, Nat.reduceAdd, Nat.reduceSub, Nat.reduceMul, Nat.reduceLT, Nat.reduceLeDiff, Int.reduceToNat, Nat.reduceEqDiff, Nat.reduceBEq, ↓reduceIte, reduceCtorEq]) rfl rfl
theorem done_b (f d g : Nat) (x : AV) (nx : Ctr) : HCalls Try.prog F_codec_In_Done [.ptr f d g 0] [(f, d, g, some [x, .bool true])] nx (.bool false) [(f, d, g, some [x, .bool true])] nx := by
  refine hcalls_codec_In_Done 1 [(f, d)] (walk0 100 trivial (fun A eA => ?_))
  simp (disch := first | omega | (simp only [avs_len, List.length_cons, List.length_append, List.length_nil, List.length_take, List.length_drop, List.length_map]; omega) | (simp only [cells, scal1, allSz, List.length_cons, List.length_nil, List.length_append, List.length_map, List.all_cons, List.all_nil, avs_len, beq_self_eq_true, Bool.and_self, and_self, or_true, true_or, reduceCtorEq, *]; done) | fail) only [c_codec_In_Done, go_sem, Nat.reduceAdd, Nat.reduceSub, Nat.reduceMul, Nat.reduceLT, Nat.reduceLeDiff, Int.reduceToNat, Nat.reduceEqDiff, Nat.reduceBEq, ↓reduceIte, reduceCtorEq, eA, scal1]
  exact doneH (by simp only [go_sem, Nat.reduceAdd, Nat.reduceSub, Nat.reduceMul, Nat.reduceLT, Nat.reduceLeDiff, Int.reduceToNat, Nat.reduceEqDiff, Nat.reduceBEq, ↓reduceIte, reduceCtorEq]) rfl rfl
theorem text_bad (f d g : Nat) (x : AV) (nx : Ctr) : HCalls Try.prog F_codec_In_Text [.ptr f d g 0] [(f, d, g, some [x, .bool true])] nx (.str ⟨#[]⟩) [(f, d, g, some [x, .bool true])] nx := by
  refine hcalls_codec_In_Text 1 [(f, d)] (walk0 100 trivial (fun A eA => ?_))
  simp (disch := first | omega | (simp only [avs_len, List.length_cons, List.length_append, List.length_nil, List.length_take, List.length_drop, List.length_map]; omega) | (simp only [cells, scal1, allSz, List.length_cons, List.length_nil, List.length_append, List.length_map, List.all_cons, List.all_nil, avs_len, beq_self_eq_true, Bool.and_self, and_self, or_true, true_or, reduceCtorEq, *]; done) | fail) only [c_codec_In_Text, go_sem, Nat.reduceAdd, Nat.reduceSub, Nat.reduceMul, Nat.reduceLT, Nat.reduceLeDiff, Int.reduceToNat, Nat.reduceEqDiff, Nat.reduceBEq, ↓reduceIte, reduceCtorEq, eA, scal1]
  refine call2 100 trivial trivial [(f, d)] (by simp only [go_sem, Nat.reduceAdd, Nat.reduceSub, Nat.reduceMul, Nat.reduceLT, Nat.reduceLeDiff, Int.reduceToNat, Nat.reduceEqDiff, Nat.reduceBEq, ↓reduceIte, reduceCtorEq] <;> rfl) (by simp only [go_sem, Nat.reduceAdd, Nat.reduceSub, Nat.reduceMul, Nat.reduceLT, Nat.reduceLeDiff, Int.reduceToNat, Nat.reduceEqDiff, Nat.reduceBEq, ↓reduceIte, reduceCtorEq] <;> rfl) (num_bad f d g x nx) (.inl rfl) (fun A eA => ?_)
  simp (disch := first | omega | (simp only [avs_len, List.length_cons, List.length_append, List.length_nil, List.length_take, List.length_drop, List.length_map]; omega) | (simp only [cells, scal1, allSz, List.length_cons, List.length_nil, List.length_append, List.length_map, List.all_cons, List.all_nil, avs_len, beq_self_eq_true, Bool.and_self, and_self, or_true, true_or, reduceCtorEq, *]; done) | fail) only [c_codec_In_Text, go_sem, Nat.reduceAdd, Nat.reduceSub, Nat.reduceMul, Nat.reduceLT, Nat.reduceLeDiff, Int.reduceToNat, Nat.reduceEqDiff, Nat.reduceBEq, ↓reduceIte, reduceCtorEq, eA, scal1]
  exact doneH (by simp only [go_sem, Nat.reduceAdd, Nat.reduceSub, Nat.reduceMul, Nat.reduceLT, Nat.reduceLeDiff, Int.reduceToNat, Nat.reduceEqDiff, Nat.reduceBEq, ↓reduceIte, reduceCtorEq]) rfl rfl
theorem text_no {r : List Nat} (hr : ∀ b ∈ r, b < 256) (hl : r.length ≤ 1099511627776) (hn : takeGo 0 r = none) (f d g : Nat) (nx : Ctr) :
    HCalls Try.prog F_codec_In_Text [.ptr f d g 0] [(f, d, g, some [bv r, .bool false])] nx (.str ⟨#[]⟩) [(f, d, g, some [.nils, .bool true])] nx := by
  refine hcalls_codec_In_Text 1 [(f, d)] (walk0 100 trivial (fun A eA => ?_))
  simp (disch := first | omega | (simp only [avs_len, List.length_cons, List.length_append, List.length_nil, List.length_take, List.length_drop, List.length_map]; omega) | (simp only [cells, scal1, allSz, List.length_cons, List.length_nil, List.length_append, List.length_map, List.all_cons, List.all_nil, avs_len, beq_self_eq_true, Bool.and_self, and_self, or_true, true_or, reduceCtorEq, *]; done) | fail) only [c_codec_In_Text, go_sem, Nat.reduceAdd, Nat.reduceSub, Nat.reduceMul, Nat.reduceLT, Nat.reduceLeDiff, Int.reduceToNat, Nat.reduceEqDiff, Nat.reduceBEq, ↓reduceIte, reduceCtorEq, eA, scal1]
  refine call2 100 trivial trivial [(f, d)] (by simp only [go_sem, Nat.reduceAdd, Nat.reduceSub, Nat.reduceMul, Nat.reduceLT, Nat.reduceLeDiff, Int.reduceToNat, Nat.reduceEqDiff, Nat.reduceBEq, ↓reduceIte, reduceCtorEq] <;> rfl) (by simp only [go_sem, Nat.reduceAdd, Nat.reduceSub, Nat.reduceMul, Nat.reduceLT, Nat.reduceLeDiff, Int.reduceToNat, Nat.reduceEqDiff, Nat.reduceBEq, ↓reduceIte, reduceCtorEq] <;> rfl) (num_no hr hl hn f d g nx) (.inl rfl) (fun A eA => ?_)
  simp (disch := first | omega | (simp only [avs_len, List.length_cons, List.length_append, List.length_nil, List.length_take, List.length_drop, List.length_map]; omega) | (simp only [cells, scal1, allSz, List.length_cons, List.length_nil, List.length_append, List.length_map, List.all_cons, List.all_nil, avs_len, beq_self_eq_true, Bool.and_self, and_self, or_true, true_or, reduceCtorEq, *]; done) | fail) only [c_codec_In_Text, go_sem, Nat.reduceAdd, Nat.reduceSub, Nat.reduceMul, Nat.reduceLT, Nat.reduceLeDiff, Int.reduceToNat, Nat.reduceEqDiff, Nat.reduceBEq, ↓reduceIte, reduceCtorEq, eA, scal1]
  exact doneH (by simp only [go_sem, Nat.reduceAdd, Nat.reduceSub, Nat.reduceMul, Nat.reduceLT, Nat.reduceLeDiff, Int.reduceToNat, Nat.reduceEqDiff, Nat.reduceBEq, ↓reduceIte, reduceCtorEq]) rfl rfl
theorem text_much {r r1 : List Nat} {n v : Nat} (hr : ∀ b ∈ r, b < 256) (hl : r.length ≤ 1099511627776) (hn : takeGo 0 r = some n) (hv : v = lowS (r.take n)) (h1 : r1 = r.drop n) (hg : r1.length < v) (f d g : Nat) (nx : Ctr) :
    HCalls Try.prog F_codec_In_Text [.ptr f d g 0] [(f, d, g, some [bv r, .bool false])] nx (.str ⟨#[]⟩) [(f, d, g, some [.nils, .bool true])] nx := by
  have cn := num_ok hr hl hn hv h1 f d g nx
  clear hv
  refine hcalls_codec_In_Text 1 [(f, d)] (walk0 100 trivial (fun A eA => ?_))
  simp (disch := first | omega | (simp only [avs_len, List.length_cons, List.length_append, List.length_nil, List.length_take, List.length_drop, List.length_map]; omega) | (simp only [cells, scal1, allSz, List.length_cons, List.length_nil, List.length_append, List.length_map, List.all_cons, List.all_nil, avs_len, beq_self_eq_true, Bool.and_self, and_self, or_true, true_or, reduceCtorEq, *]; done) | fail) only [c_codec_In_Text, go_sem, Nat.reduceAdd, Nat.reduceSub, Nat.reduceMul, Nat.reduceLT, Nat.reduceLeDiff, Int.reduceToNat, Nat.reduceEqDiff, Nat.reduceBEq, ↓reduceIte, reduceCtorEq, eA, scal1]
  refine call2 100 trivial trivial [(f, d)] (by simp only [go_sem, Nat.reduceAdd, Nat.reduceSub, Nat.reduceMul, Nat.reduceLT, Nat.reduceLeDiff, Int.reduceToNat, Nat.reduceEqDiff, Nat.reduceBEq, ↓reduceIte, reduceCtorEq] <;> rfl) (by simp only [go_sem, Nat.reduceAdd, Nat.reduceSub, Nat.reduceMul, Nat.reduceLT, Nat.reduceLeDiff, Int.reduceToNat, Nat.reduceEqDiff, Nat.reduceBEq, ↓reduceIte, reduceCtorEq] <;> rfl) cn (.inl rfl) (fun A eA => ?_)
  simp (disch := first | omega | (simp only [avs_len, List.length_cons, List.length_append, List.length_nil, List.length_take, List.length_drop, List.length_map]; omega) | (simp only [cells, scal1, allSz, List.length_cons, List.length_nil, List.length_append, List.length_map, List.all_cons, List.all_nil, avs_len, beq_self_eq_true, Bool.and_self, and_self, or_true, true_or, reduceCtorEq, *]; done) | fail) only [c_codec_In_Text, go_sem, Nat.reduceAdd, Nat.reduceSub, Nat.reduceMul, Nat.reduceLT, Nat.reduceLeDiff, Int.reduceToNat, Nat.reduceEqDiff, Nat.reduceBEq, ↓reduceIte, reduceCtorEq, eA, scal1, bv, avs_len]
  refine call2 100 trivial trivial [(f, d)] (by simp only [go_sem, Nat.reduceAdd, Nat.reduceSub, Nat.reduceMul, Nat.reduceLT, Nat.reduceLeDiff, Int.reduceToNat, Nat.reduceEqDiff, Nat.reduceBEq, ↓reduceIte, reduceCtorEq] <;> rfl) (by simp only [go_sem, Nat.reduceAdd, Nat.reduceSub, Nat.reduceMul, Nat.reduceLT, Nat.reduceLeDiff, Int.reduceToNat, Nat.reduceEqDiff, Nat.reduceBEq, ↓reduceIte, reduceCtorEq] <;> rfl) (fail_h f d g _ _ _) (.inl rfl) (fun A eA => ?_)
  simp (disch := first | omega | (simp only [avs_len, List.length_cons, List.length_append, List.length_nil, List.length_take, List.length_drop, List.length_map]; omega) | (simp only [cells, scal1, allSz, List.length_cons, List.length_nil, List.length_append, List.length_map, List.all_cons, List.all_nil, avs_len, beq_self_eq_true, Bool.and_self, and_self, or_true, true_or, reduceCtorEq, *]; done) | fail) only [c_codec_In_Text, go_sem, Nat.reduceAdd, Nat.reduceSub, Nat.reduceMul, Nat.reduceLT, Nat.reduceLeDiff, Int.reduceToNat, Nat.reduceEqDiff, Nat.reduceBEq, ↓reduceIte, reduceCtorEq, eA, scal1]
  exact doneH (by simp only [go_sem, Nat.reduceAdd, Nat.reduceSub, Nat.reduceMul, Nat.reduceLT, Nat.reduceLeDiff, Int.reduceToNat, Nat.reduceEqDiff, Nat.reduceBEq, ↓reduceIte, reduceCtorEq]) rfl rfl
theorem text_ok {r r1 : List Nat} {n v : Nat} (hr : ∀ b ∈ r, b < 256) (hl : r.length ≤ 1099511627776) (hn : takeGo 0 r = some n) (hv : v = lowS (r.take n)) (h1 : r1 = r.drop n) (hg : v ≤ r1.length) (f d g : Nat) (nx : Ctr) :
    HCalls Try.prog F_codec_In_Text [.ptr f d g 0] [(f, d, g, some [bv r, .bool false])] nx (.str (bstr (r1.take v))) [(f, d, g, some [bv (r1.drop v), .bool false])] nx := by
  have cn := num_ok hr hl hn hv h1 f d g nx
  have hr1 : ∀ b ∈ r1.take v, b < 256 := fun b hb => hr b (List.mem_of_mem_drop (h1 ▸ List.mem_of_mem_take hb))
  have hib := isBytes_avs hr1
  have hT : (avs r1).take r1.length = avs r1 := avs_take_all _ _ (Nat.le_refl _)
  clear hv
  refine hcalls_codec_In_Text 1 [(f, d)] (walk0 100 trivial (fun A eA => ?_))
  simp (disch := first | omega | (simp only [avs_len, List.length_cons, List.length_append, List.length_nil, List.length_take, List.length_drop, List.length_map]; omega) | (simp only [cells, scal1, allSz, List.length_cons, List.length_nil, List.length_append, List.length_map, List.all_cons, List.all_nil, avs_len, beq_self_eq_true, Bool.and_self, and_self, or_true, true_or, reduceCtorEq, *]; done) | fail) only [c_codec_In_Text, go_sem, Nat.reduceAdd, Nat.reduceSub, Nat.reduceMul, Nat.reduceLT, Nat.reduceLeDiff, Int.reduceToNat, Nat.reduceEqDiff, Nat.reduceBEq, ↓reduceIte, reduceCtorEq, eA, scal1]
  refine call2 100 trivial trivial [(f, d)] (by simp only [go_sem, Nat.reduceAdd, Nat.reduceSub, Nat.reduceMul, Nat.reduceLT, Nat.reduceLeDiff, Int.reduceToNat, Nat.reduceEqDiff, Nat.reduceBEq, ↓reduceIte, reduceCtorEq] <;> rfl) (by simp only [go_sem, Nat.reduceAdd, Nat.reduceSub, Nat.reduceMul, Nat.reduceLT, Nat.reduceLeDiff, Int.reduceToNat, Nat.reduceEqDiff, Nat.reduceBEq, ↓reduceIte, reduceCtorEq] <;> rfl) cn (.inl rfl) (fun A eA => ?_)
  simp (disch := first | omega | (simp only [avs_len, List.length_cons, List.length_append, List.length_nil, List.length_take, List.length_drop, List.length_map]; omega) | (simp only [cells, scal1, allSz, List.length_cons, List.length_nil, List.length_append, List.length_map, List.all_cons, List.all_nil, avs_len, beq_self_eq_true, Bool.and_self, and_self, or_true, true_or, reduceCtorEq, *]; done) | fail) only [c_codec_In_Text, go_sem, Nat.reduceAdd, Nat.reduceSub, Nat.reduceMul, Nat.reduceLT, Nat.reduceLeDiff, Int.reduceToNat, Nat.reduceEqDiff, Nat.reduceBEq, ↓reduceIte, reduceCtorEq, eA, scal1, bv, avs_len, Int.toNat_natCast, hT, avs_take, avs_drop, hib, bstr_mk]
  exact doneH (by simp only [go_sem, Nat.reduceAdd, Nat.reduceSub, Nat.reduceMul, Nat.reduceLT, Nat.reduceLeDiff, Int.reduceToNat, Nat.reduceEqDiff, Nat.reduceBEq, ↓reduceIte, reduceCtorEq]) rfl rfl
theorem count_bad (f d g : Nat) (x : AV) (most : Int) (h0 : 0 ≤ most) (nx : Ctr) : HCalls Try.prog F_codec_In_Count [.ptr f d g 0, .int .i64 most] [(f, d, g, some [x, .bool true])] nx (.int .i64 0) [(f, d, g, some [x, .bool true])] nx := by
  refine hcalls_codec_In_Count 1 [(f, d)] (walk0 100 trivial (fun A eA => ?_))
  simp (disch := first | omega | (simp only [avs_len, List.length_cons, List.length_append, List.length_nil, List.length_take, List.length_drop, List.length_map]; omega) | (simp only [cells, scal1, allSz, List.length_cons, List.length_nil, List.length_append, List.length_map, List.all_cons, List.all_nil, avs_len, beq_self_eq_true, Bool.and_self, and_self, or_true, true_or, reduceCtorEq, *]; done) | fail) only [c_codec_In_Count, go_sem, Nat.reduceAdd, Nat.reduceSub, Nat.reduceMul, Nat.reduceLT, Nat.reduceLeDiff, Int.reduceToNat, Nat.reduceEqDiff, Nat.reduceBEq, ↓reduceIte, reduceCtorEq, eA, scal1]
  refine call2 100 trivial trivial [(f, d)] (by simp only [go_sem, Nat.reduceAdd, Nat.reduceSub, Nat.reduceMul, Nat.reduceLT, Nat.reduceLeDiff, Int.reduceToNat, Nat.reduceEqDiff, Nat.reduceBEq, ↓reduceIte, reduceCtorEq] <;> rfl) (by simp only [go_sem, Nat.reduceAdd, Nat.reduceSub, Nat.reduceMul, Nat.reduceLT, Nat.reduceLeDiff, Int.reduceToNat, Nat.reduceEqDiff, Nat.reduceBEq, ↓reduceIte, reduceCtorEq] <;> rfl) (num_bad f d g x nx) (.inl rfl) (fun A eA => ?_)
  simp (disch := first | omega | (simp only [avs_len, List.length_cons, List.length_append, List.length_nil, List.length_take, List.length_drop, List.length_map]; omega) | (simp only [cells, scal1, allSz, List.length_cons, List.length_nil, List.length_append, List.length_map, List.all_cons, List.all_nil, avs_len, beq_self_eq_true, Bool.and_self, and_self, or_true, true_or, reduceCtorEq, *]; done) | fail) only [c_codec_In_Count, go_sem, Nat.reduceAdd, Nat.reduceSub, Nat.reduceMul, Nat.reduceLT, Nat.reduceLeDiff, Int.reduceToNat, Nat.reduceEqDiff, Nat.reduceBEq, ↓reduceIte, reduceCtorEq, eA, scal1]
  exact doneH (by simp only [go_sem, Nat.reduceAdd, Nat.reduceSub, Nat.reduceMul, Nat.reduceLT, Nat.reduceLeDiff, Int.reduceToNat, Nat.reduceEqDiff, Nat.reduceBEq, ↓reduceIte, reduceCtorEq]) rfl rfl
theorem count_bad' (f d g : Nat) (x : AV) (most : Int) (h0 : most < 0) (nx : Ctr) : HCalls Try.prog F_codec_In_Count [.ptr f d g 0, .int .i64 most] [(f, d, g, some [x, .bool true])] nx (.int .i64 0) [(f, d, g, some [.nils, .bool true])] nx := by
  refine hcalls_codec_In_Count 1 [(f, d)] (walk0 100 trivial (fun A eA => ?_))
  simp (disch := first | omega | (simp only [avs_len, List.length_cons, List.length_append, List.length_nil, List.length_take, List.length_drop, List.length_map]; omega) | (simp only [cells, scal1, allSz, List.length_cons, List.length_nil, List.length_append, List.length_map, List.all_cons, List.all_nil, avs_len, beq_self_eq_true, Bool.and_self, and_self, or_true, true_or, reduceCtorEq, *]; done) | fail) only [c_codec_In_Count, go_sem, Nat.reduceAdd, Nat.reduceSub, Nat.reduceMul, Nat.reduceLT, Nat.reduceLeDiff, Int.reduceToNat, Nat.reduceEqDiff, Nat.reduceBEq, ↓reduceIte, reduceCtorEq, eA, scal1]
  refine call2 100 trivial trivial [(f, d)] (by simp only [go_sem, Nat.reduceAdd, Nat.reduceSub, Nat.reduceMul, Nat.reduceLT, Nat.reduceLeDiff, Int.reduceToNat, Nat.reduceEqDiff, Nat.reduceBEq, ↓reduceIte, reduceCtorEq] <;> rfl) (by simp only [go_sem, Nat.reduceAdd, Nat.reduceSub, Nat.reduceMul, Nat.reduceLT, Nat.reduceLeDiff, Int.reduceToNat, Nat.reduceEqDiff, Nat.reduceBEq, ↓reduceIte, reduceCtorEq] <;> rfl) (num_bad f d g x nx) (.inl rfl) (fun A eA => ?_)
  simp (disch := first | omega | (simp only [avs_len, List.length_cons, List.length_append, List.length_nil, List.length_take, List.length_drop, List.length_map]; omega) | (simp only [cells, scal1, allSz, List.length_cons, List.length_nil, List.length_append, List.length_map, List.all_cons, List.all_nil, avs_len, beq_self_eq_true, Bool.and_self, and_self, or_true, true_or, reduceCtorEq, *]; done) | fail) only [c_codec_In_Count, go_sem, Nat.reduceAdd, Nat.reduceSub, Nat.reduceMul, Nat.reduceLT, Nat.reduceLeDiff, Int.reduceToNat, Nat.reduceEqDiff, Nat.reduceBEq, ↓reduceIte, reduceCtorEq, eA, scal1]
  refine call2 100 trivial trivial [(f, d)] (by simp only [go_sem, Nat.reduceAdd, Nat.reduceSub, Nat.reduceMul, Nat.reduceLT, Nat.reduceLeDiff, Int.reduceToNat, Nat.reduceEqDiff, Nat.reduceBEq, ↓reduceIte, reduceCtorEq] <;> rfl) (by simp only [go_sem, Nat.reduceAdd, Nat.reduceSub, Nat.reduceMul, Nat.reduceLT, Nat.reduceLeDiff, Int.reduceToNat, Nat.reduceEqDiff, Nat.reduceBEq, ↓reduceIte, reduceCtorEq] <;> rfl) (fail_h f d g _ _ _) (.inl rfl) (fun A eA => ?_)
  simp (disch := first | omega | (simp only [avs_len, List.length_cons, List.length_append, List.length_nil, List.length_take, List.length_drop, List.length_map]; omega) | (simp only [cells, scal1, allSz, List.length_cons, List.length_nil, List.length_append, List.length_map, List.all_cons, List.all_nil, avs_len, beq_self_eq_true, Bool.and_self, and_self, or_true, true_or, reduceCtorEq, *]; done) | fail) only [c_codec_In_Count, go_sem, Nat.reduceAdd, Nat.reduceSub, Nat.reduceMul, Nat.reduceLT, Nat.reduceLeDiff, Int.reduceToNat, Nat.reduceEqDiff, Nat.reduceBEq, ↓reduceIte, reduceCtorEq, eA, scal1]
  exact doneH (by simp only [go_sem, Nat.reduceAdd, Nat.reduceSub, Nat.reduceMul, Nat.reduceLT, Nat.reduceLeDiff, Int.reduceToNat, Nat.reduceEqDiff, Nat.reduceBEq, ↓reduceIte, reduceCtorEq]) rfl rfl
theorem count_no {r : List Nat} (hr : ∀ b ∈ r, b < 256) (hl : r.length ≤ 1099511627776) (hn : takeGo 0 r = none) (f d g : Nat) (most : Int) (nx : Ctr) :
    HCalls Try.prog F_codec_In_Count [.ptr f d g 0, .int .i64 most] [(f, d, g, some [bv r, .bool false])] nx (.int .i64 0) [(f, d, g, some [.nils, .bool true])] nx := by
  by_cases h0 : most < 0
  · refine hcalls_codec_In_Count 1 [(f, d)] (walk0 100 trivial (fun A eA => ?_))
    simp (disch := first | omega | (simp only [avs_len, List.length_cons, List.length_append, List.length_nil, List.length_take, List.length_drop, List.length_map]; omega) | (simp only [cells, scal1, allSz, List.length_cons, List.length_nil, List.length_append, List.length_map, List.all_cons, List.all_nil, avs_len, beq_self_eq_true, Bool.and_self, and_self, or_true, true_or, reduceCtorEq, *]; done) | fail) only [c_codec_In_Count, go_sem, Nat.reduceAdd, Nat.reduceSub, Nat.reduceMul, Nat.reduceLT, Nat.reduceLeDiff, Int.reduceToNat, Nat.reduceEqDiff, Nat.reduceBEq, ↓reduceIte, reduceCtorEq, eA, scal1]
    refine call2 100 trivial trivial [(f, d)] (by simp only [go_sem, Nat.reduceAdd, Nat.reduceSub, Nat.reduceMul, Nat.reduceLT, Nat.reduceLeDiff, Int.reduceToNat, Nat.reduceEqDiff, Nat.reduceBEq, ↓reduceIte, reduceCtorEq] <;> rfl) (by simp only [go_sem, Nat.reduceAdd, Nat.reduceSub, Nat.reduceMul, Nat.reduceLT, Nat.reduceLeDiff, Int.reduceToNat, Nat.reduceEqDiff, Nat.reduceBEq, ↓reduceIte, reduceCtorEq] <;> rfl) (num_no hr hl hn f d g nx) (.inl rfl) (fun A eA => ?_)
    simp (disch := first | omega | (simp only [avs_len, List.length_cons, List.length_append, List.length_nil, List.length_take, List.length_drop, List.length_map]; omega) | (simp only [cells, scal1, allSz, List.length_cons, List.length_nil, List.length_append, List.length_map, List.all_cons, List.all_nil, avs_len, beq_self_eq_true, Bool.and_self, and_self, or_true, true_or, reduceCtorEq, *]; done) | fail) only [c_codec_In_Count, go_sem, Nat.reduceAdd, Nat.reduceSub, Nat.reduceMul, Nat.reduceLT, Nat.reduceLeDiff, Int.reduceToNat, Nat.reduceEqDiff, Nat.reduceBEq, ↓reduceIte, reduceCtorEq, eA, scal1]
    refine call2 100 trivial trivial [(f, d)] (by simp only [go_sem, Nat.reduceAdd, Nat.reduceSub, Nat.reduceMul, Nat.reduceLT, Nat.reduceLeDiff, Int.reduceToNat, Nat.reduceEqDiff, Nat.reduceBEq, ↓reduceIte, reduceCtorEq] <;> rfl) (by simp only [go_sem, Nat.reduceAdd, Nat.reduceSub, Nat.reduceMul, Nat.reduceLT, Nat.reduceLeDiff, Int.reduceToNat, Nat.reduceEqDiff, Nat.reduceBEq, ↓reduceIte, reduceCtorEq] <;> rfl) (fail_h f d g _ _ _) (.inl rfl) (fun A eA => ?_)
    simp (disch := first | omega | (simp only [avs_len, List.length_cons, List.length_append, List.length_nil, List.length_take, List.length_drop, List.length_map]; omega) | (simp only [cells, scal1, allSz, List.length_cons, List.length_nil, List.length_append, List.length_map, List.all_cons, List.all_nil, avs_len, beq_self_eq_true, Bool.and_self, and_self, or_true, true_or, reduceCtorEq, *]; done) | fail) only [c_codec_In_Count, go_sem, Nat.reduceAdd, Nat.reduceSub, Nat.reduceMul, Nat.reduceLT, Nat.reduceLeDiff, Int.reduceToNat, Nat.reduceEqDiff, Nat.reduceBEq, ↓reduceIte, reduceCtorEq, eA, scal1]
    exact doneH (by simp only [go_sem, Nat.reduceAdd, Nat.reduceSub, Nat.reduceMul, Nat.reduceLT, Nat.reduceLeDiff, Int.reduceToNat, Nat.reduceEqDiff, Nat.reduceBEq, ↓reduceIte, reduceCtorEq]) rfl rfl
  · refine hcalls_codec_In_Count 1 [(f, d)] (walk0 100 trivial (fun A eA => ?_))
    simp (disch := first | omega | (simp only [avs_len, List.length_cons, List.length_append, List.length_nil, List.length_take, List.length_drop, List.length_map]; omega) | (simp only [cells, scal1, allSz, List.length_cons, List.length_nil, List.length_append, List.length_map, List.all_cons, List.all_nil, avs_len, beq_self_eq_true, Bool.and_self, and_self, or_true, true_or, reduceCtorEq, *]; done) | fail) only [c_codec_In_Count, go_sem, Nat.reduceAdd, Nat.reduceSub, Nat.reduceMul, Nat.reduceLT, Nat.reduceLeDiff, Int.reduceToNat, Nat.reduceEqDiff, Nat.reduceBEq, ↓reduceIte, reduceCtorEq, eA, scal1]
    refine call2 100 trivial trivial [(f, d)] (by simp only [go_sem, Nat.reduceAdd, Nat.reduceSub, Nat.reduceMul, Nat.reduceLT, Nat.reduceLeDiff, Int.reduceToNat, Nat.reduceEqDiff, Nat.reduceBEq, ↓reduceIte, reduceCtorEq] <;> rfl) (by simp only [go_sem, Nat.reduceAdd, Nat.reduceSub, Nat.reduceMul, Nat.reduceLT, Nat.reduceLeDiff, Int.reduceToNat, Nat.reduceEqDiff, Nat.reduceBEq, ↓reduceIte, reduceCtorEq] <;> rfl) (num_no hr hl hn f d g nx) (.inl rfl) (fun A eA => ?_)
    simp (disch := first | omega | (simp only [avs_len, List.length_cons, List.length_append, List.length_nil, List.length_take, List.length_drop, List.length_map]; omega) | (simp only [cells, scal1, allSz, List.length_cons, List.length_nil, List.length_append, List.length_map, List.all_cons, List.all_nil, avs_len, beq_self_eq_true, Bool.and_self, and_self, or_true, true_or, reduceCtorEq, *]; done) | fail) only [c_codec_In_Count, go_sem, Nat.reduceAdd, Nat.reduceSub, Nat.reduceMul, Nat.reduceLT, Nat.reduceLeDiff, Int.reduceToNat, Nat.reduceEqDiff, Nat.reduceBEq, ↓reduceIte, reduceCtorEq, eA, scal1]
    exact doneH (by simp only [go_sem, Nat.reduceAdd, Nat.reduceSub, Nat.reduceMul, Nat.reduceLT, Nat.reduceLeDiff, Int.reduceToNat, Nat.reduceEqDiff, Nat.reduceBEq, ↓reduceIte, reduceCtorEq]) rfl rfl
theorem count_much {r r1 : List Nat} {n v : Nat} (hr : ∀ b ∈ r, b < 256) (hl : r.length ≤ 1099511627776) (hn : takeGo 0 r = some n) (hv : v = lowS (r.take n)) (h1 : r1 = r.drop n) (most : Int) (hg : most < v ∨ most < 0) (f d g : Nat) (nx : Ctr) :
    HCalls Try.prog F_codec_In_Count [.ptr f d g 0, .int .i64 most] [(f, d, g, some [bv r, .bool false])] nx (.int .i64 0) [(f, d, g, some [.nils, .bool true])] nx := by
  have cn := num_ok hr hl hn hv h1 f d g nx
  clear hv
  have hg' : most < v := by omega
  refine hcalls_codec_In_Count 1 [(f, d)] (walk0 100 trivial (fun A eA => ?_))
  simp (disch := first | omega | (simp only [avs_len, List.length_cons, List.length_append, List.length_nil, List.length_take, List.length_drop, List.length_map]; omega) | (simp only [cells, scal1, allSz, List.length_cons, List.length_nil, List.length_append, List.length_map, List.all_cons, List.all_nil, avs_len, beq_self_eq_true, Bool.and_self, and_self, or_true, true_or, reduceCtorEq, *]; done) | fail) only [c_codec_In_Count, go_sem, Nat.reduceAdd, Nat.reduceSub, Nat.reduceMul, Nat.reduceLT, Nat.reduceLeDiff, Int.reduceToNat, Nat.reduceEqDiff, Nat.reduceBEq, ↓reduceIte, reduceCtorEq, eA, scal1]
  refine call2 100 trivial trivial [(f, d)] (by simp only [go_sem, Nat.reduceAdd, Nat.reduceSub, Nat.reduceMul, Nat.reduceLT, Nat.reduceLeDiff, Int.reduceToNat, Nat.reduceEqDiff, Nat.reduceBEq, ↓reduceIte, reduceCtorEq] <;> rfl) (by simp only [go_sem, Nat.reduceAdd, Nat.reduceSub, Nat.reduceMul, Nat.reduceLT, Nat.reduceLeDiff, Int.reduceToNat, Nat.reduceEqDiff, Nat.reduceBEq, ↓reduceIte, reduceCtorEq] <;> rfl) cn (.inl rfl) (fun A eA => ?_)
  simp (disch := first | omega | (simp only [avs_len, List.length_cons, List.length_append, List.length_nil, List.length_take, List.length_drop, List.length_map]; omega) | (simp only [cells, scal1, allSz, List.length_cons, List.length_nil, List.length_append, List.length_map, List.all_cons, List.all_nil, avs_len, beq_self_eq_true, Bool.and_self, and_self, or_true, true_or, reduceCtorEq, *]; done) | fail) only [c_codec_In_Count, go_sem, Nat.reduceAdd, Nat.reduceSub, Nat.reduceMul, Nat.reduceLT, Nat.reduceLeDiff, Int.reduceToNat, Nat.reduceEqDiff, Nat.reduceBEq, ↓reduceIte, reduceCtorEq, eA, scal1, bv, avs_len]
  refine call2 100 trivial trivial [(f, d)] (by simp only [go_sem, Nat.reduceAdd, Nat.reduceSub, Nat.reduceMul, Nat.reduceLT, Nat.reduceLeDiff, Int.reduceToNat, Nat.reduceEqDiff, Nat.reduceBEq, ↓reduceIte, reduceCtorEq] <;> rfl) (by simp only [go_sem, Nat.reduceAdd, Nat.reduceSub, Nat.reduceMul, Nat.reduceLT, Nat.reduceLeDiff, Int.reduceToNat, Nat.reduceEqDiff, Nat.reduceBEq, ↓reduceIte, reduceCtorEq] <;> rfl) (fail_h f d g _ _ _) (.inl rfl) (fun A eA => ?_)
  simp (disch := first | omega | (simp only [avs_len, List.length_cons, List.length_append, List.length_nil, List.length_take, List.length_drop, List.length_map]; omega) | (simp only [cells, scal1, allSz, List.length_cons, List.length_nil, List.length_append, List.length_map, List.all_cons, List.all_nil, avs_len, beq_self_eq_true, Bool.and_self, and_self, or_true, true_or, reduceCtorEq, *]; done) | fail) only [c_codec_In_Count, go_sem, Nat.reduceAdd, Nat.reduceSub, Nat.reduceMul, Nat.reduceLT, Nat.reduceLeDiff, Int.reduceToNat, Nat.reduceEqDiff, Nat.reduceBEq, ↓reduceIte, reduceCtorEq, eA, scal1]
  exact doneH (by simp only [go_sem, Nat.reduceAdd, Nat.reduceSub, Nat.reduceMul, Nat.reduceLT, Nat.reduceLeDiff, Int.reduceToNat, Nat.reduceEqDiff, Nat.reduceBEq, ↓reduceIte, reduceCtorEq]) rfl rfl
theorem count_ok {r r1 : List Nat} {n v : Nat} (hr : ∀ b ∈ r, b < 256) (hl : r.length ≤ 1099511627776) (hn : takeGo 0 r = some n) (hv : v = lowS (r.take n)) (h1 : r1 = r.drop n) (most : Int) (hg : v ≤ most) (h0 : 0 ≤ most) (f d g : Nat) (nx : Ctr) :
    HCalls Try.prog F_codec_In_Count [.ptr f d g 0, .int .i64 most] [(f, d, g, some [bv r, .bool false])] nx (.int .i64 (v : Nat)) [(f, d, g, some [bv r1, .bool false])] nx := by
  have cn := num_ok hr hl hn hv h1 f d g nx
  clear hv
  refine hcalls_codec_In_Count 1 [(f, d)] (walk0 100 trivial (fun A eA => ?_))
  simp (disch := first | omega | (simp only [avs_len, List.length_cons, List.length_append, List.length_nil, List.length_take, List.length_drop, List.length_map]; omega) | (simp only [cells, scal1, allSz, List.length_cons, List.length_nil, List.length_append, List.length_map, List.all_cons, List.all_nil, avs_len, beq_self_eq_true, Bool.and_self, and_self, or_true, true_or, reduceCtorEq, *]; done) | fail) only [c_codec_In_Count, go_sem, Nat.reduceAdd, Nat.reduceSub, Nat.reduceMul, Nat.reduceLT, Nat.reduceLeDiff, Int.reduceToNat, Nat.reduceEqDiff, Nat.reduceBEq, ↓reduceIte, reduceCtorEq, eA, scal1]
  refine call2 100 trivial trivial [(f, d)] (by simp only [go_sem, Nat.reduceAdd, Nat.reduceSub, Nat.reduceMul, Nat.reduceLT, Nat.reduceLeDiff, Int.reduceToNat, Nat.reduceEqDiff, Nat.reduceBEq, ↓reduceIte, reduceCtorEq] <;> rfl) (by simp only [go_sem, Nat.reduceAdd, Nat.reduceSub, Nat.reduceMul, Nat.reduceLT, Nat.reduceLeDiff, Int.reduceToNat, Nat.reduceEqDiff, Nat.reduceBEq, ↓reduceIte, reduceCtorEq] <;> rfl) cn (.inl rfl) (fun A eA => ?_)
  simp (disch := first | omega | (simp only [avs_len, List.length_cons, List.length_append, List.length_nil, List.length_take, List.length_drop, List.length_map]; omega) | (simp only [cells, scal1, allSz, List.length_cons, List.length_nil, List.length_append, List.length_map, List.all_cons, List.all_nil, avs_len, beq_self_eq_true, Bool.and_self, and_self, or_true, true_or, reduceCtorEq, *]; done) | fail) only [c_codec_In_Count, go_sem, Nat.reduceAdd, Nat.reduceSub, Nat.reduceMul, Nat.reduceLT, Nat.reduceLeDiff, Int.reduceToNat, Nat.reduceEqDiff, Nat.reduceBEq, ↓reduceIte, reduceCtorEq, eA, scal1, bv, avs_len]
  exact doneH (by simp only [go_sem, Nat.reduceAdd, Nat.reduceSub, Nat.reduceMul, Nat.reduceLT, Nat.reduceLeDiff, Int.reduceToNat, Nat.reduceEqDiff, Nat.reduceBEq, ↓reduceIte, reduceCtorEq]) rfl rfl
theorem bool_of (f d g : Nat) (X Y : List AV) (n : Int) (b : Bool) (hb : b = decide (n = 1)) (nx : Ctr) (h : HCalls Try.prog F_codec_In_Count [.ptr f d g 0, .int .i64 1] [(f, d, g, some X)] nx (.int .i64 n) [(f, d, g, some Y)] nx) :
    HCalls Try.prog F_codec_In_Bool [.ptr f d g 0] [(f, d, g, some X)] nx (.bool b) [(f, d, g, some Y)] nx := by
  refine hcalls_codec_In_Bool 1 [(f, d)] (walk0 100 trivial (fun A eA => ?_))
  simp (disch := first | omega | (simp only [avs_len, List.length_cons, List.length_append, List.length_nil, List.length_take, List.length_drop, List.length_map]; omega) | (simp only [cells, scal1, allSz, List.length_cons, List.length_nil, List.length_append, List.length_map, List.all_cons, List.all_nil, avs_len, beq_self_eq_true, Bool.and_self, and_self, or_true, true_or, reduceCtorEq, *]; done) | fail) only [c_codec_In_Bool, go_sem, Nat.reduceAdd, Nat.reduceSub, Nat.reduceMul, Nat.reduceLT, Nat.reduceLeDiff, Int.reduceToNat, Nat.reduceEqDiff, Nat.reduceBEq, ↓reduceIte, reduceCtorEq, eA, scal1]
  refine call2 100 trivial trivial [(f, d)] (by simp only [go_sem, Nat.reduceAdd, Nat.reduceSub, Nat.reduceMul, Nat.reduceLT, Nat.reduceLeDiff, Int.reduceToNat, Nat.reduceEqDiff, Nat.reduceBEq, ↓reduceIte, reduceCtorEq] <;> rfl) (by simp only [go_sem, Nat.reduceAdd, Nat.reduceSub, Nat.reduceMul, Nat.reduceLT, Nat.reduceLeDiff, Int.reduceToNat, Nat.reduceEqDiff, Nat.reduceBEq, ↓reduceIte, reduceCtorEq] <;> rfl) h (.inl rfl) (fun A eA => ?_)
  simp (disch := first | omega | (simp only [avs_len, List.length_cons, List.length_append, List.length_nil, List.length_take, List.length_drop, List.length_map]; omega) | (simp only [cells, scal1, allSz, List.length_cons, List.length_nil, List.length_append, List.length_map, List.all_cons, List.all_nil, avs_len, beq_self_eq_true, Bool.and_self, and_self, or_true, true_or, reduceCtorEq, *]; done) | fail) only [c_codec_In_Bool, go_sem, Nat.reduceAdd, Nat.reduceSub, Nat.reduceMul, Nat.reduceLT, Nat.reduceLeDiff, Int.reduceToNat, Nat.reduceEqDiff, Nat.reduceBEq, ↓reduceIte, reduceCtorEq, eA, scal1]
  exact doneH (by simp only [go_sem, Nat.reduceAdd, Nat.reduceSub, Nat.reduceMul, Nat.reduceLT, Nat.reduceLeDiff, Int.reduceToNat, Nat.reduceEqDiff, Nat.reduceBEq, ↓reduceIte, reduceCtorEq]) (by subst hb; rfl) rfl
theorem newIn_h (bs : List Nat) (hlen : bs.length ≤ 1099511627776) (φ : Nat) (nx : Ctr) : HCalls Try.prog F_codec_NewIn [bv bs] [] nx (.ptr φ 6 (nx 6) 0) [(φ, 6, nx 6, some [bv bs, .bool false])] (bump nx 6) := by
  refine hcalls_codec_NewIn φ [(φ, 6)] (walk0 100 trivial (fun A eA => ?_))
  simp (disch := first | omega | (simp only [avs_len, List.length_cons, List.length_append, List.length_nil, List.length_take, List.length_drop, List.length_map]; omega) | (simp only [cells, scal1, allSz, List.length_cons, List.length_nil, List.length_append, List.length_map, List.all_cons, List.all_nil, avs_len, beq_self_eq_true, Bool.and_self, and_self, or_true, true_or, reduceCtorEq, *]; done) | fail) only [c_codec_NewIn, go_sem, Nat.reduceAdd, Nat.reduceSub, Nat.reduceMul, Nat.reduceLT, Nat.reduceLeDiff, Int.reduceToNat, Nat.reduceEqDiff, Nat.reduceBEq, ↓reduceIte, reduceCtorEq, eA, scal1]
  refine call0 100 trivial trivial (bytesClone_calls bs hlen) (.inl rfl) (fun A eA => ?_)
  simp (disch := first | omega | (simp only [avs_len, List.length_cons, List.length_append, List.length_nil, List.length_take, List.length_drop, List.length_map]; omega) | (simp only [cells, scal1, allSz, List.length_cons, List.length_nil, List.length_append, List.length_map, List.all_cons, List.all_nil, avs_len, beq_self_eq_true, Bool.and_self, and_self, or_true, true_or, reduceCtorEq, *]; done) | fail) only [c_codec_NewIn, go_sem, Nat.reduceAdd, Nat.reduceSub, Nat.reduceMul, Nat.reduceLT, Nat.reduceLeDiff, Int.reduceToNat, Nat.reduceEqDiff, Nat.reduceBEq, ↓reduceIte, reduceCtorEq, eA, scal1]
  exact doneH (by simp only [go_sem, Nat.reduceAdd, Nat.reduceSub, Nat.reduceMul, Nat.reduceLT, Nat.reduceLeDiff, Int.reduceToNat, Nat.reduceEqDiff, Nat.reduceBEq, ↓reduceIte, reduceCtorEq]) rfl rfl
end Go.Proofs.Ytmokhopjnjecbab
/- A number's bytes, a text's bytes; where an Out keeps its bytes: plain. -/
namespace Go.Ev
set_option linter.unusedVariables false
/-- A number's bytes. -/
def numB (v : Nat) : List Nat := if v < 128 then [v] else (v % 128 + 128) :: numB (v / 128)
theorem numB_lt {v : Nat} (h : v < 128) : numB v = [v] := by rw [numB, if_pos h]
theorem numB_ge {v : Nat} (h : ¬ v < 128) : numB v = (v % 128 + 128) :: numB (v / 128) := by rw [numB, if_neg h]
theorem numB_len : ∀ (n v : Nat), v < 128 ^ (n + 1) → (numB v).length ≤ n + 1
  | 0, v, h => by rw [numB_lt (by omega)]; simp
  | n + 1, v, h => by
    by_cases h1 : v < 128
    · rw [numB_lt h1]; simp
    · rw [numB_ge h1]
      have := numB_len n (v / 128) (by rw [Nat.div_lt_iff_lt_mul (by omega), ← Nat.pow_succ]; exact h)
      simp only [List.length_cons]; omega
theorem or128 : ∀ b : Fin 256, ibits .or .u8 (b.1 : Int) 128 = ((b.1 % 128 + 128 : Nat) : Int) := by decide +kernel
/-- Where an Out keeps its bytes, if it has any. -/
def obV (e : Option (Nat × Nat)) (bs : List Nat) : AV := match e with
  | none => .nils
  | some (key, g) => .sl 1 key g 1 0 bs.length
def obH (e : Option (Nat × Nat)) (bs : List Nat) : Heap := match e with
  | none => []
  | some (key, g) => [(1, key, g, some (avs bs))]
/-- None but in the beginning; names behind those of the owner. -/
def ObOk (d : Nat) (e : Option (Nat × Nat)) (bs : List Nat) : Prop := match e with
  | none => bs = []
  | some (key, _) => d < key ∧ key < 50
theorem numB_256 : ∀ (n v : Nat), v < 128 ^ (n + 1) → ∀ b ∈ numB v, b < 256
  | 0, v, h, b, hb => by rw [numB_lt (by omega)] at hb; simp at hb; omega
  | n + 1, v, h, b, hb => by
    by_cases h1 : v < 128
    · rw [numB_lt h1] at hb; simp at hb; omega
    · rw [numB_ge h1, List.mem_cons] at hb
      rcases hb with rfl | hb
      · omega
      · exact numB_256 n (v / 128) (by rw [Nat.div_lt_iff_lt_mul (by omega), ← Nat.pow_succ]; exact h) b hb
/-- A text's bytes. -/
def sbs (s : ByteArray) : List Nat := s.data.toList.map UInt8.toNat
theorem avBytes_sbs (s : ByteArray) : avBytes s = avs (sbs s) := by simp only [avBytes, avs, sbs, List.map_map]; rfl
theorem sbs_len (s : ByteArray) : (sbs s).length = s.size := by simp [sbs]
theorem numB_low : ∀ (n v : Nat), v < 128 ^ (n + 1) → lowS (numB v) = v
  | 0, v, h => by rw [numB_lt (by omega)]; simp [lowS]; omega
  | n + 1, v, h => by
    by_cases h1 : v < 128
    · rw [numB_lt h1]; simp [lowS]; omega
    · rw [numB_ge h1, lowS, numB_low n (v / 128) (by rw [Nat.div_lt_iff_lt_mul (by omega), ← Nat.pow_succ]; exact h)]
      omega
theorem numB_takeGo : ∀ (n v k : Nat) (r : List Nat), v < 128 ^ (n + 1) → k + n ≤ 8 → (0 < k → 0 < v) → takeGo k (numB v ++ r) = some (k + (numB v).length)
  | n, v, k, r, h, hk, hv => by
    by_cases h1 : v < 128
    · rw [numB_lt h1]
      simp only [List.cons_append, List.nil_append, takeGo, List.length_cons, List.length_nil]
      rw [if_neg (by omega), if_neg (by omega), if_neg (by omega)]
    · match n with
      | 0 => omega
      | n + 1 =>
        rw [numB_ge h1]
        simp only [List.cons_append, takeGo, List.length_cons]
        rw [if_neg (by omega), if_pos (by omega), numB_takeGo n (v / 128) (k + 1) r (by rw [Nat.div_lt_iff_lt_mul (by omega), ← Nat.pow_succ]; exact h) (by omega) (by omega)]
        congr 1; omega
theorem numB_take (v : Nat) (r : List Nat) (h : v < 9223372036854775808) : takeGo 0 (numB v ++ r) = some (numB v).length := by
  rw [numB_takeGo 8 v 0 r (by omega) (by omega) (by omega), Nat.zero_add]
theorem numB_val (v : Nat) (r : List Nat) (h : v < 9223372036854775808) : v = lowS ((numB v ++ r).take (numB v).length) := by
  rw [List.take_left]; exact (numB_low 8 v (by omega)).symm
theorem bstr_sbs (s : ByteArray) : bstr (sbs s) = s := by
  have : bytesOf (avs (sbs s)) = s.data.toList := by
    simp only [avs, sbs, List.map_map]
    induction s.data.toList with
    | nil => rfl
    | cons b l ih =>
      have e : bytesOf (List.map ((fun b : Nat => AV.int .u8 (b : Nat)) ∘ UInt8.toNat) (b :: l)) = UInt8.ofNat ((b.toNat : Nat) : Int).toNat :: bytesOf (List.map ((fun b : Nat => AV.int .u8 (b : Nat)) ∘ UInt8.toNat) l) := rfl
      rw [e, ih]; simp
  simp only [bstr, this]
end Go.Ev
/- What is taken of bytes, as a state that is handed on: plain. -/
namespace Go.Ev
set_option linter.unusedVariables false
/-- An In: its bytes; none: it is bad. -/
abbrev InS := Option (List Nat)
def inNum : InS → Nat × InS
  | none => (0, none)
  | some r => match takeGo 0 r with
    | none => (0, none)
    | some n => (lowS (r.take n), some (r.drop n))
def inCount (most : Int) (s : InS) : Nat × InS := if most < ((inNum s).1 : Nat) then (0, none) else inNum s
def inBool (s : InS) : Bool × InS := (decide ((inCount 1 s).1 = 1), (inCount 1 s).2)
def inText (s : InS) : List Nat × InS := match (inNum s).2 with
  | none => ([], none)
  | some r => if r.length < (inNum s).1 then ([], none) else (r.take (inNum s).1, some (r.drop (inNum s).1))
def OkIn (s : InS) : Prop := ∀ r, s = some r → (∀ b ∈ r, b < 256) ∧ r.length ≤ 1099511627776
theorem inNum_no {r : List Nat} (h : takeGo 0 r = none) : inNum (some r) = (0, none) := by simp only [inNum, h]
theorem inNum_yes {r : List Nat} {n : Nat} (h : takeGo 0 r = some n) : inNum (some r) = (lowS (r.take n), some (r.drop n)) := by simp only [inNum, h]
theorem inCount_bad (m : Int) {s : InS} (h : inNum s = (0, none)) : inCount m s = (0, none) := by
  unfold inCount; rw [h]; split <;> rfl
theorem inCount_many {m : Int} {s : InS} (h : m < ((inNum s).1 : Nat)) : inCount m s = (0, none) := by
  unfold inCount; rw [if_pos h]
theorem inCount_few {m : Int} {s : InS} (h : ¬ m < ((inNum s).1 : Nat)) : inCount m s = inNum s := by
  unfold inCount; rw [if_neg h]
theorem inText_no {r : List Nat} (h : takeGo 0 r = none) : inText (some r) = ([], none) := by unfold inText; rw [inNum_no h]
theorem inText_yes {r : List Nat} {n : Nat} (h : takeGo 0 r = some n) : inText (some r) = if (r.drop n).length < lowS (r.take n) then ([], none) else ((r.drop n).take (lowS (r.take n)), some ((r.drop n).drop (lowS (r.take n)))) := by unfold inText; rw [inNum_yes h]
theorem OkIn.none : OkIn none := fun _ h => by cases h
theorem OkIn.drop {r : List Nat} (h : OkIn (some r)) (n : Nat) : OkIn (some (r.drop n)) := by
  intro q hq; cases hq
  obtain ⟨h1, h2⟩ := h r rfl
  exact ⟨fun b hb => h1 b (List.mem_of_mem_drop hb), by simp; omega⟩
theorem inNum_ok {s : InS} (h : OkIn s) : OkIn (inNum s).2 := by
  cases s with
  | none => exact h
  | some r =>
    simp only [inNum]
    split
    · exact .none
    · exact h.drop _
theorem inNum_lt (s : InS) : (inNum s).1 < 9223372036854775808 := by
  cases s with
  | none => simp [inNum]
  | some r =>
    simp only [inNum]
    split
    · omega
    · rename_i n hn
      have h1 := takeGo_some _ _ _ hn
      have h2 := lowS_lt (r.take n)
      have h3 : (r.take n).length ≤ 9 := by simp; omega
      have h4 : 128 ^ (r.take n).length ≤ 128 ^ 9 := Nat.pow_le_pow_right (by omega) h3
      show lowS (r.take n) < _
      omega
theorem inCount_ok {s : InS} (m : Int) (h : OkIn s) : OkIn (inCount m s).2 := by
  simp only [inCount]; split
  · exact .none
  · exact inNum_ok h
theorem inBool_ok {s : InS} (h : OkIn s) : OkIn (inBool s).2 := inCount_ok 1 h
theorem inText_ok {s : InS} (h : OkIn s) : OkIn (inText s).2 := by
  have := inNum_ok h
  simp only [inText]
  split
  · exact .none
  · rename_i r hr
    rw [hr] at this
    split
    · exact .none
    · exact this.drop _
theorem inNum_numB (v : Nat) (r : List Nat) (h : v < 9223372036854775808) : inNum (some (numB v ++ r)) = (v, some r) := by
  simp only [inNum, numB_take v r h]
  rw [← numB_val v r h, List.drop_left]
theorem inCount_numB (m : Int) (v : Nat) (r : List Nat) (h : v < 9223372036854775808) (hm : (v : Int) ≤ m) : inCount m (some (numB v ++ r)) = (v, some r) := by
  simp only [inCount, inNum_numB v r h]
  rw [if_neg (by omega)]
theorem inBool_numB (b : Bool) (r : List Nat) : inBool (some (numB (if b = true then 1 else 0) ++ r)) = (b, some r) := by
  cases b
  · simp only [inBool]
    rw [inCount_numB 1 _ r (by simp) (by simp)]; simp
  · simp only [inBool]
    rw [inCount_numB 1 _ r (by simp) (by simp)]; simp
theorem inBool_0 (r : List Nat) : inBool (some (numB 0 ++ r)) = (false, some r) := inBool_numB false r
theorem inBool_1 (r : List Nat) : inBool (some (numB 1 ++ r)) = (true, some r) := inBool_numB true r
theorem inText_text (s r : List Nat) (h : s.length < 9223372036854775808) : inText (some ((numB s.length ++ s) ++ r)) = (s, some r) := by
  rw [List.append_assoc]
  simp only [inText, inNum_numB _ _ h]
  rw [if_neg (by simp)]
  simp
end Go.Ev
/- What takes bytes apart, as contracts over one state. -/
-- short
namespace Go.Ev
def inE : InS → List AV
  | some r => [.fz 1 (avs r) none, .bool false]
  | none => [.nils, .bool true]
end Go.Ev
namespace Go.Proofs.Ytmokhopjnjecbab
open Go.Ev
set_option linter.unusedVariables false
set_option linter.unusedSimpArgs false
set_option maxRecDepth 100000
set_option maxHeartbeats 1600000
/-- Called with an In in that state it gives that, and leaves that state. -/
def Takes (F : Nat) (args : List AV) (s s' : InS) (r : AV) : Prop := ∀ (f g : Nat) (nx : Ctr), f < 9 → ∃ nx', HCalls Try.prog F (.ptr f 6 g 0 :: args) [(f, 6, g, some (inE s))] nx r [(f, 6, g, some (inE s'))] nx'
theorem num_takes {s : InS} (h : OkIn s) : Takes F_codec_In_Num [] s (inNum s).2 (.int .i64 ((inNum s).1 : Nat)) := by
  intro f g nx _
  refine ⟨nx, ?_⟩
  cases s with
  | none => exact num_bad f 6 g _ nx
  | some r =>
    obtain ⟨h1, h2⟩ := h r rfl
    simp only [inNum]
    split
    · rename_i hn; exact num_no h1 h2 hn f 6 g nx
    · rename_i n hn; exact num_ok h1 h2 hn rfl rfl f 6 g nx
theorem count_takes {s : InS} (h : OkIn s) (most : Int) : Takes F_codec_In_Count [.int .i64 most] s (inCount most s).2 (.int .i64 ((inCount most s).1 : Nat)) := by
  intro f g nx _
  refine ⟨nx, ?_⟩
  cases s with
  | none =>
    rw [inCount_bad most rfl]
    by_cases h0 : most < 0
    · exact count_bad' f 6 g _ most h0 nx
    · exact count_bad f 6 g _ most (by omega) nx
  | some r =>
    obtain ⟨h1, h2⟩ := h r rfl
    cases hn : takeGo 0 r with
    | none => rw [inCount_bad most (inNum_no hn)]; exact count_no h1 h2 hn f 6 g most nx
    | some n =>
      have e := inNum_yes hn
      by_cases h0 : most < (lowS (r.take n) : Nat)
      · rw [inCount_many (by rw [e]; exact h0)]; exact count_much h1 h2 hn rfl rfl most (.inl h0) f 6 g nx
      · rw [inCount_few (by rw [e]; exact h0), e]; exact count_ok h1 h2 hn rfl rfl most (by omega) (by omega) f 6 g nx
theorem bool_takes {s : InS} (h : OkIn s) : Takes F_codec_In_Bool [] s (inBool s).2 (.bool (inBool s).1) := by
  intro f g nx hf
  have := count_takes h 1 f g nx hf
  obtain ⟨nx', h1⟩ := this
  have hc : nx' = nx ∨ True := .inr trivial
  refine ⟨nx', ?_⟩
  refine hcalls_codec_In_Bool 1 [(f, 6)] (walk0 100 trivial (fun A eA => ?_))
  simp (disch := first | omega | (simp only [avs_len, List.length_cons, List.length_append, List.length_nil, List.length_take, List.length_drop, List.length_map]; omega) | (simp only [cells, scal1, allSz, List.length_cons, List.length_nil, List.length_append, List.length_map, List.all_cons, List.all_nil, avs_len, beq_self_eq_true, Bool.and_self, and_self, or_true, true_or, reduceCtorEq, *]; done) | fail) only [c_codec_In_Bool, go_sem, Nat.reduceAdd, Nat.reduceSub, Nat.reduceMul, Nat.reduceLT, Nat.reduceLeDiff, Int.reduceToNat, Nat.reduceEqDiff, Nat.reduceBEq, ↓reduceIte, reduceCtorEq, eA, scal1]
  refine call2 100 trivial trivial [(f, 6)] (by simp only [go_sem, Nat.reduceAdd, Nat.reduceSub, Nat.reduceMul, Nat.reduceLT, Nat.reduceLeDiff, Int.reduceToNat, Nat.reduceEqDiff, Nat.reduceBEq, ↓reduceIte, reduceCtorEq] <;> rfl) (by simp only [go_sem, Nat.reduceAdd, Nat.reduceSub, Nat.reduceMul, Nat.reduceLT, Nat.reduceLeDiff, Int.reduceToNat, Nat.reduceEqDiff, Nat.reduceBEq, ↓reduceIte, reduceCtorEq] <;> rfl) h1 (.inl rfl) (fun A eA => ?_)
  simp (disch := first | omega | (simp only [avs_len, List.length_cons, List.length_append, List.length_nil, List.length_take, List.length_drop, List.length_map]; omega) | (simp only [cells, scal1, allSz, List.length_cons, List.length_nil, List.length_append, List.length_map, List.all_cons, List.all_nil, avs_len, beq_self_eq_true, Bool.and_self, and_self, or_true, true_or, reduceCtorEq, *]; done) | fail) only [c_codec_In_Bool, go_sem, Nat.reduceAdd, Nat.reduceSub, Nat.reduceMul, Nat.reduceLT, Nat.reduceLeDiff, Int.reduceToNat, Nat.reduceEqDiff, Nat.reduceBEq, ↓reduceIte, reduceCtorEq, eA, scal1]
  have e : (((inCount 1 s).1 : Nat) : Int) = 1 ↔ (inCount 1 s).1 = 1 := by omega
  exact doneH (by simp only [go_sem, Nat.reduceAdd, Nat.reduceSub, Nat.reduceMul, Nat.reduceLT, Nat.reduceLeDiff, Int.reduceToNat, Nat.reduceEqDiff, Nat.reduceBEq, ↓reduceIte, reduceCtorEq]; rfl) (by simp only [inBool, e]; rfl) rfl
theorem text_takes {s : InS} (h : OkIn s) : Takes F_codec_In_Text [] s (inText s).2 (.str (bstr (inText s).1)) := by
  intro f g nx _
  refine ⟨nx, ?_⟩
  cases s with
  | none => exact text_bad f 6 g _ nx
  | some r =>
    obtain ⟨h1, h2⟩ := h r rfl
    cases hn : takeGo 0 r with
    | none => rw [inText_no hn]; exact text_no h1 h2 hn f 6 g nx
    | some n =>
      rw [inText_yes hn]
      by_cases h0 : (r.drop n).length < lowS (r.take n)
      · rw [if_pos h0]; exact text_much h1 h2 hn rfl rfl h0 f 6 g nx
      · rw [if_neg h0]; exact text_ok h1 h2 hn rfl rfl (by omega) f 6 g nx
theorem bad_takes (s : InS) : Takes F_codec_In_Bad [] s s (.bool s.isNone) := by
  intro f g nx _
  cases s with
  | none => exact ⟨nx, bad_h f 6 g _ _ nx⟩
  | some r => exact ⟨nx, bad_h f 6 g _ _ nx⟩
theorem left_takes (s : InS) : Takes F_codec_In_Left [] s s (.int .i64 ((s.getD []).length : Nat)) := by
  intro f g nx _
  cases s with
  | none => exact ⟨nx, left_n f 6 g _ nx⟩
  | some r => exact ⟨nx, left_h f 6 g r _ nx⟩
theorem done_takes (s : InS) : Takes F_codec_In_Done [] s s (.bool (decide (s = some []))) := by
  intro f g nx _
  cases s with
  | none => exact ⟨nx, done_b f 6 g _ nx⟩
  | some r =>
    cases r with
    | nil => exact ⟨nx, by rw [decide_eq_true rfl]; exact done_t f 6 g [] rfl nx⟩
    | cons b r => exact ⟨nx, by rw [decide_eq_false (by simp)]; exact done_f f 6 g (b :: r) (by simp) nx⟩
end Go.Proofs.Ytmokhopjnjecbab
/- The walk through what gathers bytes: a number. -/
-- short
namespace Go.Proofs.Ytmokhopjnjecbab
open Go.Ev
set_option linter.unusedVariables false
set_option linter.unusedSimpArgs false
set_option maxRecDepth 100000
set_option maxHeartbeats 1600000

theorem ob_app {α : Type} (K f d g : Nat) (B : Option (List AV)) (hd : d < K ∧ K < 50) (e : Option (Nat × Nat)) (bs : List Nat) (he : ObOk d e bs) (ns : List Nat) (c : Option Nat) (hn : 0 < ns.length) (hlen : bs.length + ns.length ≤ 1099511627776) (nx : Ctr) :
    ∃ key, (d < key ∧ key < 50) ∧ ∀ (ok : AV → Heap → Ctr → α) (bad : α), appK 1 1 K (obV e bs) (.fz 1 (avs ns) c) ((f, d, g, B) :: obH e bs) nx 1 ok bad = ok (.sl 1 key (nx key) 1 0 (bs ++ ns).length) ((f, d, g, B) :: obH (some (key, nx key)) (bs ++ ns)) (bump nx key) := by
  cases e with
  | none =>
    obtain rfl : bs = [] := he
    refine ⟨K, hd, fun ok bad => ?_⟩
    simp only [List.length_nil, Nat.zero_add] at hlen
    have n1 : ¬ ns.length = 0 := by omega
    have n2 : ¬ (d = K ∧ f = 1) := by omega
    have n3 : ¬ K < d := by omega
    have n4 : ns.length * 1 ≤ 1099511627776 ∧ ns.length ≤ 1099511627776 := by omega
    simp only [appK, obV, obH, avs_len, catCells_avs, if_neg n1, if_pos n4, setB, if_neg n2, if_neg n3, List.nil_append, if_true]
  | some p =>
    obtain ⟨key, g'⟩ := p
    have hk : d < key ∧ key < 50 := he
    refine ⟨key, hk, fun ok bad => ?_⟩
    have n2 : ¬ (d = key ∧ f = 1) := by omega
    have n3 : ¬ key < d := by omega
    have n4 : (bs.length + ns.length) * 1 ≤ 1099511627776 ∧ bs.length + ns.length ≤ 1099511627776 := by omega
    have n5 : (avs bs).length = bs.length * 1 := by rw [avs_len]; omega
    simp only [appK, obV, obH, avs_len, catCells_avs, setB, getB, if_neg n2, if_neg n3, and_self, if_true, true_and, if_pos n4, n5, avs_append, List.length_append]
theorem obV_nn (key g : Nat) (bs : List Nat) : obV (some (key, g)) bs = .sl 1 key g 1 0 bs.length := rfl
theorem ob_cells (e : Option (Nat × Nat)) (bs : List Nat) : cells (obV e bs) = [obV e bs] := by cases e with
  | none => rfl
  | some p => rfl
/-- A walk that falls off a function's end. -/
theorem fallH {φ : Nat} {ks : List (Nat × Nat)} {rs : List RS} {r : AV} {Hout : Heap} {nx' : Ctr} {t : List AV} {H : Heap} {nx : Ctr} (h1 : Ev.sel ks H = Hout) (h2 : getsK rs t H (fun vs => some (retv vs)) none = some r) (h3 : nx = nx') : RunsO Try.prog φ (GivesH ks rs r Hout nx') [] (.fall t H nx) :=
  RunsX.of (.nil (GivesH.of h1 h2 h3))
theorem ob_find (f d g : Nat) (B : Option (List AV)) (H : Heap) : find ((f, d, g, B) :: H) f d = some (g, B) := by simp [find]
theorem ob_get {α : Type} (f d g : Nat) (cs : List AV) (H : Heap) (ok : List AV → α) (bad : α) : getB ((f, d, g, some cs) :: H) f d g ok bad = ok cs := by simp [getB]
theorem ob_set (f d g g2 : Nat) (B B2 : Option (List AV)) (H : Heap) : setB ((f, d, g, B) :: H) f d g2 B2 = (f, d, g2, B2) :: H := by simp [setB]
theorem ob_sel (f d g : Nat) (B : Option (List AV)) (key g' : Nat) (bs : List Nat) (hd : d < key) : Ev.sel [(f, d), (1, key)] ((f, d, g, B) :: obH (some (key, g')) bs) = (f, d, g, B) :: obH (some (key, g')) bs := by
  have n2 : ¬ (d = key ∧ f = 1) := by omega
  simp [Ev.sel, find, obH, n2]
theorem outNum_loop (bd : Bool) (f d g : Nat) (hd : d < 26) : ∀ (n v : Nat), v < 128 ^ (n + 1) → v < 9223372036854775808 → ∀ (e : Option (Nat × Nat)) (bs : List Nat) (nx : Ctr), ObOk d e bs → bs.length + n < 1099511627776 →
    ∃ key g' nx', (d < key ∧ key < 50) ∧ RunsX Try.prog 1 (GivesH [(f, d), (1, key)] [] (.tup []) ((f, d, g, some [obV (some (key, g')) (bs ++ numB v), .bool bd]) :: obH (some (key, g')) (bs ++ numB v)) nx') (i_codec_Out_Num_1 ++ [.c c_codec_Out_Num_k0])
      (s_codec_Out_Num_1 (.ptr f d g 0) (.int .i64 (v : Nat))) ((f, d, g, some [obV e bs, .bool bd]) :: obH e bs) nx := by
  intro n
  induction n with
  | zero =>
    intro v hv hv2 e bs nx he hl
    have h1 : v < 128 := by omega
    have w1 : (v % 256 : Nat) = v := by omega
    obtain ⟨key, hk, hA⟩ := ob_app (α := Out) 37 f d g (some [obV e bs, .bool bd]) (by omega) e bs he [v] (some 1) (by simp) (by simp; omega) nx
    simp only [avs, List.map_cons, List.map_nil] at hA
    refine ⟨key, nx key, bump nx key, hk, ?_⟩
    have i1 : ¬ (128 : Int) ≤ (v : Int) := by omega
    refine round (its := [.blk 1 wb_codec_Out_Num_1]) (k0 := [.c c_codec_Out_Num_k0]) 100 trivial trivial (fun A eA => ?_)
    simp (disch := first | omega | (simp only [avs_len, List.length_cons, List.length_append, List.length_nil, List.length_take, List.length_drop, List.length_map]; omega) | (simp only [cells, scal1, allSz, List.length_cons, List.length_nil, List.length_append, List.length_map, List.all_cons, List.all_nil, avs_len, beq_self_eq_true, Bool.and_self, and_self, or_true, true_or, reduceCtorEq, *]; done) | fail) only [c_codec_Out_Num, wl_codec_Out_Num_1, s_codec_Out_Num_1, c_codec_Out_Num_l1, wb_codec_Out_Num_1, c_codec_Out_Num_k0, go_sem, Nat.reduceAdd, Nat.reduceSub, Nat.reduceMul, Nat.reduceLT, Nat.reduceLeDiff, Int.reduceToNat, Nat.reduceEqDiff, Nat.reduceBEq, ↓reduceIte, reduceCtorEq, eA, i1]
    refine walk0 (its := [.c c_codec_Out_Num_k0]) 100 trivial (fun A eA => ?_)
    simp (disch := first | omega | (simp only [avs_len, List.length_cons, List.length_append, List.length_nil, List.length_take, List.length_drop, List.length_map]; omega) | (simp only [cells, scal1, allSz, List.length_cons, List.length_nil, List.length_append, List.length_map, List.all_cons, List.all_nil, avs_len, beq_self_eq_true, Bool.and_self, and_self, or_true, true_or, reduceCtorEq, *]; done) | fail) only [c_codec_Out_Num, wl_codec_Out_Num_1, s_codec_Out_Num_1, c_codec_Out_Num_l1, wb_codec_Out_Num_1, c_codec_Out_Num_k0, go_sem, Nat.reduceAdd, Nat.reduceSub, Nat.reduceMul, Nat.reduceLT, Nat.reduceLeDiff, Int.reduceToNat, Nat.reduceEqDiff, Nat.reduceBEq, ↓reduceIte, reduceCtorEq, eA, ob_find, ob_get, ob_set, wrap_u8, w1, allSz, scal1, List.all_cons, List.all_nil, Bool.and_self, beq_self_eq_true, ↓ob_cells, ↓hA]
    rw [numB_lt h1]
    rw [show obV (some (key, nx key)) (bs ++ [v]) = .sl 1 key (nx key) 1 0 (bs.length + 1) by simp [obV]]; exact fallH (ob_sel f d g _ key _ _ hk.1) rfl rfl
  | succ n ih =>
    intro v hv hv2 e bs nx he hl
    by_cases h1 : v < 128
    · have w1 : (v % 256 : Nat) = v := by omega
      obtain ⟨key, hk, hA⟩ := ob_app (α := Out) 37 f d g (some [obV e bs, .bool bd]) (by omega) e bs he [v] (some 1) (by simp) (by simp; omega) nx
      simp only [avs, List.map_cons, List.map_nil] at hA
      refine ⟨key, nx key, bump nx key, hk, ?_⟩
      have i1 : ¬ (128 : Int) ≤ (v : Int) := by omega
      refine round (its := [.blk 1 wb_codec_Out_Num_1]) (k0 := [.c c_codec_Out_Num_k0]) 100 trivial trivial (fun A eA => ?_)
      simp (disch := first | omega | (simp only [avs_len, List.length_cons, List.length_append, List.length_nil, List.length_take, List.length_drop, List.length_map]; omega) | (simp only [cells, scal1, allSz, List.length_cons, List.length_nil, List.length_append, List.length_map, List.all_cons, List.all_nil, avs_len, beq_self_eq_true, Bool.and_self, and_self, or_true, true_or, reduceCtorEq, *]; done) | fail) only [c_codec_Out_Num, wl_codec_Out_Num_1, s_codec_Out_Num_1, c_codec_Out_Num_l1, wb_codec_Out_Num_1, c_codec_Out_Num_k0, go_sem, Nat.reduceAdd, Nat.reduceSub, Nat.reduceMul, Nat.reduceLT, Nat.reduceLeDiff, Int.reduceToNat, Nat.reduceEqDiff, Nat.reduceBEq, ↓reduceIte, reduceCtorEq, eA, i1]
      refine walk0 (its := [.c c_codec_Out_Num_k0]) 100 trivial (fun A eA => ?_)
      simp (disch := first | omega | (simp only [avs_len, List.length_cons, List.length_append, List.length_nil, List.length_take, List.length_drop, List.length_map]; omega) | (simp only [cells, scal1, allSz, List.length_cons, List.length_nil, List.length_append, List.length_map, List.all_cons, List.all_nil, avs_len, beq_self_eq_true, Bool.and_self, and_self, or_true, true_or, reduceCtorEq, *]; done) | fail) only [c_codec_Out_Num, wl_codec_Out_Num_1, s_codec_Out_Num_1, c_codec_Out_Num_l1, wb_codec_Out_Num_1, c_codec_Out_Num_k0, go_sem, Nat.reduceAdd, Nat.reduceSub, Nat.reduceMul, Nat.reduceLT, Nat.reduceLeDiff, Int.reduceToNat, Nat.reduceEqDiff, Nat.reduceBEq, ↓reduceIte, reduceCtorEq, eA, ob_find, ob_get, ob_set, wrap_u8, w1, allSz, scal1, List.all_cons, List.all_nil, Bool.and_self, beq_self_eq_true, ↓ob_cells, ↓hA]
      rw [numB_lt h1]
      rw [show obV (some (key, nx key)) (bs ++ [v]) = .sl 1 key (nx key) 1 0 (bs.length + 1) by simp [obV]]; exact fallH (ob_sel f d g _ key _ _ hk.1) rfl rfl
    · obtain ⟨key, hk, hA⟩ := ob_app (α := Out) 26 f d g (some [obV e bs, .bool bd]) (by omega) e bs he [v % 128 + 128] (some 1) (by simp) (by simp; omega) nx
      simp only [avs, List.map_cons, List.map_nil] at hA
      have hq : v / 128 < 128 ^ (n + 1) := by rw [Nat.div_lt_iff_lt_mul (by omega), ← Nat.pow_succ]; exact hv
      obtain ⟨key2, g2, nx2, hk2, hih⟩ := ih (v / 128) hq (by omega) (some (key, nx key)) (bs ++ [v % 128 + 128]) (bump nx key) hk (by simp; omega)
      refine ⟨key2, g2, nx2, hk2, ?_⟩
      rw [numB_ge h1]
      rw [List.append_assoc, List.singleton_append] at hih
      clear hv hq ih
      have i1 : (128 : Int) ≤ (v : Int) := by omega
      have w1 := or128 ⟨v % 256, by omega⟩
      simp only at w1
      have w2 : v % 256 % 128 = v % 128 := by omega
      rw [w2] at w1
      have e8 : ishr .i64 (v : Int) 7 = ((v / 128 : Nat) : Int) := ishr_nat .i64 .u64 v 7 (by decide)
      refine round (its := [.blk 1 wb_codec_Out_Num_1]) (k0 := [.c c_codec_Out_Num_k0]) 100 trivial trivial (fun A eA => ?_)
      simp (disch := first | omega | (simp only [avs_len, List.length_cons, List.length_append, List.length_nil, List.length_take, List.length_drop, List.length_map]; omega) | (simp only [cells, scal1, allSz, List.length_cons, List.length_nil, List.length_append, List.length_map, List.all_cons, List.all_nil, avs_len, beq_self_eq_true, Bool.and_self, and_self, or_true, true_or, reduceCtorEq, *]; done) | fail) only [c_codec_Out_Num, wl_codec_Out_Num_1, s_codec_Out_Num_1, c_codec_Out_Num_l1, wb_codec_Out_Num_1, c_codec_Out_Num_k0, go_sem, Nat.reduceAdd, Nat.reduceSub, Nat.reduceMul, Nat.reduceLT, Nat.reduceLeDiff, Int.reduceToNat, Nat.reduceEqDiff, Nat.reduceBEq, ↓reduceIte, reduceCtorEq, eA, i1, ob_find, ob_get, ob_set, wrap_u8, w1, e8, allSz, scal1, List.all_cons, List.all_nil, Bool.and_self, beq_self_eq_true, ↓ob_cells, ↓hA]
      rw [show obV (some (key, nx key)) (bs ++ [v % 128 + 128]) = .sl 1 key (nx key) 1 0 (bs.length + 1) by simp [obV]] at hih
      exact hih
/-- Out.Num of a number, whatever lies in the Out. -/
theorem outNum_h (bd : Bool) (f d g : Nat) (hd : d < 26) (v : Nat) (hv : v < 9223372036854775808) (e : Option (Nat × Nat)) (bs : List Nat) (nx : Ctr) (he : ObOk d e bs) (hl : bs.length < 1099511627700) :
    ∃ key g' nx', (d < key ∧ key < 50) ∧ HCalls Try.prog F_codec_Out_Num [.ptr f d g 0, .int .i64 (v : Nat)] ((f, d, g, some [obV e bs, .bool bd]) :: obH e bs) nx (.tup []) ((f, d, g, some [obV (some (key, g')) (bs ++ numB v), .bool bd]) :: obH (some (key, g')) (bs ++ numB v)) nx' := by
  obtain ⟨key, g', nx', hk, h⟩ := outNum_loop bd f d g hd 8 v (by omega) hv e bs nx he (by omega)
  refine ⟨key, g', nx', hk, hcalls_codec_Out_Num 1 [(f, d), (1, key)] (walk0 100 trivial (fun A eA => ?_))⟩
  have i1 : ¬ ((v : Int) < 0) := by omega
  simp (disch := first | omega | (simp only [avs_len, List.length_cons, List.length_append, List.length_nil, List.length_take, List.length_drop, List.length_map]; omega) | (simp only [cells, scal1, allSz, List.length_cons, List.length_nil, List.length_append, List.length_map, List.all_cons, List.all_nil, avs_len, beq_self_eq_true, Bool.and_self, and_self, or_true, true_or, reduceCtorEq, *]; done) | fail) only [c_codec_Out_Num, wl_codec_Out_Num_1, s_codec_Out_Num_1, c_codec_Out_Num_l1, wb_codec_Out_Num_1, c_codec_Out_Num_k0, go_sem, Nat.reduceAdd, Nat.reduceSub, Nat.reduceMul, Nat.reduceLT, Nat.reduceLeDiff, Int.reduceToNat, Nat.reduceEqDiff, Nat.reduceBEq, ↓reduceIte, reduceCtorEq, eA, i1]
  exact h
/-- Out.Num of a number below 0. -/
theorem outNum_neg (f d g : Nat) (hd : d < 26) (v : Int) (hv : v < 0) (b : Bool) (e : Option (Nat × Nat)) (bs : List Nat) (nx : Ctr) (he : ObOk d e bs) :
    HCalls Try.prog F_codec_Out_Num [.ptr f d g 0, .int .i64 v] ((f, d, g, some [obV e bs, .bool b]) :: obH e bs) nx (.tup []) ((f, d, g, some [obV e bs, .bool true]) :: obH e bs) nx := by
  cases e with
  | none =>
    refine hcalls_codec_Out_Num 1 [(f, d)] (walk0 100 trivial (fun A eA => ?_))
    simp (disch := first | omega | (simp only [avs_len, List.length_cons, List.length_append, List.length_nil, List.length_take, List.length_drop, List.length_map]; omega) | (simp only [cells, scal1, allSz, List.length_cons, List.length_nil, List.length_append, List.length_map, List.all_cons, List.all_nil, avs_len, beq_self_eq_true, Bool.and_self, and_self, or_true, true_or, reduceCtorEq, *]; done) | fail) only [c_codec_Out_Num, wl_codec_Out_Num_1, s_codec_Out_Num_1, c_codec_Out_Num_l1, wb_codec_Out_Num_1, c_codec_Out_Num_k0, go_sem, Nat.reduceAdd, Nat.reduceSub, Nat.reduceMul, Nat.reduceLT, Nat.reduceLeDiff, Int.reduceToNat, Nat.reduceEqDiff, Nat.reduceBEq, ↓reduceIte, reduceCtorEq, eA, obV, obH, ob_get, ob_set, scal1]
    exact doneH (by simp only [go_sem, Nat.reduceAdd, Nat.reduceSub, Nat.reduceMul, Nat.reduceLT, Nat.reduceLeDiff, Int.reduceToNat, Nat.reduceEqDiff, Nat.reduceBEq, ↓reduceIte, reduceCtorEq]) rfl rfl
  | some p =>
    obtain ⟨key, g'⟩ := p
    refine hcalls_codec_Out_Num 1 [(f, d), (1, key)] (walk0 100 trivial (fun A eA => ?_))
    simp (disch := first | omega | (simp only [avs_len, List.length_cons, List.length_append, List.length_nil, List.length_take, List.length_drop, List.length_map]; omega) | (simp only [cells, scal1, allSz, List.length_cons, List.length_nil, List.length_append, List.length_map, List.all_cons, List.all_nil, avs_len, beq_self_eq_true, Bool.and_self, and_self, or_true, true_or, reduceCtorEq, *]; done) | fail) only [c_codec_Out_Num, wl_codec_Out_Num_1, s_codec_Out_Num_1, c_codec_Out_Num_l1, wb_codec_Out_Num_1, c_codec_Out_Num_k0, go_sem, Nat.reduceAdd, Nat.reduceSub, Nat.reduceMul, Nat.reduceLT, Nat.reduceLeDiff, Int.reduceToNat, Nat.reduceEqDiff, Nat.reduceBEq, ↓reduceIte, reduceCtorEq, eA, obV, obH, ob_get, ob_set, scal1]
    exact doneH (ob_sel f d g _ key _ _ he.1) rfl rfl
theorem bool_num (f d g : Nat) (c : Bool) (X X' : List AV) (H H' : Heap) (ks ks2 : List (Nat × Nat)) (nx nx' : Ctr) (hin : Ev.sel ks ((f, d, g, some X) :: H) = (f, d, g, some X) :: H) (hre : rest ks ((f, d, g, some X) :: H) = []) (hs : Ev.sel ks2 ((f, d, g, some X') :: H') = (f, d, g, some X') :: H')
    (h : HCalls Try.prog F_codec_Out_Num [.ptr f d g 0, .int .i64 (if c = true then 1 else 0)] ((f, d, g, some X) :: H) nx (.tup []) ((f, d, g, some X') :: H') nx') :
    HCalls Try.prog F_codec_Out_Bool [.ptr f d g 0, .bool c] ((f, d, g, some X) :: H) nx (.tup []) ((f, d, g, some X') :: H') nx' := by
  refine hcalls_codec_Out_Bool 2 ks2 (walk0 100 trivial (fun A eA => ?_))
  cases c with
  | true =>
    simp (disch := first | omega | (simp only [avs_len, List.length_cons, List.length_append, List.length_nil, List.length_take, List.length_drop, List.length_map]; omega) | (simp only [cells, scal1, allSz, List.length_cons, List.length_nil, List.length_append, List.length_map, List.all_cons, List.all_nil, avs_len, beq_self_eq_true, Bool.and_self, and_self, or_true, true_or, reduceCtorEq, *]; done) | fail) only [c_codec_Out_Bool, go_sem, Nat.reduceAdd, Nat.reduceSub, Nat.reduceMul, Nat.reduceLT, Nat.reduceLeDiff, Int.reduceToNat, Nat.reduceEqDiff, Nat.reduceBEq, ↓reduceIte, reduceCtorEq, eA, scal1]
    refine call2 100 trivial trivial ks hin hre h (.inl rfl) (fun A eA => ?_)
    simp (disch := first | omega | (simp only [avs_len, List.length_cons, List.length_append, List.length_nil, List.length_take, List.length_drop, List.length_map]; omega) | (simp only [cells, scal1, allSz, List.length_cons, List.length_nil, List.length_append, List.length_map, List.all_cons, List.all_nil, avs_len, beq_self_eq_true, Bool.and_self, and_self, or_true, true_or, reduceCtorEq, *]; done) | fail) only [c_codec_Out_Bool, go_sem, Nat.reduceAdd, Nat.reduceSub, Nat.reduceMul, Nat.reduceLT, Nat.reduceLeDiff, Int.reduceToNat, Nat.reduceEqDiff, Nat.reduceBEq, ↓reduceIte, reduceCtorEq, eA, scal1]
    exact doneH hs rfl rfl
  | false =>
    simp (disch := first | omega | (simp only [avs_len, List.length_cons, List.length_append, List.length_nil, List.length_take, List.length_drop, List.length_map]; omega) | (simp only [cells, scal1, allSz, List.length_cons, List.length_nil, List.length_append, List.length_map, List.all_cons, List.all_nil, avs_len, beq_self_eq_true, Bool.and_self, and_self, or_true, true_or, reduceCtorEq, *]; done) | fail) only [c_codec_Out_Bool, go_sem, Nat.reduceAdd, Nat.reduceSub, Nat.reduceMul, Nat.reduceLT, Nat.reduceLeDiff, Int.reduceToNat, Nat.reduceEqDiff, Nat.reduceBEq, ↓reduceIte, reduceCtorEq, eA, scal1]
    refine call2 100 trivial trivial ks hin hre h (.inl rfl) (fun A eA => ?_)
    simp (disch := first | omega | (simp only [avs_len, List.length_cons, List.length_append, List.length_nil, List.length_take, List.length_drop, List.length_map]; omega) | (simp only [cells, scal1, allSz, List.length_cons, List.length_nil, List.length_append, List.length_map, List.all_cons, List.all_nil, avs_len, beq_self_eq_true, Bool.and_self, and_self, or_true, true_or, reduceCtorEq, *]; done) | fail) only [c_codec_Out_Bool, go_sem, Nat.reduceAdd, Nat.reduceSub, Nat.reduceMul, Nat.reduceLT, Nat.reduceLeDiff, Int.reduceToNat, Nat.reduceEqDiff, Nat.reduceBEq, ↓reduceIte, reduceCtorEq, eA, scal1]
    exact fallH hs rfl rfl
end Go.Proofs.Ytmokhopjnjecbab
/- The lemmas for Out.Text and End: names of an Out's rows, an append to a row that is there. -/
namespace Go.Proofs.Ytmokhopjnjecbab
open Go.Ev
set_option linter.unusedVariables false
set_option linter.unusedSimpArgs false
set_option maxRecDepth 100000
set_option maxHeartbeats 1600000

def obK (f d : Nat) (e : Option (Nat × Nat)) : List (Nat × Nat) := match e with
  | none => [(f, d)]
  | some (key, _) => [(f, d), (1, key)]
theorem obK_sel (f d g : Nat) (B : Option (List AV)) (e : Option (Nat × Nat)) (bs : List Nat) (he : ObOk d e bs) : Ev.sel (obK f d e) ((f, d, g, B) :: obH e bs) = (f, d, g, B) :: obH e bs := by
  cases e with
  | none => simp [obK, obH, Ev.sel, find]
  | some p =>
    have h : d < p.1 := he.1
    exact ob_sel f d g B p.1 p.2 bs h
theorem obK_rest (f d g : Nat) (B : Option (List AV)) (e : Option (Nat × Nat)) (bs : List Nat) : rest (obK f d e) ((f, d, g, B) :: obH e bs) = [] := by
  cases e with
  | none => simp [obK, obH, rest, keyIn, kill]
  | some p => simp [obK, obH, rest, keyIn, kill]
theorem ob_app_some {α : Type} (K f d g : Nat) (B : Option (List AV)) (key g' : Nat) (bs : List Nat) (hk : d < key) (ns : List Nat) (c : Option Nat) (hlen : bs.length + ns.length ≤ 1099511627776) (nx : Ctr) (ok : AV → Heap → Ctr → α) (bad : α) :
    appK 1 1 K (obV (some (key, g')) bs) (.fz 1 (avs ns) c) ((f, d, g, B) :: obH (some (key, g')) bs) nx 1 ok bad = ok (.sl 1 key (nx key) 1 0 (bs ++ ns).length) ((f, d, g, B) :: obH (some (key, nx key)) (bs ++ ns)) (bump nx key) := by
  have n2 : ¬ (d = key ∧ f = 1) := by omega
  have n3 : ¬ key < d := by omega
  have n4 : (bs.length + ns.length) * 1 ≤ 1099511627776 ∧ bs.length + ns.length ≤ 1099511627776 := by omega
  have n5 : (avs bs).length = bs.length * 1 := by rw [avs_len]; omega
  simp only [appK, obV, obH, avs_len, catCells_avs, setB, getB, if_neg n2, if_neg n3, and_self, if_true, true_and, if_pos n4, n5, avs_append, List.length_append]
end Go.Proofs.Ytmokhopjnjecbab
/- The walk through Out.Text. -/
-- short
namespace Go.Proofs.Ytmokhopjnjecbab
open Go.Ev
set_option linter.unusedVariables false
set_option linter.unusedSimpArgs false
set_option maxRecDepth 100000
set_option maxHeartbeats 1600000

theorem outText_h (bd : Bool) (f d g : Nat) (hd : d < 26) (s : ByteArray) (hs : s.size ≤ 2000) (e : Option (Nat × Nat)) (bs : List Nat) (nx : Ctr) (he : ObOk d e bs) (hl : bs.length < 1099511620000) :
    ∃ key g' nx', (d < key ∧ key < 50) ∧ HCalls Try.prog F_codec_Out_Text [.ptr f d g 0, .str s] ((f, d, g, some [obV e bs, .bool bd]) :: obH e bs) nx (.tup []) ((f, d, g, some [obV (some (key, g')) (bs ++ (numB s.size ++ sbs s)), .bool bd]) :: obH (some (key, g')) (bs ++ (numB s.size ++ sbs s))) nx' := by
  obtain ⟨key, g1, nx1, hk, hn⟩ := outNum_h bd f d g hd s.size (by omega) e bs nx he (by omega)
  have hnl := numB_len 9 s.size (by omega)
  have hsl := sbs_len s
  have hA := fun ok b => ob_app_some (α := Out) 16 f d g (some [obV (some (key, g1)) (bs ++ numB s.size), .bool bd]) key g1 (bs ++ numB s.size) hk.1 (sbs s) none (by rw [List.length_append]; omega) nx1 ok b
  refine ⟨key, nx1 key, bump nx1 key, hk, hcalls_codec_Out_Text 1 [(f, d), (1, key)] (walk0 100 trivial (fun A eA => ?_))⟩
  simp (disch := first | omega | (simp only [avs_len, List.length_cons, List.length_append, List.length_nil, List.length_take, List.length_drop, List.length_map]; omega) | (simp only [cells, scal1, allSz, List.length_cons, List.length_nil, List.length_append, List.length_map, List.all_cons, List.all_nil, avs_len, beq_self_eq_true, Bool.and_self, and_self, or_true, true_or, reduceCtorEq, *]; done) | fail) only [c_codec_Out_Text, go_sem, Nat.reduceAdd, Nat.reduceSub, Nat.reduceMul, Nat.reduceLT, Nat.reduceLeDiff, Int.reduceToNat, Nat.reduceEqDiff, Nat.reduceBEq, ↓reduceIte, reduceCtorEq, eA, scal1]
  refine call2 100 trivial trivial (obK f d e) (obK_sel f d g _ e bs he) (obK_rest f d g _ e bs) hn (.inl rfl) (fun A eA => ?_)
  simp (disch := first | omega | (simp only [avs_len, List.length_cons, List.length_append, List.length_nil, List.length_take, List.length_drop, List.length_map]; omega) | (simp only [cells, scal1, allSz, List.length_cons, List.length_nil, List.length_append, List.length_map, List.all_cons, List.all_nil, avs_len, beq_self_eq_true, Bool.and_self, and_self, or_true, true_or, reduceCtorEq, *]; done) | fail) only [c_codec_Out_Text, go_sem, Nat.reduceAdd, Nat.reduceSub, Nat.reduceMul, Nat.reduceLT, Nat.reduceLeDiff, Int.reduceToNat, Nat.reduceEqDiff, Nat.reduceBEq, ↓reduceIte, reduceCtorEq, eA, ob_find, ob_get, ob_set, avBytes_sbs, scal1, List.all_cons, List.all_nil, Bool.and_self, ↓hA]
  rw [show obV (some (key, nx1 key)) (bs ++ (numB s.size ++ sbs s)) = .sl 1 key (nx1 key) 1 0 (bs.length + (numB s.size).length + (sbs s).length) by simp [obV, Nat.add_assoc], ← List.append_assoc]
  exact fallH (ob_sel f d g _ key _ _ hk.1) rfl rfl
end Go.Proofs.Ytmokhopjnjecbab
/- The walk through Out.End; what is put is taken as it was: plain. -/
-- short
namespace Go.Proofs.Ytmokhopjnjecbab
open Go.Ev
set_option linter.unusedVariables false
set_option linter.unusedSimpArgs false
set_option maxRecDepth 100000
set_option maxHeartbeats 1600000

/-- A copy of a row that may be written. -/
theorem cloneRow_h (φ f d g : Nat) (bs : List Nat) (h0 : bs ≠ []) (hlen : bs.length ≤ 1099511627776) (hd : ¬ (d = 7 ∧ f = φ)) (nx : Ctr) :
    HCalls Try.prog F_bytes_Clone [.sl f d g 1 0 bs.length] [(f, d, g, some (avs bs))] nx (.sl φ 7 (nx 7) 1 0 bs.length) [(f, d, g, some (avs bs)), (φ, 7, nx 7, some (avs bs))] (bump nx 7) := by
  have hp : 0 < bs.length := List.length_pos_iff.2 h0
  have n1 : ¬ bs.length = 0 := by omega
  have hT : (avs bs).take bs.length = avs bs := avs_take_all _ _ (Nat.le_refl _)
  have hd2 : ¬ (7 = d ∧ φ = f) := fun e => hd ⟨e.1.symm, e.2.symm⟩
  refine hcalls_bytes_Clone φ [(f, d), (φ, 7)] (walk0 100 trivial (fun A eA => ?_))
  by_cases h7 : 7 < d
  · simp (disch := first | omega | (simp only [avs_len, List.length_cons, List.length_append, List.length_nil, List.length_take, List.length_drop, List.length_map]; omega) | (simp only [cells, scal1, allSz, List.length_cons, List.length_nil, List.length_append, List.length_map, List.all_cons, List.all_nil, avs_len, beq_self_eq_true, Bool.and_self, and_self, or_true, true_or, reduceCtorEq, *]; done) | fail) only [c_bytes_Clone, go_sem, Nat.reduceAdd, Nat.reduceSub, Nat.reduceMul, Nat.reduceLT, Nat.reduceLeDiff, Int.reduceToNat, Nat.reduceEqDiff, Nat.reduceBEq, ↓reduceIte, reduceCtorEq, eA, ↓appK, allSz, avs_len, n1, hp, hlen, hT, catCells, hd, h7]
    exact doneH (by simp [Ev.sel, find, hd, hd2]) rfl rfl
  · simp (disch := first | omega | (simp only [avs_len, List.length_cons, List.length_append, List.length_nil, List.length_take, List.length_drop, List.length_map]; omega) | (simp only [cells, scal1, allSz, List.length_cons, List.length_nil, List.length_append, List.length_map, List.all_cons, List.all_nil, avs_len, beq_self_eq_true, Bool.and_self, and_self, or_true, true_or, reduceCtorEq, *]; done) | fail) only [c_bytes_Clone, go_sem, Nat.reduceAdd, Nat.reduceSub, Nat.reduceMul, Nat.reduceLT, Nat.reduceLeDiff, Int.reduceToNat, Nat.reduceEqDiff, Nat.reduceBEq, ↓reduceIte, reduceCtorEq, eA, ↓appK, allSz, avs_len, n1, hp, hlen, hT, catCells, hd, h7]
    exact doneH (by simp [Ev.sel, find, hd, hd2]) rfl rfl
theorem cloneNil_h (φ : Nat) (nx : Ctr) : HCalls Try.prog F_bytes_Clone [.nils] [] nx .nils [] nx := by
  refine hcalls_bytes_Clone φ [] (walk0 100 trivial (fun A eA => ?_))
  simp (disch := first | omega | (simp only [avs_len, List.length_cons, List.length_append, List.length_nil, List.length_take, List.length_drop, List.length_map]; omega) | (simp only [cells, scal1, allSz, List.length_cons, List.length_nil, List.length_append, List.length_map, List.all_cons, List.all_nil, avs_len, beq_self_eq_true, Bool.and_self, and_self, or_true, true_or, reduceCtorEq, *]; done) | fail) only [c_bytes_Clone, go_sem, Nat.reduceAdd, Nat.reduceSub, Nat.reduceMul, Nat.reduceLT, Nat.reduceLeDiff, Int.reduceToNat, Nat.reduceEqDiff, Nat.reduceBEq, ↓reduceIte, reduceCtorEq, eA, ↓appK]
  exact doneH rfl rfl rfl
theorem outEnd_bad (f d g : Nat) (e : Option (Nat × Nat)) (bs : List Nat) (he : ObOk d e bs) (nx : Ctr) :
    HCalls Try.prog F_codec_Out_End [.ptr f d g 0] ((f, d, g, some [obV e bs, .bool true]) :: obH e bs) nx (.tup [.nils, .int .i64 1]) ((f, d, g, some [obV e bs, .bool true]) :: obH e bs) nx := by
  refine hcalls_codec_Out_End 7 (obK f d e) (walk0 100 trivial (fun A eA => ?_))
  simp (disch := first | omega | (simp only [avs_len, List.length_cons, List.length_append, List.length_nil, List.length_take, List.length_drop, List.length_map]; omega) | (simp only [cells, scal1, allSz, List.length_cons, List.length_nil, List.length_append, List.length_map, List.all_cons, List.all_nil, avs_len, beq_self_eq_true, Bool.and_self, and_self, or_true, true_or, reduceCtorEq, *]; done) | fail) only [c_codec_Out_End, go_sem, Nat.reduceAdd, Nat.reduceSub, Nat.reduceMul, Nat.reduceLT, Nat.reduceLeDiff, Int.reduceToNat, Nat.reduceEqDiff, Nat.reduceBEq, ↓reduceIte, reduceCtorEq, eA, ob_find, ob_get, scal1]
  exact doneH (obK_sel f d g _ e bs he) rfl rfl
theorem outEnd_none (f d g : Nat) (nx : Ctr) :
    HCalls Try.prog F_codec_Out_End [.ptr f d g 0] [(f, d, g, some [.nils, .bool false])] nx (.tup [.nils, .int .i64 0]) [(f, d, g, some [.nils, .bool false])] nx := by
  refine hcalls_codec_Out_End 7 [(f, d)] (walk0 100 trivial (fun A eA => ?_))
  simp (disch := first | omega | (simp only [avs_len, List.length_cons, List.length_append, List.length_nil, List.length_take, List.length_drop, List.length_map]; omega) | (simp only [cells, scal1, allSz, List.length_cons, List.length_nil, List.length_append, List.length_map, List.all_cons, List.all_nil, avs_len, beq_self_eq_true, Bool.and_self, and_self, or_true, true_or, reduceCtorEq, *]; done) | fail) only [c_codec_Out_End, go_sem, Nat.reduceAdd, Nat.reduceSub, Nat.reduceMul, Nat.reduceLT, Nat.reduceLeDiff, Int.reduceToNat, Nat.reduceEqDiff, Nat.reduceBEq, ↓reduceIte, reduceCtorEq, eA, ob_find, ob_get, scal1]
  refine call2 100 trivial trivial [] rfl rfl (cloneNil_h 8 nx) (.inr ⟨rfl, rfl⟩) (fun A eA => ?_)
  simp (disch := first | omega | (simp only [avs_len, List.length_cons, List.length_append, List.length_nil, List.length_take, List.length_drop, List.length_map]; omega) | (simp only [cells, scal1, allSz, List.length_cons, List.length_nil, List.length_append, List.length_map, List.all_cons, List.all_nil, avs_len, beq_self_eq_true, Bool.and_self, and_self, or_true, true_or, reduceCtorEq, *]; done) | fail) only [c_codec_Out_End, go_sem, Nat.reduceAdd, Nat.reduceSub, Nat.reduceMul, Nat.reduceLT, Nat.reduceLeDiff, Int.reduceToNat, Nat.reduceEqDiff, Nat.reduceBEq, ↓reduceIte, reduceCtorEq, eA, ob_find, ob_get, scal1]
  exact doneH (by simp only [go_sem, Nat.reduceAdd, Nat.reduceSub, Nat.reduceMul, Nat.reduceLT, Nat.reduceLeDiff, Int.reduceToNat, Nat.reduceEqDiff, Nat.reduceBEq, ↓reduceIte, reduceCtorEq]) rfl rfl
theorem outEnd_some (f d g key g' : Nat) (hf : f ≠ 1) (hf8 : f ≠ 8) (bs : List Nat) (h0 : bs ≠ []) (hlen : bs.length ≤ 1099511627776) (nx : Ctr) :
    HCalls Try.prog F_codec_Out_End [.ptr f d g 0] [(f, d, g, some [.sl 1 key g' 1 0 bs.length, .bool false]), (1, key, g', some (avs bs))] nx (.tup [.sl 8 7 (nx 7) 1 0 bs.length, .int .i64 0])
      [(f, d, g, some [.sl 1 key g' 1 0 bs.length, .bool false]), (1, key, g', some (avs bs)), (8, 7, nx 7, some (avs bs))] (bump nx 7) := by
  refine hcalls_codec_Out_End 7 [(f, d), (1, key), (8, 7)] (walk0 100 trivial (fun A eA => ?_))
  have s1 : Ev.sel [(1, key)] [(f, d, g, some [.sl 1 key g' 1 0 bs.length, .bool false]), (1, key, g', some (avs bs))] = [(1, key, g', some (avs bs))] := by simp [Ev.sel, find, hf]
  have s2 : rest [(1, key)] [(f, d, g, some [.sl 1 key g' 1 0 bs.length, .bool false]), (1, key, g', some (avs bs))] = [(f, d, g, some [.sl 1 key g' 1 0 bs.length, .bool false])] := by simp [rest, keyIn, Ne.symm hf]
  have hav : ∀ H : Heap, (avs bs).all (nameFree 9 H) = true := fun H => by simp [avs, nameFree]
  simp (disch := first | omega | (simp only [avs_len, List.length_cons, List.length_append, List.length_nil, List.length_take, List.length_drop, List.length_map]; omega) | (simp only [cells, scal1, allSz, List.length_cons, List.length_nil, List.length_append, List.length_map, List.all_cons, List.all_nil, avs_len, beq_self_eq_true, Bool.and_self, and_self, or_true, true_or, reduceCtorEq, *]; done) | fail) only [c_codec_Out_End, go_sem, Nat.reduceAdd, Nat.reduceSub, Nat.reduceMul, Nat.reduceLT, Nat.reduceLeDiff, Int.reduceToNat, Nat.reduceEqDiff, Nat.reduceBEq, ↓reduceIte, reduceCtorEq, eA, ob_find, ob_get, scal1]
  refine call2 100 trivial trivial [(1, key)] s1 s2 (cloneRow_h 8 1 key g' bs h0 hlen (by omega) nx) (.inr ⟨by simp [nameFree, find, hf8], by simp only [heapFree, hav, Bool.and_self]⟩) (fun A eA => ?_)
  simp (disch := first | omega | (simp only [avs_len, List.length_cons, List.length_append, List.length_nil, List.length_take, List.length_drop, List.length_map]; omega) | (simp only [cells, scal1, allSz, List.length_cons, List.length_nil, List.length_append, List.length_map, List.all_cons, List.all_nil, avs_len, beq_self_eq_true, Bool.and_self, and_self, or_true, true_or, reduceCtorEq, *]; done) | fail) only [c_codec_Out_End, go_sem, Nat.reduceAdd, Nat.reduceSub, Nat.reduceMul, Nat.reduceLT, Nat.reduceLeDiff, Int.reduceToNat, Nat.reduceEqDiff, Nat.reduceBEq, ↓reduceIte, reduceCtorEq, eA, ob_find, ob_get, scal1]
  exact doneH (by simp [Ev.sel, find, hf, hf8, Ne.symm hf, Ne.symm hf8]) rfl rfl
end Go.Proofs.Ytmokhopjnjecbab
/- What gathers bytes, as contracts over one state. -/
-- short
namespace Go.Proofs.Ytmokhopjnjecbab
open Go.Ev
set_option linter.unusedVariables false
set_option linter.unusedSimpArgs false
set_option maxRecDepth 100000
set_option maxHeartbeats 1600000
/-- An Out that holds these bytes. -/
abbrev outS (f d g : Nat) (e : Option (Nat × Nat)) (bs : List Nat) : Heap := (f, d, g, some [obV e bs, .bool false]) :: obH e bs
/-- Called with an Out it puts these bytes. -/
def Puts (F : Nat) (args : List AV) (B : List Nat) : Prop := ∀ (f d g : Nat), d < 26 → ∀ (e : Option (Nat × Nat)) (bs : List Nat) (nx : Ctr), ObOk d e bs → bs.length + B.length < 1000000000 →
  ∃ key g' nx', (d < key ∧ key < 50) ∧ HCalls Try.prog F (.ptr f d g 0 :: args) (outS f d g e bs) nx (.tup []) (outS f d g (some (key, g')) (bs ++ B)) nx'
theorem num_puts (v : Nat) (hv : v < 9223372036854775808) : Puts F_codec_Out_Num [.int .i64 (v : Nat)] (numB v) :=
  fun f d g hd e bs nx he hl => outNum_h false f d g hd v hv e bs nx he (by omega)
theorem text_puts (s : ByteArray) (hs : s.size ≤ 2000) : Puts F_codec_Out_Text [.str s] (numB s.size ++ sbs s) :=
  fun f d g hd e bs nx he hl => outText_h false f d g hd s hs e bs nx he (by omega)
theorem bool_puts (b : Bool) : Puts F_codec_Out_Bool [.bool b] (numB (if b = true then 1 else 0)) := by
  intro f d g hd e bs nx he hl
  obtain ⟨key, g', nx', hk, h⟩ := outNum_h false f d g hd (if b = true then 1 else 0) (by split <;> omega) e bs nx he (by omega)
  refine ⟨key, g', nx', hk, bool_num f d g b _ _ _ _ (obK f d e) [(f, d), (1, key)] nx nx' (obK_sel f d g _ e bs he) (obK_rest f d g _ e bs) (ob_sel f d g _ key _ _ hk.1) ?_⟩
  cases b
  · exact h
  · exact h
theorem bool0_puts : Puts F_codec_Out_Bool [.bool false] (numB 0) := bool_puts false
theorem bool1_puts : Puts F_codec_Out_Bool [.bool true] (numB 1) := bool_puts true
end Go.Proofs.Ytmokhopjnjecbab
