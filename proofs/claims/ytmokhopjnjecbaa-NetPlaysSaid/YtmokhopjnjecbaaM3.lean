/- The functions' bodies, compiled; printed by a program of mine (gen.py); that they are is checked here. -/
import Derived.Test.YtmokhopjnjecbaaM2
import Derived.Test.YtmokhopjnjecbaaRows
import Derived.Eval
import Derived.KernelRfl
import Derived.Attr
import Derived.ChangeKeysEq
namespace Go.Proofs.Ytmokhopjnjecbaa
open Go.Ev
set_option maxRecDepth 100000

/-- slices.Clone[[]pedlar/net.Parcel,pedlar/net.Parcel]: parameters [72], results [.t 2], calls  -/
def c_slices_Clone_net_Parcel : Cd := (.seq (.reg [⟨(some 2), none, .mv, [.c .nils]⟩]) (.seq (.seq (.reg [⟨(some 3), none, .mv, [.t 0]⟩, ⟨(some 4), none, (.eqs false), [.t 3, .c .nils]⟩]) (.cond (.t 4) (.seq (.reg [⟨(some 2), none, .mv, [.c .nils]⟩]) .ret) .skip)) (.seq (.reg [⟨(some 5), none, (.lit 2 0), []⟩, ⟨(some 6), none, .mv, [.t 0]⟩, ⟨(some 7), none, (.app 2 32 7), [.t 5, .t 6]⟩, ⟨(some 2), none, .mv, [.t 7]⟩]) .ret)))
theorem comp_slices_Clone_net_Parcel : compF Try.prog (mset [] [] []) (cset [] [] []) (wset [] []) Try.f101 = some c_slices_Clone_net_Parcel := by kernel_rfl
theorem ok_slices_Clone_net_Parcel : fnOk Try.prog F_slices_Clone_net_Parcel = true := by kernel_rfl
theorem calls_slices_Clone_net_Parcel {args : List AV} {r : AV} (h : RunsX Try.prog 0 (Gives [.t 2] r) [.c c_slices_Clone_net_Parcel] (args ++ List.replicate (8 - args.length) (.tup [])) [] zeroC) : PCalls Try.prog F_slices_Clone_net_Parcel args r :=
  pcallsF Try.checked.mixed Try.func101 ok_slices_Clone_net_Parcel comp_slices_Clone_net_Parcel rfl (rs := [.t 2]) (by kernel_rfl) h
theorem hcalls_slices_Clone_net_Parcel {args : List AV} {Hin Hout : Heap} {nx nx2 : Ctr} {r : AV} (φ : Nat) (ks : List (Nat × Nat)) (h : RunsX Try.prog φ (GivesH ks [.t 2] r Hout nx2) [.c c_slices_Clone_net_Parcel] (args ++ List.replicate (8 - args.length) (.tup [])) Hin nx) : HCalls Try.prog F_slices_Clone_net_Parcel args Hin nx r Hout nx2 :=
  hcallsF Try.checked.mixed Try.func101 ok_slices_Clone_net_Parcel comp_slices_Clone_net_Parcel rfl (rs := [.t 2]) (by kernel_rfl) φ ks h

/-- slices.Delete[[]pedlar/net.Parcel,pedlar/net.Parcel]: parameters [72, 3, 3], results [.t 6], calls  -/
def c_slices_Delete_net_Parcel : Cd := (.seq (.reg [⟨(some 6), none, .mv, [.c .nils]⟩]) (.seq (.reg [⟨(some 8), none, .mv, [.t 0]⟩, ⟨(some 9), none, .mv, [.t 1]⟩, ⟨(some 10), none, .mv, [.t 2]⟩, ⟨(some 11), none, .mv, [.t 0]⟩, ⟨(some 12), none, .len, [.t 11]⟩, ⟨(some 13), none, (.slcx 2 true true true), [.t 8, .t 9, .t 10, .t 12]⟩]) (.seq (.seq (.reg [⟨(some 14), none, .mv, [.t 1]⟩, ⟨(some 15), none, .mv, [.t 2]⟩, ⟨(some 16), none, (.bin .eql), [.t 14, .t 15]⟩]) (.cond (.t 16) (.seq (.reg [⟨(some 17), none, .mv, [.t 0]⟩, ⟨(some 6), none, .mv, [.t 17]⟩]) .ret) .skip)) (.seq (.reg [⟨(some 18), none, .mv, [.t 0]⟩, ⟨(some 19), none, .len, [.t 18]⟩, ⟨(some 7), none, .mv, [.t 19]⟩]) (.seq (.reg [⟨(some 20), none, .mv, [.t 0]⟩, ⟨(some 21), none, .mv, [.t 1]⟩, ⟨(some 22), none, (.slc 2 false true false), [.t 20, .t 21]⟩, ⟨(some 23), none, .mv, [.t 0]⟩, ⟨(some 24), none, .mv, [.t 2]⟩, ⟨(some 25), none, (.slc 2 true false false), [.t 23, .t 24]⟩, ⟨(some 26), none, (.app 2 32 26), [.t 22, .t 25]⟩, ⟨(some 0), none, .mv, [.t 26]⟩]) (.seq (.reg [⟨(some 27), none, .mv, [.t 0]⟩, ⟨(some 28), none, .mv, [.t 0]⟩, ⟨(some 29), none, .len, [.t 28]⟩, ⟨(some 30), none, .mv, [.t 7]⟩, ⟨(some 31), none, (.slcx 2 true true false), [.t 27, .t 29, .t 30]⟩, ⟨none, none, (.clr 2), [.t 31]⟩]) (.seq (.reg [⟨(some 32), none, .mv, [.t 0]⟩, ⟨(some 6), none, .mv, [.t 32]⟩]) .ret)))))))
theorem comp_slices_Delete_net_Parcel : compF Try.prog (mset5 [] [] [] [] [13, 31] []) (cset [] [] []) (wset [] []) Try.f104 = some c_slices_Delete_net_Parcel := by kernel_rfl
theorem ok_slices_Delete_net_Parcel : fnOk Try.prog F_slices_Delete_net_Parcel = true := by kernel_rfl
theorem calls_slices_Delete_net_Parcel {args : List AV} {r : AV} (h : RunsX Try.prog 0 (Gives [.t 6] r) [.c c_slices_Delete_net_Parcel] (args ++ List.replicate (33 - args.length) (.tup [])) [] zeroC) : PCalls Try.prog F_slices_Delete_net_Parcel args r :=
  pcallsF Try.checked.mixed Try.func104 ok_slices_Delete_net_Parcel comp_slices_Delete_net_Parcel rfl (rs := [.t 6]) (by kernel_rfl) h
theorem hcalls_slices_Delete_net_Parcel {args : List AV} {Hin Hout : Heap} {nx nx2 : Ctr} {r : AV} (φ : Nat) (ks : List (Nat × Nat)) (h : RunsX Try.prog φ (GivesH ks [.t 6] r Hout nx2) [.c c_slices_Delete_net_Parcel] (args ++ List.replicate (33 - args.length) (.tup [])) Hin nx) : HCalls Try.prog F_slices_Delete_net_Parcel args Hin nx r Hout nx2 :=
  hcallsF Try.checked.mixed Try.func104 ok_slices_Delete_net_Parcel comp_slices_Delete_net_Parcel rfl (rs := [.t 6]) (by kernel_rfl) φ ks h

/-- (*pedlar/net.Net).Send: parameters [126, 76], results [.t 4], calls slices_Clone_net_Parcel, net_clone -/
def c_net_Net_Send : Cd := (.seq (.reg [⟨(some 3), none, .box, [.t 1]⟩, ⟨(some 4), none, .mv, [.c (.int .i64 0)]⟩]) (.seq (.blk 0 [] (.seq (.reg [⟨(some 6), none, .mv, [.t 0]⟩, ⟨(some 7), none, (.eqp false), [.t 6, .c .nilp]⟩, ⟨(some 5), none, .mv, [.t 7]⟩]) (.cond (.t 5) (.seq (.reg [⟨(some 4), none, .mv, [.c (.int .i64 1)]⟩]) .ret) (.seq (.reg [⟨(some 9), none, .mv, [.t 0]⟩, ⟨(some 10), none, .nck, [.t 9]⟩, ⟨(some 11), none, (.fa 0), [.t 10]⟩, ⟨(some 12), none, .ld1, [.t 11]⟩, ⟨(some 13), none, .len, [.t 12]⟩, ⟨(some 14), none, (.bin .geq), [.t 13, .c (.int .i64 40)]⟩, ⟨(some 8), none, .mv, [.t 14]⟩]) (.cond (.t 8) (.seq (.reg [⟨(some 4), none, .mv, [.c (.int .i64 4)]⟩]) .ret) .skip))))) (.seq (.reg [⟨(some 15), none, .mv, [.t 0]⟩, ⟨(some 16), none, .mv, [.t 0]⟩, ⟨(some 17), none, .nck, [.t 16]⟩, ⟨(some 18), none, (.fa 0), [.t 17]⟩, ⟨(some 19), none, .ld1, [.t 18]⟩, ⟨(some 20), none, (.call F_slices_Clone_net_Parcel 2), [.t 19]⟩, ⟨(some 21), none, (.ldnr 2), [.t 3]⟩, ⟨(some 22), none, (.call F_net_clone 4), [.t 21]⟩, ⟨(some 23), none, (.litr 2 1), [.t 22]⟩, ⟨(some 24), none, (.app 2 32 24), [.t 20, .t 23]⟩, ⟨(some 25), none, .nck, [.t 15]⟩, ⟨(some 26), none, (.fa 0), [.t 25]⟩, ⟨none, none, (.stf 1), [.t 26, .t 24]⟩]) (.seq (.reg [⟨(some 4), none, .mv, [.c (.int .i64 0)]⟩]) .ret))))
theorem comp_net_Net_Send : compF Try.prog (mset5 [] [21, 23] [] [] [] [26]) (cset [] [F_slices_Clone_net_Parcel] [] [F_net_clone]) (wset [] []) Try.f57 = some c_net_Net_Send := by kernel_rfl
theorem ok_net_Net_Send : fnOk Try.prog F_net_Net_Send = true := by kernel_rfl
theorem calls_net_Net_Send {args : List AV} {r : AV} (h : RunsX Try.prog 0 (Gives [.t 4] r) [.c c_net_Net_Send] (args ++ List.replicate (27 - args.length) (.tup [])) [] zeroC) : PCalls Try.prog F_net_Net_Send args r :=
  pcallsF Try.checked.mixed Try.func57 ok_net_Net_Send comp_net_Net_Send rfl (rs := [.t 4]) (by kernel_rfl) h
theorem hcalls_net_Net_Send {args : List AV} {Hin Hout : Heap} {nx nx2 : Ctr} {r : AV} (φ : Nat) (ks : List (Nat × Nat)) (h : RunsX Try.prog φ (GivesH ks [.t 4] r Hout nx2) [.c c_net_Net_Send] (args ++ List.replicate (27 - args.length) (.tup [])) Hin nx) : HCalls Try.prog F_net_Net_Send args Hin nx r Hout nx2 :=
  hcallsF Try.checked.mixed Try.func57 ok_net_Net_Send comp_net_Net_Send rfl (rs := [.t 4]) (by kernel_rfl) φ ks h

/-- (*pedlar/net.Net).Take: parameters [126, 3], results [.cn 4 2, .t 5], calls net_Net_there, net_clone, slices_Clone_net_Parcel, slices_Delete_net_Parcel -/
def c_net_Net_Take : Cd := (.seq (.reg [⟨(some 4), none, (.new [(.int .i64 0), .nils] 4), []⟩, ⟨(some 5), none, .mv, [.c (.int .i64 0)]⟩]) (.seq (.seq (.reg [⟨(some 8), none, .mv, [.t 0]⟩, ⟨(some 9), none, .mv, [.t 1]⟩, ⟨(some 10), none, (.call F_net_Net_there 2), [.t 8, .t 9]⟩, ⟨(some 6), none, .mv, [.t 10]⟩]) (.seq (.reg [⟨(some 11), none, .mv, [.t 6]⟩, ⟨(some 12), none, (.bin .neq), [.t 11, .c (.int .i64 0)]⟩]) (.cond (.t 12) (.seq (.reg [⟨(some 13), none, (.bld [(.int .i64 0), .nils] []), []⟩, ⟨(some 14), none, .mv, [.t 6]⟩, ⟨none, none, (.st 2), [.t 4, .t 13]⟩, ⟨(some 5), none, .mv, [.t 14]⟩]) .ret) .skip))) (.seq (.reg [⟨(some 15), none, .mv, [.t 0]⟩, ⟨(some 16), none, .nck, [.t 15]⟩, ⟨(some 17), none, (.fa 0), [.t 16]⟩, ⟨(some 18), none, .ld1, [.t 17]⟩, ⟨(some 19), none, .mv, [.t 1]⟩, ⟨(some 20), none, (.ixS 2), [.t 18, .t 19]⟩, ⟨(some 21), none, (.ldn 2), [.t 20]⟩, ⟨(some 22), none, (.call F_net_clone 0), [.t 21]⟩, ⟨(some 7), none, (.new [(.int .i64 0), .nils] 7), []⟩, ⟨none, none, (.st 2), [.t 7, .t 22]⟩]) (.seq (.reg [⟨(some 23), none, .mv, [.t 0]⟩, ⟨(some 24), none, .mv, [.t 0]⟩, ⟨(some 25), none, .nck, [.t 24]⟩, ⟨(some 26), none, (.fa 0), [.t 25]⟩, ⟨(some 27), none, .ld1, [.t 26]⟩, ⟨(some 28), none, (.call F_slices_Clone_net_Parcel 2), [.t 27]⟩, ⟨(some 29), none, .mv, [.t 1]⟩, ⟨(some 30), none, .mv, [.t 1]⟩, ⟨(some 31), none, (.bin .add), [.t 30, .c (.int .i64 1)]⟩, ⟨(some 32), none, (.call F_slices_Delete_net_Parcel 2), [.t 28, .t 29, .t 31]⟩, ⟨(some 33), none, .nck, [.t 23]⟩, ⟨(some 34), none, (.fa 0), [.t 33]⟩, ⟨none, none, (.stf 1), [.t 34, .t 32]⟩]) (.seq (.reg [⟨(some 35), none, (.ldn 2), [.t 7]⟩, ⟨none, none, (.st 2), [.t 4, .t 35]⟩, ⟨(some 5), none, .mv, [.c (.int .i64 0)]⟩]) .ret)))))
theorem comp_net_Net_Take : compF Try.prog (mset5 [] [] [] [] [] [34]) (cset [] [F_slices_Clone_net_Parcel, F_slices_Delete_net_Parcel, F_net_Net_there] []) (wset [] []) Try.f58 = some c_net_Net_Take := by kernel_rfl
theorem ok_net_Net_Take : fnOk Try.prog F_net_Net_Take = true := by kernel_rfl
theorem calls_net_Net_Take {args : List AV} {r : AV} (h : RunsX Try.prog 0 (Gives [.cn 4 2, .t 5] r) [.c c_net_Net_Take] (args ++ List.replicate (36 - args.length) (.tup [])) [] zeroC) : PCalls Try.prog F_net_Net_Take args r :=
  pcallsF Try.checked.mixed Try.func58 ok_net_Net_Take comp_net_Net_Take rfl (rs := [.cn 4 2, .t 5]) (by kernel_rfl) h
theorem hcalls_net_Net_Take {args : List AV} {Hin Hout : Heap} {nx nx2 : Ctr} {r : AV} (φ : Nat) (ks : List (Nat × Nat)) (h : RunsX Try.prog φ (GivesH ks [.cn 4 2, .t 5] r Hout nx2) [.c c_net_Net_Take] (args ++ List.replicate (36 - args.length) (.tup [])) Hin nx) : HCalls Try.prog F_net_Net_Take args Hin nx r Hout nx2 :=
  hcallsF Try.checked.mixed Try.func58 ok_net_Net_Take comp_net_Net_Take rfl (rs := [.cn 4 2, .t 5]) (by kernel_rfl) φ ks h

/-- pedlar/pedlarlaw19.same: parameters [72, 72], results [.t 4], calls  -/
def wl_law19_same_0 : Mk := ⟨[false, false, true, true, true, true, true, true, true, true, true, true, false, false, true, true, true, true, true, true, true, true, true, true, true, true, true, true, true, true, true, true, true, true, true, true, true, true, true, true, true, true, true], []⟩
abbrev s_law19_same_0 (t0 t1 t12 t13 : AV) : List AV := [t0, t1, .any, .any, .any, .any, .any, .any, .any, .any, .any, .any, t12, t13, .any, .any, .any, .any, .any, .any, .any, .any, .any, .any, .any, .any, .any, .any, .any, .any, .any, .any, .any, .any, .any, .any, .any, .any, .any, .any, .any, .any, .any]
def c_law19_same_l0 : Cd := (.seq (.reg [⟨(some 14), none, (.bin .lss), [.t 13, .t 12]⟩]) (.seq (.cond (.t 14) .skip (.exit 0)) (.seq (.blk 1 [] (.seq (.reg [⟨(some 15), none, .mv, [.t 13]⟩, ⟨(some 5), none, .mv, [.t 15]⟩]) (.seq (.reg [⟨(some 16), none, .mv, [.t 0]⟩, ⟨(some 17), none, .mv, [.t 5]⟩, ⟨(some 18), none, (.ixS 2), [.t 16, .t 17]⟩, ⟨(some 19), none, (.fa 0), [.t 18]⟩, ⟨(some 20), none, .ld1, [.t 19]⟩, ⟨(some 21), none, .mv, [.t 1]⟩, ⟨(some 22), none, .mv, [.t 5]⟩, ⟨(some 23), none, (.ixS 2), [.t 21, .t 22]⟩, ⟨(some 24), none, (.fa 0), [.t 23]⟩, ⟨(some 25), none, .ld1, [.t 24]⟩, ⟨(some 26), none, (.bin .neq), [.t 20, .t 25]⟩, ⟨(some 27), none, .mv, [.t 26]⟩, ⟨(some 28), (some (27, false)), .mv, [.t 0]⟩, ⟨(some 29), (some (27, false)), .mv, [.t 5]⟩, ⟨(some 30), (some (27, false)), (.ixS 2), [.t 28, .t 29]⟩, ⟨(some 31), (some (27, false)), (.fa 1), [.t 30]⟩, ⟨(some 32), (some (27, false)), .ld1, [.t 31]⟩, ⟨(some 33), (some (27, false)), .b2s, [.t 32]⟩, ⟨(some 34), (some (27, false)), .mv, [.t 1]⟩, ⟨(some 35), (some (27, false)), .mv, [.t 5]⟩, ⟨(some 36), (some (27, false)), (.ixS 2), [.t 34, .t 35]⟩, ⟨(some 37), (some (27, false)), (.fa 1), [.t 36]⟩, ⟨(some 38), (some (27, false)), .ld1, [.t 37]⟩, ⟨(some 39), (some (27, false)), .b2s, [.t 38]⟩, ⟨(some 40), (some (27, false)), (.bin .neq), [.t 33, .t 39]⟩, ⟨(some 41), none, .pick, [.t 27, .c (.bool true), .t 40]⟩]) (.cond (.t 41) (.seq (.reg [⟨(some 4), none, .mv, [.c (.bool false)]⟩]) .ret) .skip)))) (.reg [⟨(some 42), none, (.bin .add), [.t 13, .c (.int .i64 1)]⟩, ⟨(some 13), none, .mv, [.t 42]⟩]))))
def wb_law19_same_0 : List Bool := [true, true, true, true, true, true, true, true, true, true, true, true, true, true, true, true, true, true, true, true, true, true, true, true, true, true, true, true, true, true, true, true, true, true, true, true, true, true, true, true, true, true, true]
abbrev e_law19_same_0 : List AV := [.any, .any, .any, .any, .any, .any, .any, .any, .any, .any, .any, .any, .any, .any, .any, .any, .any, .any, .any, .any, .any, .any, .any, .any, .any, .any, .any, .any, .any, .any, .any, .any, .any, .any, .any, .any, .any, .any, .any, .any, .any, .any, .any]
abbrev i_law19_same_0 : List It := [.lp wl_law19_same_0 c_law19_same_l0, .blk 0 wb_law19_same_0]
def c_law19_same_k0 : Cd := (.seq (.reg [⟨(some 4), none, .mv, [.c (.bool true)]⟩]) .ret)
def c_law19_same : Cd := (.seq (.reg [⟨(some 4), none, .mv, [.c (.bool false)]⟩]) (.seq (.seq (.reg [⟨(some 6), none, .mv, [.t 0]⟩, ⟨(some 7), none, .len, [.t 6]⟩, ⟨(some 8), none, .mv, [.t 1]⟩, ⟨(some 9), none, .len, [.t 8]⟩, ⟨(some 10), none, (.bin .neq), [.t 7, .t 9]⟩]) (.cond (.t 10) (.seq (.reg [⟨(some 4), none, .mv, [.c (.bool false)]⟩]) .ret) .skip)) (.seq (.seq (.reg [⟨(some 11), none, .mv, [.t 0]⟩, ⟨(some 12), none, .len, [.t 11]⟩, ⟨(some 13), none, .mv, [.c (.int .i64 0)]⟩]) (.blk 0 wb_law19_same_0 (.loop wl_law19_same_0 c_law19_same_l0))) c_law19_same_k0)))
theorem comp_law19_same : compF Try.prog (mset [] [] []) (cset [] [] []) (wset [(0, wl_law19_same_0, wb_law19_same_0)] []) Try.f59 = some c_law19_same := by kernel_rfl
theorem ok_law19_same : fnOk Try.prog F_law19_same = true := by kernel_rfl
theorem calls_law19_same {args : List AV} {r : AV} (h : RunsX Try.prog 0 (Gives [.t 4] r) [.c c_law19_same] (args ++ List.replicate (43 - args.length) (.tup [])) [] zeroC) : PCalls Try.prog F_law19_same args r :=
  pcallsF Try.checked.mixed Try.func59 ok_law19_same comp_law19_same rfl (rs := [.t 4]) (by kernel_rfl) h
theorem hcalls_law19_same {args : List AV} {Hin Hout : Heap} {nx nx2 : Ctr} {r : AV} (φ : Nat) (ks : List (Nat × Nat)) (h : RunsX Try.prog φ (GivesH ks [.t 4] r Hout nx2) [.c c_law19_same] (args ++ List.replicate (43 - args.length) (.tup [])) Hin nx) : HCalls Try.prog F_law19_same args Hin nx r Hout nx2 :=
  hcallsF Try.checked.mixed Try.func59 ok_law19_same comp_law19_same rfl (rs := [.t 4]) (by kernel_rfl) φ ks h

/-- (*pedlar/net.Net).Double: parameters [126, 3], results [.t 4], calls net_Net_there, net_Net_Send -/
def c_net_Net_Double : Cd := (.seq (.reg [⟨(some 4), none, .mv, [.c (.int .i64 0)]⟩]) (.seq (.seq (.reg [⟨(some 6), none, .mv, [.t 0]⟩, ⟨(some 7), none, .mv, [.t 1]⟩, ⟨(some 8), none, (.call F_net_Net_there 2), [.t 6, .t 7]⟩, ⟨(some 5), none, .mv, [.t 8]⟩]) (.seq (.reg [⟨(some 9), none, .mv, [.t 5]⟩, ⟨(some 10), none, (.bin .neq), [.t 9, .c (.int .i64 0)]⟩]) (.cond (.t 10) (.seq (.reg [⟨(some 11), none, .mv, [.t 5]⟩, ⟨(some 4), none, .mv, [.t 11]⟩]) .ret) .skip))) (.seq (.reg [⟨(some 12), none, .mv, [.t 0]⟩, ⟨(some 13), none, .mv, [.t 0]⟩, ⟨(some 14), none, .nck, [.t 13]⟩, ⟨(some 15), none, (.fa 0), [.t 14]⟩, ⟨(some 16), none, .ld1, [.t 15]⟩, ⟨(some 17), none, .mv, [.t 1]⟩, ⟨(some 18), none, (.ixS 2), [.t 16, .t 17]⟩, ⟨(some 19), none, (.ldn 2), [.t 18]⟩, ⟨(some 20), none, (.call F_net_Net_Send 2), [.t 12, .t 19]⟩, ⟨(some 4), none, .mv, [.t 20]⟩]) .ret)))
theorem comp_net_Net_Double : compF Try.prog (mset [] [] []) (cset [] [F_net_Net_there, F_net_Net_Send] []) (wset [] []) Try.f60 = some c_net_Net_Double := by kernel_rfl
theorem ok_net_Net_Double : fnOk Try.prog F_net_Net_Double = true := by kernel_rfl
theorem calls_net_Net_Double {args : List AV} {r : AV} (h : RunsX Try.prog 0 (Gives [.t 4] r) [.c c_net_Net_Double] (args ++ List.replicate (21 - args.length) (.tup [])) [] zeroC) : PCalls Try.prog F_net_Net_Double args r :=
  pcallsF Try.checked.mixed Try.func60 ok_net_Net_Double comp_net_Net_Double rfl (rs := [.t 4]) (by kernel_rfl) h
theorem hcalls_net_Net_Double {args : List AV} {Hin Hout : Heap} {nx nx2 : Ctr} {r : AV} (φ : Nat) (ks : List (Nat × Nat)) (h : RunsX Try.prog φ (GivesH ks [.t 4] r Hout nx2) [.c c_net_Net_Double] (args ++ List.replicate (21 - args.length) (.tup [])) Hin nx) : HCalls Try.prog F_net_Net_Double args Hin nx r Hout nx2 :=
  hcallsF Try.checked.mixed Try.func60 ok_net_Net_Double comp_net_Net_Double rfl (rs := [.t 4]) (by kernel_rfl) φ ks h

/-- (*pedlar/net.Net).Spoil: parameters [126, 3, 3, 5], results [.t 8], calls net_Net_there, slices_Clone_net_Parcel, net_clone -/
def c_net_Net_Spoil : Cd := (.seq (.reg [⟨(some 8), none, .mv, [.c (.int .i64 0)]⟩]) (.seq (.seq (.reg [⟨(some 12), none, .mv, [.t 0]⟩, ⟨(some 13), none, .mv, [.t 1]⟩, ⟨(some 14), none, (.call F_net_Net_there 2), [.t 12, .t 13]⟩, ⟨(some 9), none, .mv, [.t 14]⟩]) (.seq (.reg [⟨(some 15), none, .mv, [.t 9]⟩, ⟨(some 16), none, (.bin .neq), [.t 15, .c (.int .i64 0)]⟩]) (.cond (.t 16) (.seq (.reg [⟨(some 17), none, .mv, [.t 9]⟩, ⟨(some 8), none, .mv, [.t 17]⟩]) .ret) .skip))) (.seq (.reg [⟨(some 18), none, .mv, [.t 0]⟩, ⟨(some 19), none, .nck, [.t 18]⟩, ⟨(some 20), none, (.fa 0), [.t 19]⟩, ⟨(some 21), none, .ld1, [.t 20]⟩, ⟨(some 22), none, (.call F_slices_Clone_net_Parcel 2), [.t 21]⟩, ⟨(some 10), none, .mv, [.t 22]⟩]) (.seq (.reg [⟨(some 23), none, .mv, [.t 10]⟩, ⟨(some 24), none, .mv, [.t 1]⟩, ⟨(some 25), none, .mv, [.t 10]⟩, ⟨(some 26), none, .mv, [.t 1]⟩, ⟨(some 27), none, (.ixS 2), [.t 25, .t 26]⟩, ⟨(some 28), none, (.ldn 2), [.t 27]⟩, ⟨(some 29), none, (.call F_net_clone 2), [.t 28]⟩, ⟨(some 30), none, (.ixS 2), [.t 23, .t 24]⟩, ⟨none, none, (.st 2), [.t 30, .t 29]⟩]) (.seq (.seq (.reg [⟨(some 31), none, .mv, [.t 10]⟩, ⟨(some 32), none, .mv, [.t 1]⟩, ⟨(some 33), none, (.ixS 2), [.t 31, .t 32]⟩, ⟨(some 34), none, (.fa 1), [.t 33]⟩, ⟨(some 35), none, .ld1, [.t 34]⟩, ⟨(some 36), none, .len, [.t 35]⟩, ⟨(some 11), none, .mv, [.t 36]⟩]) (.seq (.reg [⟨(some 37), none, .mv, [.t 11]⟩, ⟨(some 38), none, (.bin .gtr), [.t 37, .c (.int .i64 0)]⟩]) (.cond (.t 38) (.reg [⟨(some 39), none, .mv, [.t 10]⟩, ⟨(some 40), none, .mv, [.t 1]⟩, ⟨(some 41), none, (.ixS 2), [.t 39, .t 40]⟩, ⟨(some 42), none, (.fa 1), [.t 41]⟩, ⟨(some 43), none, .ld1, [.t 42]⟩, ⟨(some 44), none, .mv, [.t 2]⟩, ⟨(some 45), none, .mv, [.t 11]⟩, ⟨(some 46), none, (.bin .rem), [.t 44, .t 45]⟩, ⟨(some 47), none, .mv, [.t 11]⟩, ⟨(some 48), none, (.bin .add), [.t 46, .t 47]⟩, ⟨(some 49), none, .mv, [.t 11]⟩, ⟨(some 50), none, (.bin .rem), [.t 48, .t 49]⟩, ⟨(some 51), none, (.ixS 1), [.t 43, .t 50]⟩, ⟨(some 52), none, .ld1, [.t 51]⟩, ⟨(some 53), none, .mv, [.t 3]⟩, ⟨(some 54), none, (.bin .xor), [.t 52, .t 53]⟩, ⟨(some 55), none, (.ixS 1), [.t 43, .t 50]⟩, ⟨none, none, (.st 1), [.t 55, .t 54]⟩]) .skip))) (.seq (.reg [⟨(some 56), none, .mv, [.t 0]⟩, ⟨(some 57), none, .mv, [.t 10]⟩, ⟨(some 58), none, .nck, [.t 56]⟩, ⟨(some 59), none, (.fa 0), [.t 58]⟩, ⟨none, none, (.stf 1), [.t 59, .t 57]⟩]) (.seq (.reg [⟨(some 8), none, .mv, [.c (.int .i64 0)]⟩]) .ret)))))))
theorem comp_net_Net_Spoil : compF Try.prog (mset5 [] [] [] [] [] [59]) (cset [] [F_slices_Clone_net_Parcel, F_net_clone, F_net_Net_there] []) (wset [] []) Try.f61 = some c_net_Net_Spoil := by kernel_rfl
theorem ok_net_Net_Spoil : fnOk Try.prog F_net_Net_Spoil = true := by kernel_rfl
theorem calls_net_Net_Spoil {args : List AV} {r : AV} (h : RunsX Try.prog 0 (Gives [.t 8] r) [.c c_net_Net_Spoil] (args ++ List.replicate (60 - args.length) (.tup [])) [] zeroC) : PCalls Try.prog F_net_Net_Spoil args r :=
  pcallsF Try.checked.mixed Try.func61 ok_net_Net_Spoil comp_net_Net_Spoil rfl (rs := [.t 8]) (by kernel_rfl) h
theorem hcalls_net_Net_Spoil {args : List AV} {Hin Hout : Heap} {nx nx2 : Ctr} {r : AV} (φ : Nat) (ks : List (Nat × Nat)) (h : RunsX Try.prog φ (GivesH ks [.t 8] r Hout nx2) [.c c_net_Net_Spoil] (args ++ List.replicate (60 - args.length) (.tup [])) Hin nx) : HCalls Try.prog F_net_Net_Spoil args Hin nx r Hout nx2 :=
  hcallsF Try.checked.mixed Try.func61 ok_net_Net_Spoil comp_net_Net_Spoil rfl (rs := [.t 8]) (by kernel_rfl) φ ks h

/-- (*pedlar/net.Net).All: parameters [126], results [.t 2], calls net_clone -/
def wl_net_Net_All_0 : Mk := ⟨[true, true, true, false, true, true, true, true, true, true, true, false, false, false, true, true, true, true, true, true, true, true, true, true], [5]⟩
abbrev s_net_Net_All_0 (t3 t11 t12 t13 : AV) : List AV := [.any, .any, .any, t3, .any, .any, .any, .any, .any, .any, .any, t11, t12, t13, .any, .any, .any, .any, .any, .any, .any, .any, .any, .any]
def c_net_Net_All_l0 : Cd := (.seq (.reg [⟨(some 14), none, (.bin .lss), [.t 13, .t 12]⟩]) (.seq (.cond (.t 14) .skip (.exit 0)) (.seq (.blk 1 [] (.seq (.reg [⟨(some 15), none, (.ixS 2), [.t 11, .t 13]⟩, ⟨(some 16), none, (.ldn 2), [.t 15]⟩, ⟨(some 5), none, (.new [(.int .i64 0), .nils] 5), []⟩, ⟨none, none, (.st 2), [.t 5, .t 16]⟩]) (.reg [⟨(some 17), none, .mv, [.t 3]⟩, ⟨(some 18), none, (.ldn 2), [.t 5]⟩, ⟨(some 19), none, (.call F_net_clone 0), [.t 18]⟩, ⟨(some 20), none, (.lit 2 1), [.t 19]⟩, ⟨(some 21), none, (.app 2 32 21), [.t 17, .t 20]⟩, ⟨(some 3), none, .mv, [.t 21]⟩]))) (.reg [⟨(some 22), none, (.bin .add), [.t 13, .c (.int .i64 1)]⟩, ⟨(some 13), none, .mv, [.t 22]⟩]))))
def wb_net_Net_All_0 : List Bool := [true, true, true, false, true, true, true, true, true, true, true, true, true, true, true, true, true, true, true, true, true, true, true, true]
abbrev e_net_Net_All_0 (t3 : AV) : List AV := [.any, .any, .any, t3, .any, .any, .any, .any, .any, .any, .any, .any, .any, .any, .any, .any, .any, .any, .any, .any, .any, .any, .any, .any]
abbrev i_net_Net_All_0 : List It := [.lp wl_net_Net_All_0 c_net_Net_All_l0, .blk 0 wb_net_Net_All_0]
def c_net_Net_All_k0 : Cd := (.seq (.reg [⟨(some 23), none, .mv, [.t 3]⟩, ⟨(some 2), none, .mv, [.t 23]⟩]) .ret)
def c_net_Net_All : Cd := (.seq (.reg [⟨(some 2), none, .mv, [.c .nils]⟩]) (.seq (.seq (.reg [⟨(some 6), none, .mv, [.t 0]⟩, ⟨(some 7), none, (.eqp false), [.t 6, .c .nilp]⟩]) (.cond (.t 7) (.seq (.reg [⟨(some 2), none, .mv, [.c .nils]⟩]) .ret) .skip)) (.seq (.reg [⟨(some 3), none, .mv, [.c .nils]⟩]) (.seq (.seq (.reg [⟨(some 8), none, .mv, [.t 0]⟩, ⟨(some 9), none, .nck, [.t 8]⟩, ⟨(some 10), none, (.fa 0), [.t 9]⟩, ⟨(some 11), none, .ld1, [.t 10]⟩, ⟨(some 12), none, .len, [.t 11]⟩, ⟨(some 13), none, .mv, [.c (.int .i64 0)]⟩]) (.blk 0 wb_net_Net_All_0 (.loop wl_net_Net_All_0 c_net_Net_All_l0))) c_net_Net_All_k0))))
theorem comp_net_Net_All : compF Try.prog (mset [] [] []) (cset [] [] []) (wset [(0, wl_net_Net_All_0, wb_net_Net_All_0)] []) Try.f62 = some c_net_Net_All := by kernel_rfl
theorem ok_net_Net_All : fnOk Try.prog F_net_Net_All = true := by kernel_rfl
theorem calls_net_Net_All {args : List AV} {r : AV} (h : RunsX Try.prog 0 (Gives [.t 2] r) [.c c_net_Net_All] (args ++ List.replicate (24 - args.length) (.tup [])) [] zeroC) : PCalls Try.prog F_net_Net_All args r :=
  pcallsF Try.checked.mixed Try.func62 ok_net_Net_All comp_net_Net_All rfl (rs := [.t 2]) (by kernel_rfl) h
theorem hcalls_net_Net_All {args : List AV} {Hin Hout : Heap} {nx nx2 : Ctr} {r : AV} (φ : Nat) (ks : List (Nat × Nat)) (h : RunsX Try.prog φ (GivesH ks [.t 2] r Hout nx2) [.c c_net_Net_All] (args ++ List.replicate (24 - args.length) (.tup [])) Hin nx) : HCalls Try.prog F_net_Net_All args Hin nx r Hout nx2 :=
  hcallsF Try.checked.mixed Try.func62 ok_net_Net_All comp_net_Net_All rfl (rs := [.t 2]) (by kernel_rfl) φ ks h

/-- (*pedlar/net.Net).Len: parameters [126], results [.t 2], calls  -/
def c_net_Net_Len : Cd := (.seq (.reg [⟨(some 2), none, .mv, [.c (.int .i64 0)]⟩]) (.seq (.seq (.reg [⟨(some 3), none, .mv, [.t 0]⟩, ⟨(some 4), none, (.eqp false), [.t 3, .c .nilp]⟩]) (.cond (.t 4) (.seq (.reg [⟨(some 2), none, .mv, [.c (.int .i64 0)]⟩]) .ret) .skip)) (.seq (.reg [⟨(some 5), none, .mv, [.t 0]⟩, ⟨(some 6), none, .nck, [.t 5]⟩, ⟨(some 7), none, (.fa 0), [.t 6]⟩, ⟨(some 8), none, .ld1, [.t 7]⟩, ⟨(some 9), none, .len, [.t 8]⟩, ⟨(some 2), none, .mv, [.t 9]⟩]) .ret)))
theorem comp_net_Net_Len : compF Try.prog (mset [] [] []) (cset [] [] []) (wset [] []) Try.f63 = some c_net_Net_Len := by kernel_rfl
theorem ok_net_Net_Len : fnOk Try.prog F_net_Net_Len = true := by kernel_rfl
theorem calls_net_Net_Len {args : List AV} {r : AV} (h : RunsX Try.prog 0 (Gives [.t 2] r) [.c c_net_Net_Len] (args ++ List.replicate (10 - args.length) (.tup [])) [] zeroC) : PCalls Try.prog F_net_Net_Len args r :=
  pcallsF Try.checked.mixed Try.func63 ok_net_Net_Len comp_net_Net_Len rfl (rs := [.t 2]) (by kernel_rfl) h
theorem hcalls_net_Net_Len {args : List AV} {Hin Hout : Heap} {nx nx2 : Ctr} {r : AV} (φ : Nat) (ks : List (Nat × Nat)) (h : RunsX Try.prog φ (GivesH ks [.t 2] r Hout nx2) [.c c_net_Net_Len] (args ++ List.replicate (10 - args.length) (.tup [])) Hin nx) : HCalls Try.prog F_net_Net_Len args Hin nx r Hout nx2 :=
  hcallsF Try.checked.mixed Try.func63 ok_net_Net_Len comp_net_Net_Len rfl (rs := [.t 2]) (by kernel_rfl) φ ks h

/-- pedlar/net.clone: parameters [76], results [.cn 2 2], calls bytes_Clone -/
def c_net_clone : Cd := (.seq (.reg [⟨(some 1), none, .box, [.t 0]⟩, ⟨(some 2), none, (.new [(.int .i64 0), .nils] 2), []⟩]) (.seq (.reg [⟨(some 3), none, (.fa 0), [.t 1]⟩, ⟨(some 4), none, .ld1r, [.t 3]⟩, ⟨(some 5), none, (.fa 1), [.t 1]⟩, ⟨(some 6), none, .ld1r, [.t 5]⟩, ⟨(some 7), none, (.call F_bytes_Clone 2), [.t 6]⟩, ⟨(some 8), none, (.bld [(.int .i64 0), .nils] [(0, 1), (1, 1)]), [.t 4, .t 7]⟩, ⟨none, none, (.stk 2 2), [.t 2, .t 8]⟩]) .ret))
theorem comp_net_clone : compF Try.prog (mset [] [4, 6] [2]) (cset [] [F_bytes_Clone] []) (wset [] []) Try.f102 = some c_net_clone := by kernel_rfl
theorem ok_net_clone : fnOk Try.prog F_net_clone = true := by kernel_rfl
theorem calls_net_clone {args : List AV} {r : AV} (h : RunsX Try.prog 0 (Gives [.cn 2 2] r) [.c c_net_clone] (args ++ List.replicate (9 - args.length) (.tup [])) [] zeroC) : PCalls Try.prog F_net_clone args r :=
  pcallsF Try.checked.mixed Try.func102 ok_net_clone comp_net_clone rfl (rs := [.cn 2 2]) (by kernel_rfl) h
theorem hcalls_net_clone {args : List AV} {Hin Hout : Heap} {nx nx2 : Ctr} {r : AV} (φ : Nat) (ks : List (Nat × Nat)) (h : RunsX Try.prog φ (GivesH ks [.cn 2 2] r Hout nx2) [.c c_net_clone] (args ++ List.replicate (9 - args.length) (.tup [])) Hin nx) : HCalls Try.prog F_net_clone args Hin nx r Hout nx2 :=
  hcallsF Try.checked.mixed Try.func102 ok_net_clone comp_net_clone rfl (rs := [.cn 2 2]) (by kernel_rfl) φ ks h

/-- (*pedlar/net.Net).there: parameters [126, 3], results [.t 4], calls  -/
def c_net_Net_there : Cd := (.seq (.reg [⟨(some 4), none, .mv, [.c (.int .i64 0)]⟩]) (.seq (.blk 0 [] (.seq (.reg [⟨(some 6), none, .mv, [.t 0]⟩, ⟨(some 7), none, (.eqp false), [.t 6, .c .nilp]⟩, ⟨(some 5), none, .mv, [.t 7]⟩]) (.cond (.t 5) (.seq (.reg [⟨(some 4), none, .mv, [.c (.int .i64 1)]⟩]) .ret) (.seq (.reg [⟨(some 9), none, .mv, [.t 1]⟩, ⟨(some 10), none, (.bin .lss), [.t 9, .c (.int .i64 0)]⟩, ⟨(some 11), none, .mv, [.t 10]⟩, ⟨(some 12), (some (11, false)), .mv, [.t 1]⟩, ⟨(some 13), (some (11, false)), .mv, [.t 0]⟩, ⟨(some 14), (some (11, false)), .nck, [.t 13]⟩, ⟨(some 15), (some (11, false)), (.fa 0), [.t 14]⟩, ⟨(some 16), (some (11, false)), .ld1, [.t 15]⟩, ⟨(some 17), (some (11, false)), .len, [.t 16]⟩, ⟨(some 18), (some (11, false)), (.bin .geq), [.t 12, .t 17]⟩, ⟨(some 19), none, .pick, [.t 11, .c (.bool true), .t 18]⟩, ⟨(some 8), none, .mv, [.t 19]⟩]) (.cond (.t 8) (.seq (.reg [⟨(some 4), none, .mv, [.c (.int .i64 7)]⟩]) .ret) .skip))))) (.seq (.reg [⟨(some 4), none, .mv, [.c (.int .i64 0)]⟩]) .ret)))
theorem comp_net_Net_there : compF Try.prog (mset [] [] []) (cset [] [] []) (wset [] []) Try.f103 = some c_net_Net_there := by kernel_rfl
theorem ok_net_Net_there : fnOk Try.prog F_net_Net_there = true := by kernel_rfl
theorem calls_net_Net_there {args : List AV} {r : AV} (h : RunsX Try.prog 0 (Gives [.t 4] r) [.c c_net_Net_there] (args ++ List.replicate (20 - args.length) (.tup [])) [] zeroC) : PCalls Try.prog F_net_Net_there args r :=
  pcallsF Try.checked.mixed Try.func103 ok_net_Net_there comp_net_Net_there rfl (rs := [.t 4]) (by kernel_rfl) h
theorem hcalls_net_Net_there {args : List AV} {Hin Hout : Heap} {nx nx2 : Ctr} {r : AV} (φ : Nat) (ks : List (Nat × Nat)) (h : RunsX Try.prog φ (GivesH ks [.t 4] r Hout nx2) [.c c_net_Net_there] (args ++ List.replicate (20 - args.length) (.tup [])) Hin nx) : HCalls Try.prog F_net_Net_there args Hin nx r Hout nx2 :=
  hcallsF Try.checked.mixed Try.func103 ok_net_Net_there comp_net_Net_there rfl (rs := [.t 4]) (by kernel_rfl) φ ks h

/-- pedlar/pedlarlaw19.awake: parameters [], results [.t 0], calls net_Net_Send, net_Net_Len -/
def c_law19_awake : Cd := (.seq (.reg [⟨(some 0), none, .mv, [.c (.bool false)]⟩]) (.seq (.reg [⟨(some 1), none, (.new [.nils] 1), []⟩]) (.seq (.reg [⟨(some 2), none, (.bld [(.int .i64 0), .nils] [(0, 1)]), [.c (.int .i64 1)]⟩, ⟨(some 3), none, (.call F_net_Net_Send 2), [.t 1, .t 2]⟩, ⟨(some 4), none, (.bin .eql), [.t 3, .c (.int .i64 0)]⟩, ⟨(some 5), none, .mv, [.t 4]⟩, ⟨(some 6), (some (5, true)), (.call F_net_Net_Len 2), [.t 1]⟩, ⟨(some 7), (some (5, true)), (.bin .eql), [.t 6, .c (.int .i64 1)]⟩, ⟨(some 8), none, .pick, [.t 5, .t 7, .c (.bool false)]⟩, ⟨(some 0), none, .mv, [.t 8]⟩]) .ret)))
theorem comp_law19_awake : compF Try.prog (mset [] [] []) (cset [] [F_net_Net_Send, F_net_Net_Len] []) (wset [] []) Try.f56 = some c_law19_awake := by kernel_rfl
theorem ok_law19_awake : fnOk Try.prog F_law19_awake = true := by kernel_rfl
theorem calls_law19_awake {args : List AV} {r : AV} (h : RunsX Try.prog 0 (Gives [.t 0] r) [.c c_law19_awake] (args ++ List.replicate (9 - args.length) (.tup [])) [] zeroC) : PCalls Try.prog F_law19_awake args r :=
  pcallsF Try.checked.mixed Try.func56 ok_law19_awake comp_law19_awake rfl (rs := [.t 0]) (by kernel_rfl) h
theorem hcalls_law19_awake {args : List AV} {Hin Hout : Heap} {nx nx2 : Ctr} {r : AV} (φ : Nat) (ks : List (Nat × Nat)) (h : RunsX Try.prog φ (GivesH ks [.t 0] r Hout nx2) [.c c_law19_awake] (args ++ List.replicate (9 - args.length) (.tup [])) Hin nx) : HCalls Try.prog F_law19_awake args Hin nx r Hout nx2 :=
  hcallsF Try.checked.mixed Try.func56 ok_law19_awake comp_law19_awake rfl (rs := [.t 0]) (by kernel_rfl) φ ks h

/-- pedlar/pedlarlaw19.NetPlays: parameters [71], results [.t 2], calls law19_awake, net_Net_Send, net_Net_Take, law19_same, net_Net_Double, net_Net_Spoil, net_Net_All, net_Net_Len -/
def wl_law19_NetPlays_0 : Mk := ⟨[false, true, true, false, false, true, true, true, true, true, true, true, true, true, true, true, true, true, true, true, true, true, true, true, false, false, true, true, true, true, true, true, true, true, true, true, true, true, true, true, true, true, true, true, true, true, true, true, true, true, true, true, true, true, true, true, true, true, true, true, true, true, true, true, true, true, true, true, true, true, true, true, true, true, true, true, true, true, true, true, true, true, true, true, true, true, true, true, true, true, true, true, true, true, true, true, true, true, true, true, true, true, true, true, true, true, true, true, true, true, true, true, true, true, true, true, true, true, true, true, true, true, true, true, true, true, true, true, true, true, true, true, true, true, true, true, true, true, true, true, true, true, true, true, true, true, true, true, true, true, true, true, true, true, true, true, true, true, true, true, true, true, true, true, true, true, true, true, true, true, true, true, true, true, true, true, true, true, true, true, true, true, true, true, true, true, true, true, true, true, true, true, true, true, true, true, true, true, true, true, true, true, true, true, true, true, true, true, true, true, true, true, true, true, true, true], [6, 10]⟩
abbrev s_law19_NetPlays_0 (t0 t3 t4 t24 t25 : AV) : List AV := [t0, .any, .any, t3, t4, .any, .any, .any, .any, .any, .any, .any, .any, .any, .any, .any, .any, .any, .any, .any, .any, .any, .any, .any, t24, t25, .any, .any, .any, .any, .any, .any, .any, .any, .any, .any, .any, .any, .any, .any, .any, .any, .any, .any, .any, .any, .any, .any, .any, .any, .any, .any, .any, .any, .any, .any, .any, .any, .any, .any, .any, .any, .any, .any, .any, .any, .any, .any, .any, .any, .any, .any, .any, .any, .any, .any, .any, .any, .any, .any, .any, .any, .any, .any, .any, .any, .any, .any, .any, .any, .any, .any, .any, .any, .any, .any, .any, .any, .any, .any, .any, .any, .any, .any, .any, .any, .any, .any, .any, .any, .any, .any, .any, .any, .any, .any, .any, .any, .any, .any, .any, .any, .any, .any, .any, .any, .any, .any, .any, .any, .any, .any, .any, .any, .any, .any, .any, .any, .any, .any, .any, .any, .any, .any, .any, .any, .any, .any, .any, .any, .any, .any, .any, .any, .any, .any, .any, .any, .any, .any, .any, .any, .any, .any, .any, .any, .any, .any, .any, .any, .any, .any, .any, .any, .any, .any, .any, .any, .any, .any, .any, .any, .any, .any, .any, .any, .any, .any, .any, .any, .any, .any, .any, .any, .any, .any, .any, .any, .any, .any, .any, .any, .any, .any, .any, .any, .any, .any, .any, .any, .any, .any, .any, .any, .any, .any]
def c_law19_NetPlays_l0 : Cd := (.seq (.reg [⟨(some 26), none, (.bin .lss), [.t 25, .t 24]⟩]) (.seq (.cond (.t 26) .skip (.exit 0)) (.seq (.blk 1 [] (.seq (.reg [⟨(some 27), none, .mv, [.t 25]⟩, ⟨(some 5), none, .mv, [.t 27]⟩]) (.seq (.reg [⟨(some 28), none, .mv, [.t 0]⟩, ⟨(some 29), none, .mv, [.t 5]⟩, ⟨(some 30), none, (.ixS 6), [.t 28, .t 29]⟩, ⟨(some 31), none, (.ldn 6), [.t 30]⟩, ⟨(some 6), none, (.new [(.int .u8 0), (.int .i64 0), (.int .i64 0), (.int .u8 0), (.int .i64 0), .nils] 6), []⟩, ⟨none, none, (.st 6), [.t 6, .t 31]⟩]) (.seq (.seq (.reg [⟨(some 32), none, (.fa 4), [.t 6]⟩, ⟨(some 33), none, (.fa 1), [.t 32]⟩, ⟨(some 34), none, .ld1, [.t 33]⟩, ⟨(some 35), none, .len, [.t 34]⟩, ⟨(some 36), none, (.bin .gtr), [.t 35, .c (.int .i64 500)]⟩]) (.cond (.t 36) (.seq (.reg [⟨(some 2), none, .mv, [.c (.bool true)]⟩]) .ret) .skip)) (.seq (.reg [⟨(some 37), none, (.fa 1), [.t 6]⟩, ⟨(some 38), none, .ld1, [.t 37]⟩, ⟨(some 39), none, (.bin .geq), [.t 38, .c (.int .i64 0)]⟩, ⟨(some 40), none, .mv, [.t 39]⟩, ⟨(some 41), (some (40, true)), (.fa 1), [.t 6]⟩, ⟨(some 42), (some (40, true)), .ld1, [.t 41]⟩, ⟨(some 43), (some (40, true)), .mv, [.t 4]⟩, ⟨(some 44), (some (40, true)), .len, [.t 43]⟩, ⟨(some 45), (some (40, true)), (.bin .lss), [.t 42, .t 44]⟩, ⟨(some 46), none, .pick, [.t 40, .t 45, .c (.bool false)]⟩, ⟨(some 7), none, .mv, [.t 46]⟩]) (.seq (.reg [⟨(some 8), none, .mv, [.c (.int .i64 0)]⟩, ⟨(some 9), none, .mv, [.c (.int .i64 0)]⟩]) (.seq (.seq (.reg [⟨(some 47), none, (.fa 0), [.t 6]⟩, ⟨(some 48), none, .ld1, [.t 47]⟩, ⟨(some 49), none, (.bin .rem), [.t 48, .c (.int .u8 4)]⟩, ⟨(some 50), none, (.bin .gtr), [.t 49, .c (.int .u8 0)]⟩, ⟨(some 51), none, .mv, [.t 50]⟩, ⟨(some 52), (some (51, true)), .mv, [.t 7]⟩, ⟨(some 53), (some (51, true)), .not, [.t 52]⟩, ⟨(some 54), none, .pick, [.t 51, .t 53, .c (.bool false)]⟩]) (.cond (.t 54) (.reg [⟨(some 9), none, .mv, [.c (.int .i64 7)]⟩]) (.seq (.reg [⟨(some 55), none, (.fa 0), [.t 6]⟩, ⟨(some 56), none, .ld1, [.t 55]⟩, ⟨(some 57), none, (.bin .rem), [.t 56, .c (.int .u8 4)]⟩, ⟨(some 58), none, (.bin .eql), [.t 57, .c (.int .u8 0)]⟩, ⟨(some 59), none, .mv, [.t 58]⟩, ⟨(some 60), (some (59, false)), (.fa 0), [.t 6]⟩, ⟨(some 61), (some (59, false)), .ld1, [.t 60]⟩, ⟨(some 62), (some (59, false)), (.bin .rem), [.t 61, .c (.int .u8 4)]⟩, ⟨(some 63), (some (59, false)), (.bin .eql), [.t 62, .c (.int .u8 2)]⟩, ⟨(some 64), none, .pick, [.t 59, .c (.bool true), .t 63]⟩, ⟨(some 65), none, .mv, [.t 64]⟩, ⟨(some 66), (some (65, true)), .mv, [.t 4]⟩, ⟨(some 67), (some (65, true)), .len, [.t 66]⟩, ⟨(some 68), (some (65, true)), (.bin .gtr), [.t 67, .c (.int .i64 39)]⟩, ⟨(some 69), none, .pick, [.t 65, .t 68, .c (.bool false)]⟩]) (.cond (.t 69) (.reg [⟨(some 9), none, .mv, [.c (.int .i64 4)]⟩]) .skip)))) (.seq (.seq (.reg [⟨(some 70), none, (.fa 0), [.t 6]⟩, ⟨(some 71), none, .ld1, [.t 70]⟩, ⟨(some 72), none, (.bin .rem), [.t 71, .c (.int .u8 4)]⟩]) (.blk 2 [] (.seq (.reg [⟨(some 136), none, (.bin .eql), [.t 72, .c (.int .u8 0)]⟩, ⟨(some 135), none, .mv, [.t 136]⟩]) (.cond (.t 135) (.seq (.reg [⟨(some 137), none, (.fa 4), [.t 6]⟩, ⟨(some 138), none, (.ldn 2), [.t 137]⟩, ⟨(some 139), none, (.call F_net_Net_Send 2), [.t 3, .t 138]⟩, ⟨(some 8), none, .mv, [.t 139]⟩]) (.seq (.reg [⟨(some 140), none, .mv, [.t 9]⟩, ⟨(some 141), none, (.bin .eql), [.t 140, .c (.int .i64 0)]⟩]) (.cond (.t 141) (.reg [⟨(some 142), none, (.litr 2 0), []⟩, ⟨(some 143), none, .mv, [.t 4]⟩, ⟨(some 144), none, (.apn 2 32 144), [.t 142, .t 143]⟩, ⟨(some 145), none, (.fa 4), [.t 6]⟩, ⟨(some 146), none, (.ldnk 2 6), [.t 145]⟩, ⟨(some 147), none, (.litr 2 1), [.t 146]⟩, ⟨(some 148), none, (.app 2 32 148), [.t 144, .t 147]⟩, ⟨(some 4), none, .mv, [.t 148]⟩]) .skip))) (.seq (.reg [⟨(some 150), none, (.bin .eql), [.t 72, .c (.int .u8 1)]⟩, ⟨(some 149), none, .mv, [.t 150]⟩]) (.cond (.t 149) (.seq (.reg [⟨(some 152), none, (.fa 1), [.t 6]⟩, ⟨(some 153), none, .ld1, [.t 152]⟩, ⟨(some 154), none, (.call F_net_Net_Take 2), [.t 3, .t 153]⟩, ⟨(some 151), none, .mv, [.t 154]⟩, ⟨(some 155), none, (.ext 0), [.t 151]⟩, ⟨(some 156), none, (.ext 1), [.t 151]⟩, ⟨(some 10), none, (.new [(.int .i64 0), .nils] 10), []⟩, ⟨none, none, (.st 2), [.t 10, .t 155]⟩, ⟨(some 11), none, .mv, [.t 156]⟩]) (.seq (.reg [⟨(some 157), none, .mv, [.t 11]⟩, ⟨(some 8), none, .mv, [.t 157]⟩]) (.seq (.reg [⟨(some 158), none, .mv, [.t 9]⟩, ⟨(some 159), none, (.bin .eql), [.t 158, .c (.int .i64 0)]⟩]) (.cond (.t 159) (.seq (.seq (.reg [⟨(some 160), none, (.ldn 2), [.t 10]⟩, ⟨(some 161), none, (.lit 2 1), [.t 160]⟩, ⟨(some 162), none, .mv, [.t 4]⟩, ⟨(some 163), none, (.fa 1), [.t 6]⟩, ⟨(some 164), none, .ld1, [.t 163]⟩, ⟨(some 165), none, (.fa 1), [.t 6]⟩, ⟨(some 166), none, .ld1, [.t 165]⟩, ⟨(some 167), none, (.bin .add), [.t 166, .c (.int .i64 1)]⟩, ⟨(some 168), none, (.slc 2 true true false), [.t 162, .t 164, .t 167]⟩, ⟨(some 169), none, (.call F_law19_same 3), [.t 161, .t 168]⟩, ⟨(some 170), none, .not, [.t 169]⟩]) (.cond (.t 170) (.seq (.reg [⟨(some 2), none, .mv, [.c (.bool false)]⟩]) .ret) .skip)) (.reg [⟨(some 171), none, (.litr 2 0), []⟩, ⟨(some 172), none, .mv, [.t 4]⟩, ⟨(some 173), none, (.fa 1), [.t 6]⟩, ⟨(some 174), none, (.ldk 6), [.t 173]⟩, ⟨(some 175), none, (.slc 2 false true false), [.t 172, .t 174]⟩, ⟨(some 176), none, (.apn 2 32 176), [.t 171, .t 175]⟩, ⟨(some 177), none, .mv, [.t 4]⟩, ⟨(some 178), none, (.fa 1), [.t 6]⟩, ⟨(some 179), none, (.ldk 6), [.t 178]⟩, ⟨(some 180), none, (.bin .add), [.t 179, .c (.int .i64 1)]⟩, ⟨(some 181), none, (.slc 2 true false false), [.t 177, .t 180]⟩, ⟨(some 182), none, (.app 2 32 182), [.t 176, .t 181]⟩, ⟨(some 4), none, .mv, [.t 182]⟩])) .skip)))) (.seq (.reg [⟨(some 184), none, (.bin .eql), [.t 72, .c (.int .u8 2)]⟩, ⟨(some 183), none, .mv, [.t 184]⟩]) (.cond (.t 183) (.seq (.reg [⟨(some 185), none, (.fa 1), [.t 6]⟩, ⟨(some 186), none, .ld1, [.t 185]⟩, ⟨(some 187), none, (.call F_net_Net_Double 2), [.t 3, .t 186]⟩, ⟨(some 8), none, .mv, [.t 187]⟩]) (.seq (.reg [⟨(some 188), none, .mv, [.t 9]⟩, ⟨(some 189), none, (.bin .eql), [.t 188, .c (.int .i64 0)]⟩]) (.cond (.t 189) (.reg [⟨(some 190), none, (.litr 2 0), []⟩, ⟨(some 191), none, .mv, [.t 4]⟩, ⟨(some 192), none, (.apn 2 32 192), [.t 190, .t 191]⟩, ⟨(some 193), none, .mv, [.t 4]⟩, ⟨(some 194), none, (.fa 1), [.t 6]⟩, ⟨(some 195), none, (.ldk 6), [.t 194]⟩, ⟨(some 196), none, (.ixS 2), [.t 193, .t 195]⟩, ⟨(some 197), none, (.ldnr 2), [.t 196]⟩, ⟨(some 198), none, (.litr 2 1), [.t 197]⟩, ⟨(some 199), none, (.app 2 32 199), [.t 192, .t 198]⟩, ⟨(some 4), none, .mv, [.t 199]⟩]) .skip))) (.seq (.reg [⟨(some 73), none, (.fa 1), [.t 6]⟩, ⟨(some 74), none, .ld1, [.t 73]⟩, ⟨(some 75), none, (.fa 2), [.t 6]⟩, ⟨(some 76), none, .ld1, [.t 75]⟩, ⟨(some 77), none, (.fa 3), [.t 6]⟩, ⟨(some 78), none, .ld1, [.t 77]⟩, ⟨(some 79), none, (.call F_net_Net_Spoil 2), [.t 3, .t 74, .t 76, .t 78]⟩, ⟨(some 8), none, .mv, [.t 79]⟩]) (.seq (.reg [⟨(some 80), none, .mv, [.t 9]⟩, ⟨(some 81), none, (.bin .eql), [.t 80, .c (.int .i64 0)]⟩, ⟨(some 82), none, .mv, [.t 81]⟩, ⟨(some 83), (some (82, true)), .mv, [.t 4]⟩, ⟨(some 84), (some (82, true)), (.fa 1), [.t 6]⟩, ⟨(some 85), (some (82, true)), .ld1, [.t 84]⟩, ⟨(some 86), (some (82, true)), (.ixS 2), [.t 83, .t 85]⟩, ⟨(some 87), (some (82, true)), (.fa 1), [.t 86]⟩, ⟨(some 88), (some (82, true)), .ld1, [.t 87]⟩, ⟨(some 89), (some (82, true)), .len, [.t 88]⟩, ⟨(some 90), (some (82, true)), (.bin .gtr), [.t 89, .c (.int .i64 0)]⟩, ⟨(some 91), none, .pick, [.t 82, .t 90, .c (.bool false)]⟩]) (.cond (.t 91) (.seq (.reg [⟨(some 92), none, .mv, [.t 4]⟩, ⟨(some 93), none, (.fa 1), [.t 6]⟩, ⟨(some 94), none, .ld1, [.t 93]⟩, ⟨(some 95), none, (.ixS 2), [.t 92, .t 94]⟩, ⟨(some 96), none, (.fa 1), [.t 95]⟩, ⟨(some 97), none, .ld1, [.t 96]⟩, ⟨(some 98), none, .len, [.t 97]⟩, ⟨(some 12), none, .mv, [.t 98]⟩]) (.seq (.reg [⟨(some 99), none, (.fa 2), [.t 6]⟩, ⟨(some 100), none, .ld1, [.t 99]⟩, ⟨(some 101), none, .mv, [.t 12]⟩, ⟨(some 102), none, (.bin .rem), [.t 100, .t 101]⟩, ⟨(some 13), none, .mv, [.t 102]⟩]) (.seq (.seq (.reg [⟨(some 103), none, .mv, [.t 13]⟩, ⟨(some 104), none, (.bin .lss), [.t 103, .c (.int .i64 0)]⟩]) (.cond (.t 104) (.reg [⟨(some 105), none, .mv, [.t 13]⟩, ⟨(some 106), none, .mv, [.t 12]⟩, ⟨(some 107), none, (.bin .add), [.t 105, .t 106]⟩, ⟨(some 13), none, .mv, [.t 107]⟩]) .skip)) (.seq (.reg [⟨(some 108), none, (.lit 1 0), []⟩, ⟨(some 109), none, .mv, [.t 4]⟩, ⟨(some 110), none, (.fa 1), [.t 6]⟩, ⟨(some 111), none, .ld1, [.t 110]⟩, ⟨(some 112), none, (.ixS 2), [.t 109, .t 111]⟩, ⟨(some 113), none, (.fa 1), [.t 112]⟩, ⟨(some 114), none, .ld1, [.t 113]⟩, ⟨(some 115), none, (.app 1 1 115), [.t 108, .t 114]⟩, ⟨(some 14), none, .mv, [.t 115]⟩]) (.seq (.reg [⟨(some 116), none, .mv, [.t 14]⟩, ⟨(some 117), none, .mv, [.t 13]⟩, ⟨(some 118), none, .mv, [.t 14]⟩, ⟨(some 119), none, .mv, [.t 13]⟩, ⟨(some 120), none, (.ixS 1), [.t 118, .t 119]⟩, ⟨(some 121), none, .ld1, [.t 120]⟩, ⟨(some 122), none, (.fa 3), [.t 6]⟩, ⟨(some 123), none, .ld1, [.t 122]⟩, ⟨(some 124), none, (.bin .xor), [.t 121, .t 123]⟩, ⟨(some 125), none, (.ixS 1), [.t 116, .t 117]⟩, ⟨none, none, (.st 1), [.t 125, .t 124]⟩]) (.seq (.reg [⟨(some 126), none, (.lit 2 0), []⟩, ⟨(some 127), none, .mv, [.t 4]⟩, ⟨(some 128), none, (.app 2 32 128), [.t 126, .t 127]⟩, ⟨(some 4), none, .mv, [.t 128]⟩]) (.reg [⟨(some 129), none, .mv, [.t 4]⟩, ⟨(some 130), none, (.fa 1), [.t 6]⟩, ⟨(some 131), none, .ld1, [.t 130]⟩, ⟨(some 132), none, .mv, [.t 14]⟩, ⟨(some 133), none, (.ixS 2), [.t 129, .t 131]⟩, ⟨(some 134), none, (.fa 1), [.t 133]⟩, ⟨none, none, (.st 1), [.t 134, .t 132]⟩]))))))) .skip))))))))))) (.seq (.reg [⟨(some 200), none, .mv, [.t 8]⟩, ⟨(some 201), none, .mv, [.t 9]⟩, ⟨(some 202), none, (.bin .neq), [.t 200, .t 201]⟩, ⟨(some 203), none, .mv, [.t 202]⟩, ⟨(some 204), (some (203, false)), (.call F_net_Net_All 2), [.t 3]⟩, ⟨(some 205), (some (203, false)), .mv, [.t 4]⟩, ⟨(some 206), (some (203, false)), (.call F_law19_same 3), [.t 204, .t 205]⟩, ⟨(some 207), (some (203, false)), .not, [.t 206]⟩, ⟨(some 208), none, .pick, [.t 203, .c (.bool true), .t 207]⟩, ⟨(some 209), none, .mv, [.t 208]⟩, ⟨(some 210), (some (209, false)), (.call F_net_Net_Len 2), [.t 3]⟩, ⟨(some 211), (some (209, false)), .mv, [.t 4]⟩, ⟨(some 212), (some (209, false)), .len, [.t 211]⟩, ⟨(some 213), (some (209, false)), (.bin .neq), [.t 210, .t 212]⟩, ⟨(some 214), none, .pick, [.t 209, .c (.bool true), .t 213]⟩]) (.cond (.t 214) (.seq (.reg [⟨(some 2), none, .mv, [.c (.bool false)]⟩]) .ret) .skip)))))))))) (.reg [⟨(some 215), none, (.bin .add), [.t 25, .c (.int .i64 1)]⟩, ⟨(some 25), none, .mv, [.t 215]⟩]))))
def wb_law19_NetPlays_0 : List Bool := [true, true, true, true, true, true, true, true, true, true, true, true, true, true, true, true, true, true, true, true, true, true, true, true, true, true, true, true, true, true, true, true, true, true, true, true, true, true, true, true, true, true, true, true, true, true, true, true, true, true, true, true, true, true, true, true, true, true, true, true, true, true, true, true, true, true, true, true, true, true, true, true, true, true, true, true, true, true, true, true, true, true, true, true, true, true, true, true, true, true, true, true, true, true, true, true, true, true, true, true, true, true, true, true, true, true, true, true, true, true, true, true, true, true, true, true, true, true, true, true, true, true, true, true, true, true, true, true, true, true, true, true, true, true, true, true, true, true, true, true, true, true, true, true, true, true, true, true, true, true, true, true, true, true, true, true, true, true, true, true, true, true, true, true, true, true, true, true, true, true, true, true, true, true, true, true, true, true, true, true, true, true, true, true, true, true, true, true, true, true, true, true, true, true, true, true, true, true, true, true, true, true, true, true, true, true, true, true, true, true, true, true, true, true, true, true]
abbrev e_law19_NetPlays_0 : List AV := [.any, .any, .any, .any, .any, .any, .any, .any, .any, .any, .any, .any, .any, .any, .any, .any, .any, .any, .any, .any, .any, .any, .any, .any, .any, .any, .any, .any, .any, .any, .any, .any, .any, .any, .any, .any, .any, .any, .any, .any, .any, .any, .any, .any, .any, .any, .any, .any, .any, .any, .any, .any, .any, .any, .any, .any, .any, .any, .any, .any, .any, .any, .any, .any, .any, .any, .any, .any, .any, .any, .any, .any, .any, .any, .any, .any, .any, .any, .any, .any, .any, .any, .any, .any, .any, .any, .any, .any, .any, .any, .any, .any, .any, .any, .any, .any, .any, .any, .any, .any, .any, .any, .any, .any, .any, .any, .any, .any, .any, .any, .any, .any, .any, .any, .any, .any, .any, .any, .any, .any, .any, .any, .any, .any, .any, .any, .any, .any, .any, .any, .any, .any, .any, .any, .any, .any, .any, .any, .any, .any, .any, .any, .any, .any, .any, .any, .any, .any, .any, .any, .any, .any, .any, .any, .any, .any, .any, .any, .any, .any, .any, .any, .any, .any, .any, .any, .any, .any, .any, .any, .any, .any, .any, .any, .any, .any, .any, .any, .any, .any, .any, .any, .any, .any, .any, .any, .any, .any, .any, .any, .any, .any, .any, .any, .any, .any, .any, .any, .any, .any, .any, .any, .any, .any, .any, .any, .any, .any, .any, .any, .any, .any, .any, .any, .any, .any]
abbrev i_law19_NetPlays_0 : List It := [.lp wl_law19_NetPlays_0 c_law19_NetPlays_l0, .blk 0 wb_law19_NetPlays_0]
def c_law19_NetPlays_k0 : Cd := (.seq (.reg [⟨(some 2), none, .mv, [.c (.bool true)]⟩]) .ret)
def c_law19_NetPlays : Cd := (.seq (.reg [⟨(some 2), none, .mv, [.c (.bool false)]⟩]) (.seq (.seq (.reg [⟨(some 15), none, (.call F_law19_awake 0), []⟩, ⟨(some 16), none, .not, [.t 15]⟩, ⟨(some 17), none, .mv, [.t 16]⟩, ⟨(some 18), (some (17, false)), .mv, [.t 0]⟩, ⟨(some 19), (some (17, false)), .len, [.t 18]⟩, ⟨(some 20), (some (17, false)), (.bin .gtr), [.t 19, .c (.int .i64 100)]⟩, ⟨(some 21), none, .pick, [.t 17, .c (.bool true), .t 20]⟩]) (.cond (.t 21) (.seq (.reg [⟨(some 22), none, (.call F_law19_awake 0), []⟩, ⟨(some 2), none, .mv, [.t 22]⟩]) .ret) .skip)) (.seq (.reg [⟨(some 3), none, (.new [.nils] 3), []⟩]) (.seq (.reg [⟨(some 4), none, .mv, [.c .nils]⟩]) (.seq (.seq (.reg [⟨(some 23), none, .mv, [.t 0]⟩, ⟨(some 24), none, .len, [.t 23]⟩, ⟨(some 25), none, .mv, [.c (.int .i64 0)]⟩]) (.blk 0 wb_law19_NetPlays_0 (.loop wl_law19_NetPlays_0 c_law19_NetPlays_l0))) c_law19_NetPlays_k0)))))
theorem comp_law19_NetPlays : compF Try.prog (mset5 [] [142, 146, 147, 171, 174, 179, 190, 195, 197, 198] [] [(145, 6), (173, 6), (178, 6), (194, 6)] [] [] [144, 176, 192]) (cset [] [F_net_Net_Send, F_net_Net_Take, F_net_Net_Double, F_net_Net_Spoil, F_net_Net_All, F_net_Net_Len] [F_law19_same]) (wset [(0, wl_law19_NetPlays_0, wb_law19_NetPlays_0)] []) Try.f10 = some c_law19_NetPlays := by kernel_rfl
theorem ok_law19_NetPlays : fnOk Try.prog F_law19_NetPlays = true := by kernel_rfl
theorem calls_law19_NetPlays {args : List AV} {r : AV} (h : RunsX Try.prog 0 (Gives [.t 2] r) [.c c_law19_NetPlays] (args ++ List.replicate (216 - args.length) (.tup [])) [] zeroC) : PCalls Try.prog F_law19_NetPlays args r :=
  pcallsF Try.checked.mixed Try.func10 ok_law19_NetPlays comp_law19_NetPlays rfl (rs := [.t 2]) (by kernel_rfl) h
theorem hcalls_law19_NetPlays {args : List AV} {Hin Hout : Heap} {nx nx2 : Ctr} {r : AV} (φ : Nat) (ks : List (Nat × Nat)) (h : RunsX Try.prog φ (GivesH ks [.t 2] r Hout nx2) [.c c_law19_NetPlays] (args ++ List.replicate (216 - args.length) (.tup [])) Hin nx) : HCalls Try.prog F_law19_NetPlays args Hin nx r Hout nx2 :=
  hcallsF Try.checked.mixed Try.func10 ok_law19_NetPlays comp_law19_NetPlays rfl (rs := [.t 2]) (by kernel_rfl) φ ks h

def tab_CdNet : List (Nat × Cd × Nat × List RS) := [(F_slices_Clone_net_Parcel, c_slices_Clone_net_Parcel, 8, [.t 2]), (F_slices_Delete_net_Parcel, c_slices_Delete_net_Parcel, 33, [.t 6]), (F_net_Net_Send, c_net_Net_Send, 27, [.t 4]), (F_net_Net_Take, c_net_Net_Take, 36, [.cn 4 2, .t 5]), (F_law19_same, c_law19_same, 43, [.t 4]), (F_net_Net_Double, c_net_Net_Double, 21, [.t 4]), (F_net_Net_Spoil, c_net_Net_Spoil, 60, [.t 8]), (F_net_Net_All, c_net_Net_All, 24, [.t 2]), (F_net_Net_Len, c_net_Net_Len, 10, [.t 2]), (F_net_clone, c_net_clone, 9, [.cn 2 2]), (F_net_Net_there, c_net_Net_there, 20, [.t 4]), (F_law19_awake, c_law19_awake, 9, [.t 0]), (F_law19_NetPlays, c_law19_NetPlays, 216, [.t 2])]
theorem tok_CdNet : TabOk Try.prog (tabOf tab_CdNet) := tab_cons calls_slices_Clone_net_Parcel hcalls_slices_Clone_net_Parcel (tab_cons calls_slices_Delete_net_Parcel hcalls_slices_Delete_net_Parcel (tab_cons calls_net_Net_Send hcalls_net_Net_Send (tab_cons calls_net_Net_Take hcalls_net_Net_Take (tab_cons calls_law19_same hcalls_law19_same (tab_cons calls_net_Net_Double hcalls_net_Net_Double (tab_cons calls_net_Net_Spoil hcalls_net_Net_Spoil (tab_cons calls_net_Net_All hcalls_net_Net_All (tab_cons calls_net_Net_Len hcalls_net_Net_Len (tab_cons calls_net_clone hcalls_net_clone (tab_cons calls_net_Net_there hcalls_net_Net_there (tab_cons calls_law19_awake hcalls_law19_awake (tab_cons calls_law19_NetPlays hcalls_law19_NetPlays (tab_nil)))))))))))))
end Go.Proofs.Ytmokhopjnjecbaa
/- The lemmas of a walk, under one name of the kit (a simp set), so that the texts are short. -/
namespace Go.Ev
/-- An element by an index: its first unfolding is a step with a proof that is no rfl. -/
def gi (es : List AV) (n : Int) : Option AV := es[n.toNat]?
theorem gi_eq (es : List AV) (n : Int) : gi es n = es[n.toNat]? := of_eq_true (eq_true rfl)
theorem optI_gi {α : Type} (es : List AV) (n : Int) (ok : AV → α) (bad : α) : optI es n ok bad = optK (gi es n) ok bad := rfl
attribute [go_sem ↓ low] optI_gi
attribute [go_sem] gi_eq
attribute [go_sem ↓] as_nil as_ops0 as_op as_opg as_blk as_frz as_lp as_skip as_reg as_regf as_seq as_cond as_cblk as_loop as_exit as_ret condK_true condK_false condK_bool
  guardK_tup guardK_tt guardK_tf guardK_ft guardK_ff guardK_bool q_add q_sub q_mul q_eql q_neq q_lss q_leq q_gtr q_geq q_quo q_rem q_and q_or q_xor q_andNot
  q_shl q_shr q_seql q_sneq q_slss q_sleq q_sgtr q_sgeq q_sadd q_mv q_pick q_eqb q_neb q_eqp q_neqp q_eqs q_neqs q_eqf q_neqf q_eqi q_neqi q_not q_neg q_cpl
  q_conv q_s2b q_b2s0 q_b2s1 q_b2s2 q_s2s q_box q_boxm q_new q_ld1 q_ld1r q_ld1p q_ldn q_ldnr q_ldnp q_ldk q_ldnk q_st q_stf q_slcx q_clr q_stk q_fa q_fap q_fld1 q_fldn q_ixS
  q_ixSl q_ixP q_ixPp q_ixT q_ixA1 q_slc0 q_slc1 q_slc2 q_slcT q_lenT q_len0 q_len1 q_len2 q_app q_apn pureK_nn pureK_nf pureK_fn pureK_ff q_apps q_lit q_litr q_litm q_bld q_mk q_ext q_nckp q_nckr
  q_nckf q_mn q_mx q_mkf q_ifc headK_cons optK_some optI_0 optI_1 optI_2 optI_3 nilK_nil execA mapK frzK_sl frzK_agg frzK_tup frzK_ifc frzK_func frzK_int
  frzK_bool frzK_str frzK_nilp frzK_nils frzK_nilm frzK_nilf frzK_nili frzK_fz frzK_any frzK_ptr frzK_ro getB getsK getR retK nilpK nilsK nilfK niliK bndK
  cutK fillK exitK if_pos if_neg
attribute [go_sem] evs_n evs_c ev_t ev_v getT_z getT_s gets_n gets_c drop_z drop_s setT put List.replicate List.cons_append List.nil_append List.length_cons List.length_nil
  setB kill killM dropK keysOf capOf_nn zeroC bump frzT thaw putAll retv find cells List.append_nil List.take Nat.zero_add Nat.add_zero Nat.mul_one Nat.succ_ne_self
  Nat.le_refl Nat.one_ne_zero Nat.lt_irrefl List.length_append Int.toNat_zero Int.toNat_one List.take_zero List.drop_zero Nat.zero_mul sel rest keyIn Bool.not_true
  Bool.not_false Bool.false_eq_true Bool.true_eq_false and_self and_true true_and false_and and_false decide_true decide_false decide_eq_true decide_eq_false
  decide_eq_true_eq decide_eq_false_iff_not Bool.not_eq_true Bool.not_eq_false Bool.not_eq_eq_eq_not Decidable.not_not
end Go.Ev
/- Contracts over a heap: a cell that may be nil, told as what it is; a cell told less. -/
namespace Go.Ev
set_option linter.unusedVariables false

theorem Lof_head {f d g : Nat} {cs cs' : List AV} {H : Heap} {bm : Nat → Nat → Nat} : Lof ((f, d, g, some cs) :: H) bm = Lof ((f, d, g, some cs') :: H) bm := by
  funext f1 d1 g1 b
  apply propext
  simp only [Lof, find]
  by_cases e : d = d1 ∧ f = f1
  · simp [e]
  · simp only [if_neg e]
theorem Own_head {f d g : Nat} {cs cs' : List AV} {H : Heap} {bm : Nat → Nat → Nat} : Own ((f, d, g, some cs) :: H) bm = Own ((f, d, g, some cs') :: H) bm := by
  funext b
  apply propext
  simp only [Own, find]
  constructor
  · rintro ⟨f1, d1, g1, cs1, h, rfl⟩
    by_cases e : d = d1 ∧ f = f1
    · exact ⟨f1, d1, g, cs', by simp [e], rfl⟩
    · rw [if_neg e] at h; exact ⟨f1, d1, g1, cs1, by simp only [if_neg e]; exact h, rfl⟩
  · rintro ⟨f1, d1, g1, cs1, h, rfl⟩
    by_cases e : d = d1 ∧ f = f1
    · exact ⟨f1, d1, g, cs, by simp [e], rfl⟩
    · rw [if_neg e] at h; exact ⟨f1, d1, g1, cs1, by simp only [if_neg e]; exact h, rfl⟩
/-- The head's cells, told otherwise. -/
theorem Rel.recell {w0 : World} {O X : Nat → Prop} {bm : Nat → Nat → Nat} {f d g : Nat} {cs cs' : List AV} {H : Heap} {nx : Ctr} {w : World} (r : Rel w0 O X bm ((f, d, g, some cs) :: H) nx w)
    (hl : cs'.length = cs.length) (h : ∀ (j : Nat) x' v, cs'[j]? = some x' → (∀ x, cs[j]? = some x → Rep (Lof ((f, d, g, some cs) :: H) bm) X nx w false x v) → (∃ vs E, w.heap[bm f d]? = some (.cells vs E (0, 0)) ∧ vs.getD j undef = v) → Rep (Lof ((f, d, g, some cs) :: H) bm) X nx w false x' v) :
    Rel w0 O X bm ((f, d, g, some cs') :: H) nx w := by
  have hfind : ∀ f1 d1 g1 cs1, find ((f, d, g, some cs') :: H) f1 d1 = some (g1, some cs1) → (f1 = f ∧ d1 = d ∧ g1 = g ∧ cs1 = cs') ∨ (¬ (d = d1 ∧ f = f1) ∧ find ((f, d, g, some cs) :: H) f1 d1 = some (g1, some cs1)) := by
    intro f1 d1 g1 cs1 h
    by_cases e : d = d1 ∧ f = f1
    · obtain ⟨rfl, rfl⟩ := e
      simp [find] at h
      exact .inl ⟨rfl, rfl, h.1.symm, h.2.symm⟩
    · refine .inr ⟨e, ?_⟩
      simp only [find, if_neg e] at h ⊢; exact h
  have hh : find ((f, d, g, some cs) :: H) f d = some (g, some cs) := by simp [find]
  have hex : ∀ f1 d1 g1 cs1, find ((f, d, g, some cs') :: H) f1 d1 = some (g1, some cs1) → ∃ cs2, find ((f, d, g, some cs) :: H) f1 d1 = some (g1, some cs2) := by
    intro f1 d1 g1 cs1 h
    rcases hfind _ _ _ _ h with ⟨rfl, rfl, rfl, rfl⟩ | ⟨_, h⟩
    · exact ⟨cs, hh⟩
    · exact ⟨_, h⟩
  refine ⟨?_, ?_, ?_, ?_, r.os, r.tape, r.output, r.size, r.keep, r.xlt⟩
  · intro f1 d1 g1 cs1 h1
    rw [Lof_head (cs' := cs)]
    rcases hfind _ _ _ _ h1 with ⟨rfl, rfl, rfl, rfl⟩ | ⟨_, h1⟩
    · obtain ⟨vs, E, hb, hle, hrep⟩ := r.blk _ _ _ _ hh
      refine ⟨vs, E, hb, by omega, fun j x' hj => ?_⟩
      have hj' : j < cs.length := by have := (List.getElem?_eq_some_iff.1 hj).1; omega
      have h2 := hrep j _ (List.getElem?_eq_getElem hj')
      exact ⟨h j x' _ hj (fun x hx => (hrep j x hx).1) ⟨vs, E, hb, rfl⟩, h2.2⟩
    · exact r.blk _ _ _ _ h1
  · intro f1 d1 g1 cs1 f2 d2 g2 cs2 h1 h2 he
    obtain ⟨a, h1⟩ := hex _ _ _ _ h1
    obtain ⟨b, h2⟩ := hex _ _ _ _ h2
    exact r.inj _ _ _ _ _ _ _ _ h1 h2 he
  · intro f1 d1 g1 b h1
    by_cases e : d = d1 ∧ f = f1
    · obtain ⟨rfl, rfl⟩ := e
      simp [find] at h1
      have := r.gen _ _ _ _ hh
      omega
    · simp only [find, if_neg e] at h1
      exact r.gen f1 d1 g1 b (by simp only [find, if_neg e]; exact h1)
  · intro f1 d1 g1 cs1 h1
    obtain ⟨a, h1⟩ := hex _ _ _ _ h1
    exact r.own _ _ _ _ h1
/-- A cell that may be nil. -/
theorem HCalls.nil {P : Program} {F f d g sz : Nat} {pre post : List AV} {args : List AV} {H Hout : Heap} {nx nx' : Ctr} {r : AV}
    (h1 : HCalls P F args ((f, d, g, some (pre ++ .nils :: post)) :: H) nx r Hout nx') (h2 : ∀ c, HCalls P F args ((f, d, g, some (pre ++ .fz sz [] (some c) :: post)) :: H) nx r Hout nx') :
    HCalls P F args ((f, d, g, some (pre ++ .fz sz [] none :: post)) :: H) nx r Hout nx' := by
  refine ⟨h1.ok, fun X w bm vals hr ha => ?_⟩
  obtain ⟨vs, E, hb, hle, hrep⟩ := hr.blk f d g _ (by simp [find]; rfl)
  have hm : (pre ++ AV.fz sz [] none :: post)[pre.length]? = some (.fz sz [] none) := by simp
  have key : ∀ x, Rep (Lof ((f, d, g, some (pre ++ .fz sz [] none :: post)) :: H) bm) X nx w false x (vs.getD pre.length undef) → Rel w (Own ((f, d, g, some (pre ++ x :: post)) :: H) bm) X bm ((f, d, g, some (pre ++ x :: post)) :: H) nx w := by
    intro x hx
    rw [Own_head (cs' := pre ++ .fz sz [] none :: post)]
    refine hr.recell (by simp) (fun j x' v hj hv hvs => ?_)
    obtain ⟨vs', E', hb', rfl⟩ := hvs
    rw [hb] at hb'; simp only [Option.some.injEq, Obj.cells.injEq] at hb'; obtain ⟨rfl, rfl, _⟩ := hb'
    by_cases hjp : j = pre.length
    · subst hjp
      simp at hj; subst hj; exact hx
    · refine hv x' ?_
      rcases Nat.lt_or_ge j pre.length with hl | hl
      · rw [List.getElem?_append_left hl] at hj ⊢; exact hj
      · rw [List.getElem?_append_right hl] at hj ⊢
        obtain ⟨k, hk⟩ : ∃ k, j - pre.length = k + 1 := ⟨j - pre.length - 1, by omega⟩
        rw [hk] at hj ⊢; exact hj
  rcases nil_or (hrep _ _ hm).1 with a | ⟨c, a⟩
  · have := h1.calls X w bm vals (key _ a) (by rw [Lof_head (cs' := pre ++ .fz sz [] none :: post)]; exact ha)
    rw [Lof_head (cs' := pre ++ .fz sz [] none :: post), Own_head (cs' := pre ++ .fz sz [] none :: post)] at this
    exact this
  · have := (h2 c).calls X w bm vals (key _ a) (by rw [Lof_head (cs' := pre ++ .fz sz [] none :: post)]; exact ha)
    rw [Lof_head (cs' := pre ++ .fz sz [] none :: post), Own_head (cs' := pre ++ .fz sz [] none :: post)] at this
    exact this
/-- A cell of what comes out, told less. -/
theorem HCalls.out {P : Program} {F f d g : Nat} {pre post : List AV} {x y : AV} {args : List AV} {Hin H : Heap} {nx nx' : Ctr} {r : AV} (hw : Wk1 x y)
    (h : HCalls P F args Hin nx r ((f, d, g, some (pre ++ x :: post)) :: H) nx') : HCalls P F args Hin nx r ((f, d, g, some (pre ++ y :: post)) :: H) nx' := by
  refine ⟨h.ok, fun X w bm vals hr ha => (h.calls X w bm vals hr ha).mono fun e w' he => ?_⟩
  obtain ⟨v, bm', h1, h2, h3, h4⟩ := he
  rw [Lof_head (cs' := pre ++ y :: post)] at h3 h4
  refine ⟨v, bm', h1, ?_, h3, h4⟩
  refine h2.recell (by simp) (fun j x' v hj hv hvs => ?_)
  by_cases hjp : j = pre.length
  · subst hjp
    simp at hj; subst hj
    exact hw _ _ _ _ _ _ (hv x (by simp))
  · refine hv x' ?_
    rcases Nat.lt_or_ge j pre.length with hl | hl
    · rw [List.getElem?_append_left hl] at hj ⊢; exact hj
    · rw [List.getElem?_append_right hl] at hj ⊢
      obtain ⟨k, hk⟩ : ∃ k, j - pre.length = k + 1 := ⟨j - pre.length - 1, by omega⟩
      rw [hk] at hj ⊢; exact hj
/-- A cell of what goes in, told more. -/
theorem HCalls.inn {P : Program} {F f d g : Nat} {pre post : List AV} {x y : AV} {args : List AV} {H Hout : Heap} {nx nx' : Ctr} {r : AV} (hw : Wk1 x y)
    (h : HCalls P F args ((f, d, g, some (pre ++ y :: post)) :: H) nx r Hout nx') : HCalls P F args ((f, d, g, some (pre ++ x :: post)) :: H) nx r Hout nx' := by
  refine ⟨h.ok, fun X w bm vals hr ha => ?_⟩
  have hr' : Rel w (Own ((f, d, g, some (pre ++ y :: post)) :: H) bm) X bm ((f, d, g, some (pre ++ y :: post)) :: H) nx w := by
    rw [Own_head (cs' := pre ++ x :: post)]
    refine hr.recell (by simp) (fun j x' v hj hv hvs => ?_)
    by_cases hjp : j = pre.length
    · subst hjp
      simp at hj; subst hj
      exact hw _ _ _ _ _ _ (hv x (by simp))
    · refine hv x' ?_
      rcases Nat.lt_or_ge j pre.length with hl | hl
      · rw [List.getElem?_append_left hl] at hj ⊢; exact hj
      · rw [List.getElem?_append_right hl] at hj ⊢
        obtain ⟨k, hk⟩ : ∃ k, j - pre.length = k + 1 := ⟨j - pre.length - 1, by omega⟩
        rw [hk] at hj ⊢; exact hj
  have := h.calls X w bm vals hr' (by rw [Lof_head (cs' := pre ++ x :: post)]; exact ha)
  rw [Lof_head (cs' := pre ++ x :: post), Own_head (cs' := pre ++ x :: post)] at this
  exact this
theorem find_nil (f d : Nat) : find [] f d = none := rfl
/-- What is called with values that lead to nothing of ours. -/
theorem PCalls.h {P : Program} {F : Nat} {args args' : List AV} {r : AV} (h : PCalls P F args' r) (nx : Ctr) (hf : mapK (frzK 9 []) args (fun vs i => some (vs, i)) none = some (args', [])) : HCalls P F args [] nx r [] nx := by
  refine ⟨h.ok, fun X w bm vals hr ha => ?_⟩
  obtain ⟨cs', ids, h2, _, _, g⟩ := frz_map (fun v val _ ok r h1 h2 => frz_ok hr 9 v val ok r h1 h2) args vals _ _ ha hf
  simp only [Option.some.injEq, Prod.mk.injEq] at h2
  obtain ⟨rfl, rfl⟩ := h2
  have := g none4 zeroC (by intro f d g b hb; exact hb.elim)
  refine (h.calls X w vals hr.xlt this).mono ?_
  rintro e w' ⟨v, rfl, bel, rep⟩
  refine ⟨v, bm, rfl, ⟨?_, ?_, ?_, ?_, bel.os, bel.tape, bel.output, bel.size, fun b hb _ => bel.block b hb, hr.xlt⟩, ⟨fun _ => Nat.le_refl _, bel.size, ?_, ?_, ?_, ?_⟩, (rep.sub ?_).weak⟩
  · intro f d g cs h; rw [find_nil] at h; cases h
  · intro f d g cs f' d' g' cs' h; rw [find_nil] at h; cases h
  · intro f d g cs h; rw [find_nil] at h; cases h
  · intro f d g cs h; rw [find_nil] at h; cases h
  · rintro f d g b ⟨⟨cs, h⟩, _⟩; rw [find_nil] at h; cases h
  · rintro f d g b ⟨⟨cs, h⟩, _⟩; rw [find_nil] at h; cases h
  · intro a u hc _
    rw [World.cell?_of_block (w := w) (bel.block _ (World.block_lt_of_cell? w a hc))]; exact hc
  · rintro f d g b vs E ⟨⟨cs, h⟩, _⟩; rw [find_nil] at h; cases h
  · rintro f d g b ⟨⟨cs, h⟩, _⟩; rw [find_nil] at h; cases h
section
variable {P : Program} {φ : Nat} {R : List AV → Heap → Ctr → Prop} {k0 : List It}
theorem call2x {f : Nat} {vs : List AV} {ids : List (Nat × Nat)} {d : Option Nat} {l : List Op} {k : List It} {t : List AV} {H : Heap} {nx : Ctr} {r : AV} {Hout : Heap} (n : Nat) (hk0 : flat k0) (hk : flat k) (ks : List (Nat × Nat)) {Hin Hr : Heap} (hin : sel ks H = Hin) (hre : rest ks H = Hr)
    (hp : ∃ nx', HCalls P f vs Hin nx r Hout nx') (hf : Hr = [] ∨ (nameFree 9 Hr r = true ∧ heapFree Hr Hout = true))
    (h : ∀ (nx' : Ctr) (A : Nat → List It → List AV → Heap → Ctr → Out), (∀ n its t H nx, A (n + 1) its t H nx = advStep φ (A n) its t H nx) → RunsO P φ R k0 (A n (.ops l :: k) (put t d r) (Hout ++ Hr) nx')) : RunsO P φ R k0 (.call f 2 vs ids d l k t H nx) := by
  obtain ⟨nx', hp⟩ := hp
  exact call2 n hk0 hk ks hin hre hp hf (fun A eA => h nx' A eA)
theorem call2p {C : Nat → Prop} {f : Nat} {vs : List AV} {ids : List (Nat × Nat)} {d : Option Nat} {l : List Op} {k : List It} {t : List AV} {H : Heap} {nx : Ctr} {r : AV} {Hout : Nat → Nat → Heap} (n : Nat) (hk0 : flat k0) (hk : flat k) (ks : List (Nat × Nat)) {Hin Hr : Heap} (hin : sel ks H = Hin) (hre : rest ks H = Hr)
    (hp : ∃ key g' nx', C key ∧ HCalls P f vs Hin nx r (Hout key g') nx') (hf : ∀ key g', C key → Hr = [] ∨ (nameFree 9 Hr r = true ∧ heapFree Hr (Hout key g') = true))
    (h : ∀ (key g' : Nat) (nx' : Ctr), C key → ∀ (A : Nat → List It → List AV → Heap → Ctr → Out), (∀ n its t H nx, A (n + 1) its t H nx = advStep φ (A n) its t H nx) → RunsO P φ R k0 (A n (.ops l :: k) (put t d r) (Hout key g' ++ Hr) nx')) : RunsO P φ R k0 (.call f 2 vs ids d l k t H nx) := by
  obtain ⟨key, g', nx', hc, hp⟩ := hp
  exact call2 n hk0 hk ks hin hre hp (hf key g' hc) (fun A eA => h key g' nx' hc A eA)
end
theorem RunsX.wkT {P : Program} {φ : Nat} {R : List AV → Heap → Ctr → Prop} {its : List It} {t t' : List AV} {H : Heap} {nx : Ctr} (hf : flat its) (hw : Wk t t') (h : RunsX P φ R its t' H nx) : RunsX P φ R its t H nx := RunsX.of (.wk hw (h.flatTo hf))
theorem Wk.at1 {x y : AV} (hw : Wk1 x y) (pre post : List AV) : Wk (pre ++ x :: post) (pre ++ y :: post) := fun L X nx w vs h => Reps.arg hw pre vs h
theorem WkH.cell {f d g : Nat} {pre post : List AV} {x y : AV} {H : Heap} (hw : Wk1 x y) : WkH ((f, d, g, some (pre ++ x :: post)) :: H) ((f, d, g, some (pre ++ y :: post)) :: H) := by
  refine ⟨fun bm => Lof_head, fun w0 O X bm nx w r => ?_⟩
  refine r.recell (by simp) (fun j x' v hj hv hvs => ?_)
  by_cases hjp : j = pre.length
  · subst hjp
    simp at hj; subst hj
    exact hw _ _ _ _ _ _ (hv x (by simp))
  · refine hv x' ?_
    rcases Nat.lt_or_ge j pre.length with hl | hl
    · rw [List.getElem?_append_left hl] at hj ⊢; exact hj
    · rw [List.getElem?_append_right hl] at hj ⊢
      obtain ⟨k, hk⟩ : ∃ k, j - pre.length = k + 1 := ⟨j - pre.length - 1, by omega⟩
      rw [hk] at hj ⊢; exact hj
theorem RunsX.wkHeap {P : Program} {φ : Nat} {R : List AV → Heap → Ctr → Prop} {its : List It} {t : List AV} {H H' : Heap} {nx : Ctr} (hf : flat its) (hw : WkH H H') (h : RunsX P φ R its t H' nx) : RunsX P φ R its t H nx := RunsX.of (.wkH hw (h.flatTo hf))
end Go.Ev
/- The functions' bodies, compiled; printed by a program of mine (gen.py); that they are is checked here. -/
namespace Go.Proofs.Ytmokhopjnjecbaa
open Go.Ev
set_option maxRecDepth 100000

/-- bytes.Clone: parameters [22], results [.t 2], calls  -/
def c_bytes_Clone : Cd := (.seq (.reg [⟨(some 2), none, .mv, [.c .nils]⟩]) (.seq (.seq (.reg [⟨(some 3), none, .mv, [.t 0]⟩, ⟨(some 4), none, (.eqs false), [.t 3, .c .nils]⟩]) (.cond (.t 4) (.seq (.reg [⟨(some 2), none, .mv, [.c .nils]⟩]) .ret) .skip)) (.seq (.reg [⟨(some 5), none, (.lit 1 0), []⟩, ⟨(some 6), none, .mv, [.t 0]⟩, ⟨(some 7), none, (.app 1 1 7), [.t 5, .t 6]⟩, ⟨(some 2), none, .mv, [.t 7]⟩]) .ret)))
theorem comp_bytes_Clone : compF Try.prog (mset [] [] []) (cset [] [] []) (wset [] []) Try.f92 = some c_bytes_Clone := by kernel_rfl
theorem ok_bytes_Clone : fnOk Try.prog F_bytes_Clone = true := by kernel_rfl
theorem calls_bytes_Clone {args : List AV} {r : AV} (h : RunsX Try.prog 0 (Gives [.t 2] r) [.c c_bytes_Clone] (args ++ List.replicate (8 - args.length) (.tup [])) [] zeroC) : PCalls Try.prog F_bytes_Clone args r :=
  pcallsF Try.checked.mixed Try.func92 ok_bytes_Clone comp_bytes_Clone rfl (rs := [.t 2]) (by kernel_rfl) h
theorem hcalls_bytes_Clone {args : List AV} {Hin Hout : Heap} {nx nx2 : Ctr} {r : AV} (φ : Nat) (ks : List (Nat × Nat)) (h : RunsX Try.prog φ (GivesH ks [.t 2] r Hout nx2) [.c c_bytes_Clone] (args ++ List.replicate (8 - args.length) (.tup [])) Hin nx) : HCalls Try.prog F_bytes_Clone args Hin nx r Hout nx2 :=
  hcallsF Try.checked.mixed Try.func92 ok_bytes_Clone comp_bytes_Clone rfl (rs := [.t 2]) (by kernel_rfl) φ ks h

def tab_CdClone : List (Nat × Cd × Nat × List RS) := [(F_bytes_Clone, c_bytes_Clone, 8, [.t 2])]
theorem tok_CdClone : TabOk Try.prog (tabOf tab_CdClone) := tab_cons calls_bytes_Clone hcalls_bytes_Clone (tab_nil)
end Go.Proofs.Ytmokhopjnjecbaa
/- Texts out of rows of bytes: equal just where the rows are. -/
namespace Go.Ev
set_option linter.unusedVariables false

/-- The text of a row of bytes. -/
def bstr (bs : List Nat) : ByteArray := ⟨(bytesOf (avs bs)).toArray⟩
theorem bytesOf_avs (bs : List Nat) : bytesOf (avs bs) = bs.map UInt8.ofNat := by
  induction bs with
  | nil => rfl
  | cons b bs ih => simp only [avs, List.map_cons, bytesOf, Int.toNat_natCast] at ih ⊢; rw [ih]
theorem isBytes_avs {bs : List Nat} (h : ∀ b ∈ bs, b < 256) : isBytes (avs bs) = true := by
  simp only [isBytes, avs, List.all_map, List.all_eq_true]
  intro b hb
  have := h b hb
  simp; omega
theorem map_ofNat_inj : ∀ {a b : List Nat}, (∀ x ∈ a, x < 256) → (∀ x ∈ b, x < 256) → a.map UInt8.ofNat = b.map UInt8.ofNat → a = b
  | [], [], _, _, _ => rfl
  | [], _ :: _, _, _, h => by simp at h
  | _ :: _, [], _, _, h => by simp at h
  | x :: a, y :: b, ha, hb, h => by
    simp only [List.map_cons, List.cons.injEq] at h
    have h1 := ha x (List.mem_cons_self)
    have h2 := hb y (List.mem_cons_self)
    have h3 : x = y := by
      have := congrArg UInt8.toNat h.1
      simp only [UInt8.toNat_ofNat'] at this
      omega
    rw [h3, map_ofNat_inj (fun z hz => ha z (List.mem_cons_of_mem _ hz)) (fun z hz => hb z (List.mem_cons_of_mem _ hz)) h.2]
theorem bstr_beq {a b : List Nat} (ha : ∀ x ∈ a, x < 256) (hb : ∀ x ∈ b, x < 256) : ((bstr a).toList == (bstr b).toList) = decide (a = b) := by
  have e : ∀ l, (bstr l).toList = l.map UInt8.ofNat := fun l => by rw [ByteArray.toList_eq, bstr, bytesOf_avs]
  rw [e, e]
  by_cases h : a = b
  · subst h; simp
  · simp only [h, decide_false, beq_eq_false_iff_ne, ne_eq]
    exact fun h2 => h (map_ofNat_inj ha hb h2)
theorem bstr_size (a : List Nat) : (bstr a).size = a.length := by
  show (bytesOf (avs a)).toArray.size = _
  rw [bytesOf_avs]; simp
end Go.Ev
/- Rows of bytes; the walk through bytes.Clone. -/
namespace Go.Proofs.Ytmokhopjnjecbaa
open Go.Ev
set_option linter.unusedVariables false
set_option linter.unusedSimpArgs false
set_option maxRecDepth 100000
variable {R : List AV → Heap → Ctr → Prop} {k : List It} {H : Heap} {nx : Ctr} {φ : Nat}

theorem catCells_avs (bs : List Nat) : catCells (avs bs) = avs bs := by
  induction bs with
  | nil => rfl
  | cons b bs ih => simp only [avs, List.map_cons, catCells, cells] at ih ⊢; rw [ih]; rfl
theorem avs_append (a b : List Nat) : avs a ++ avs b = avs (a ++ b) := by simp [avs]
theorem avs_take (n : Nat) (a : List Nat) : (avs a).take n = avs (a.take n) := by simp [avs]
theorem avs_drop (n : Nat) (a : List Nat) : (avs a).drop n = avs (a.drop n) := by simp [avs]
theorem avs_take_all (n : Nat) (a : List Nat) (h : a.length ≤ n) : (avs a).take n = avs a := by rw [avs_take, List.take_of_length_le h]
theorem avs_cons' (b : Nat) (bs : List Nat) : AV.int .u8 (b : Int) :: avs bs = avs (b :: bs) := rfl
theorem avs_nil' : ([] : List AV) = avs [] := rfl
theorem nilsK_avs {α : Type} (b : Nat) (bs : List Nat) (c : Option Nat) (ok : Bool → α) (bad : α) : nilsK (.fz 1 (avs (b :: bs)) c) ok bad = ok false := rfl
theorem wrap_u8 (a : Nat) : IntKind.u8.wrap (a : Int) = ((a % 256 : Nat) : Int) := by
  simp only [IntKind.wrap, IntKind.signed, IntKind.bits, Bool.false_and, Bool.false_eq_true, if_false]
  omega
/-- A row of bytes that nobody writes. -/
abbrev bv (bs : List Nat) : AV := .fz 1 (avs bs) none
theorem bytesClone_calls (bs : List Nat) (hlen : bs.length ≤ 1099511627776) : PCalls Try.prog F_bytes_Clone [bv bs] (bv bs) := by
  cases bs with
  | nil =>
    refine PCalls.nil (pre := []) (post := []) ?_ (fun c => ?_)
    · refine calls_bytes_Clone (walk0 60 trivial (fun A eA => ?_))
      simp only [c_bytes_Clone, ↓advStep, ↓execK, ↓opK, ↓binK, ↓intK, ↓strK, evs, ev, getT, setT, put, List.replicate, List.cons_append, List.nil_append, List.length_cons, List.length_nil, ↓mapK, ↓frzK_sl, ↓frzK_agg, ↓frzK_tup, ↓frzK_ifc, ↓frzK_func, ↓frzK_int, ↓frzK_bool, ↓frzK_str, ↓frzK_nilp, ↓frzK_nils, ↓frzK_nilm, ↓frzK_nilf, ↓frzK_nili, ↓frzK_fz, ↓frzK_any, ↓frzK_ptr, ↓frzK_ro, ↓getB, setB, kill, killM, dropK, keysOf, capOf_nn, zeroC, bump, frzT, thaw, gets, putAll, ↓getsK, ↓getR, ↓retK, retv, find, cells, ↓nilpK, ↓nilsK, ↓nilfK, ↓niliK, ↓bndK, ↓cutK, ↓fillK, ↓exitK, List.append_nil, List.drop, List.take, Nat.reduceAdd, Nat.reduceSub, Nat.reduceMul, Nat.reduceLT, Nat.reduceLeDiff, Nat.zero_add, Nat.add_zero, Nat.mul_one, Int.reduceToNat, Nat.reduceEqDiff, Nat.succ_ne_self, Nat.le_refl, Nat.one_ne_zero, Nat.reduceBEq, Nat.lt_irrefl, List.length_append, Int.toNat_zero, Int.toNat_one, List.take_zero, List.drop_zero, Nat.zero_mul, sel, rest, keyIn, ↓reduceIte, ↓if_pos, ↓if_neg, reduceCtorEq, Bool.not_true, Bool.not_false, Bool.false_eq_true, Bool.true_eq_false, and_self, and_true, true_and, false_and, and_false, decide_true, decide_false, decide_eq_true, decide_eq_false, decide_eq_true_eq, decide_eq_false_iff_not, Bool.not_eq_true, Bool.not_eq_false, Bool.not_eq_eq_eq_not, Decidable.not_not, ↓appK, eA]
      exact doneW rfl (Wk1.nils 1)
    · refine calls_bytes_Clone (walk0 60 trivial (fun A eA => ?_))
      simp only [c_bytes_Clone, ↓advStep, ↓execK, ↓opK, ↓binK, ↓intK, ↓strK, evs, ev, getT, setT, put, List.replicate, List.cons_append, List.nil_append, List.length_cons, List.length_nil, ↓mapK, ↓frzK_sl, ↓frzK_agg, ↓frzK_tup, ↓frzK_ifc, ↓frzK_func, ↓frzK_int, ↓frzK_bool, ↓frzK_str, ↓frzK_nilp, ↓frzK_nils, ↓frzK_nilm, ↓frzK_nilf, ↓frzK_nili, ↓frzK_fz, ↓frzK_any, ↓frzK_ptr, ↓frzK_ro, ↓getB, setB, kill, killM, dropK, keysOf, capOf_nn, zeroC, bump, frzT, thaw, gets, putAll, ↓getsK, ↓getR, ↓retK, retv, find, cells, ↓nilpK, ↓nilsK, ↓nilfK, ↓niliK, ↓bndK, ↓cutK, ↓fillK, ↓exitK, List.append_nil, List.drop, List.take, Nat.reduceAdd, Nat.reduceSub, Nat.reduceMul, Nat.reduceLT, Nat.reduceLeDiff, Nat.zero_add, Nat.add_zero, Nat.mul_one, Int.reduceToNat, Nat.reduceEqDiff, Nat.succ_ne_self, Nat.le_refl, Nat.one_ne_zero, Nat.reduceBEq, Nat.lt_irrefl, List.length_append, Int.toNat_zero, Int.toNat_one, List.take_zero, List.drop_zero, Nat.zero_mul, sel, rest, keyIn, ↓reduceIte, ↓if_pos, ↓if_neg, reduceCtorEq, Bool.not_true, Bool.not_false, Bool.false_eq_true, Bool.true_eq_false, and_self, and_true, true_and, false_and, and_false, decide_true, decide_false, decide_eq_true, decide_eq_false, decide_eq_true_eq, decide_eq_false_iff_not, Bool.not_eq_true, Bool.not_eq_false, Bool.not_eq_eq_eq_not, Decidable.not_not, ↓appK, eA, allSz]
      exact doneW rfl (Wk1.cap 1 _ _)
  | cons b bs =>
    simp only [List.length_cons] at hlen
    have h1 : ¬ (bs.length + 1 = 0) := by omega
    have h2 : bs.length + 1 ≤ 1099511627776 ∧ bs.length + 1 ≤ 1099511627776 := ⟨hlen, hlen⟩
    have h3 : 0 < bs.length + 1 := by omega
    refine calls_bytes_Clone (walk0 60 trivial (fun A eA => ?_))
    simp only [c_bytes_Clone, ↓advStep, ↓execK, ↓opK, ↓binK, ↓intK, ↓strK, evs, ev, getT, setT, put, List.replicate, List.cons_append, List.nil_append, List.length_cons, List.length_nil, ↓mapK, ↓frzK_sl, ↓frzK_agg, ↓frzK_tup, ↓frzK_ifc, ↓frzK_func, ↓frzK_int, ↓frzK_bool, ↓frzK_str, ↓frzK_nilp, ↓frzK_nils, ↓frzK_nilm, ↓frzK_nilf, ↓frzK_nili, ↓frzK_fz, ↓frzK_any, ↓frzK_ptr, ↓frzK_ro, ↓getB, setB, kill, killM, dropK, keysOf, capOf_nn, zeroC, bump, frzT, thaw, gets, putAll, ↓getsK, ↓getR, ↓retK, retv, find, cells, ↓nilpK, ↓nilsK, ↓nilfK, ↓niliK, ↓bndK, ↓cutK, ↓fillK, ↓exitK, List.append_nil, List.drop, List.take, Nat.reduceAdd, Nat.reduceSub, Nat.reduceMul, Nat.reduceLT, Nat.reduceLeDiff, Nat.zero_add, Nat.add_zero, Nat.mul_one, Int.reduceToNat, Nat.reduceEqDiff, Nat.succ_ne_self, Nat.le_refl, Nat.one_ne_zero, Nat.reduceBEq, Nat.lt_irrefl, List.length_append, Int.toNat_zero, Int.toNat_one, List.take_zero, List.drop_zero, Nat.zero_mul, sel, rest, keyIn, ↓reduceIte, ↓if_pos, ↓if_neg, reduceCtorEq, Bool.not_true, Bool.not_false, Bool.false_eq_true, Bool.true_eq_false, and_self, and_true, true_and, false_and, and_false, decide_true, decide_false, decide_eq_true, decide_eq_false, decide_eq_true_eq, decide_eq_false_iff_not, Bool.not_eq_true, Bool.not_eq_false, Bool.not_eq_eq_eq_not, Decidable.not_not, ↓appK, eA, allSz, bv, ↓nilsK_avs, avs_len, h1, hlen, h3, catCells, catCells_avs]
    refine doneG ?_
    simp (disch := first | omega | (simp only [avs_len, List.length_cons, List.length_append, List.length_nil, List.length_take, List.length_drop, List.length_map]; omega)) only [↓advStep, ↓execK, ↓opK, ↓binK, ↓intK, ↓strK, evs, ev, getT, setT, put, List.replicate, List.cons_append, List.nil_append, List.length_cons, List.length_nil, ↓mapK, ↓frzK_sl, ↓frzK_agg, ↓frzK_tup, ↓frzK_ifc, ↓frzK_func, ↓frzK_int, ↓frzK_bool, ↓frzK_str, ↓frzK_nilp, ↓frzK_nils, ↓frzK_nilm, ↓frzK_nilf, ↓frzK_nili, ↓frzK_fz, ↓frzK_any, ↓frzK_ptr, ↓frzK_ro, ↓getB, setB, kill, killM, dropK, keysOf, capOf_nn, zeroC, bump, frzT, thaw, gets, putAll, ↓getsK, ↓getR, ↓retK, retv, find, cells, ↓nilpK, ↓nilsK, ↓nilfK, ↓niliK, ↓bndK, ↓cutK, ↓fillK, ↓exitK, List.append_nil, List.drop, List.take, Nat.reduceAdd, Nat.reduceSub, Nat.reduceMul, Nat.reduceLT, Nat.reduceLeDiff, Nat.zero_add, Nat.add_zero, Nat.mul_one, Int.reduceToNat, Nat.reduceEqDiff, Nat.succ_ne_self, Nat.le_refl, Nat.one_ne_zero, Nat.reduceBEq, Nat.lt_irrefl, List.length_append, Int.toNat_zero, Int.toNat_one, List.take_zero, List.drop_zero, Nat.zero_mul, sel, rest, keyIn, ↓reduceIte, ↓if_pos, ↓if_neg, reduceCtorEq, Bool.not_true, Bool.not_false, Bool.false_eq_true, Bool.true_eq_false, and_self, and_true, true_and, false_and, and_false, decide_true, decide_false, decide_eq_true, decide_eq_false, decide_eq_true_eq, decide_eq_false_iff_not, Bool.not_eq_true, Bool.not_eq_false, Bool.not_eq_eq_eq_not, Decidable.not_not, avs_len, Nat.sub_zero, avs_take_all, ↓frz_ints, chunk]
theorem bytesClone_hcalls (φ : Nat) (nx : Ctr) (a : AV) (es : List AV) (c : Option Nat) (hlen : es.length + 1 ≤ 1099511627776) :
    HCalls Try.prog F_bytes_Clone [.fz 1 (a :: es) c] [] nx (.sl φ 7 (nx 7) 1 0 (es.length + 1)) [(φ, 7, nx 7, some (catCells (a :: es)))] (bump nx 7) := by
  have h1 : ¬ (es.length + 1 = 0) := by omega
  have h3 : 0 < es.length + 1 := by omega
  refine hcalls_bytes_Clone φ [(φ, 7)] (walk0 60 trivial (fun A eA => ?_))
  simp only [c_bytes_Clone, ↓advStep, ↓execK, ↓opK, ↓binK, ↓intK, ↓strK, evs, ev, getT, setT, put, List.replicate, List.cons_append, List.nil_append, List.length_cons, List.length_nil, ↓mapK, ↓frzK_sl, ↓frzK_agg, ↓frzK_tup, ↓frzK_ifc, ↓frzK_func, ↓frzK_int, ↓frzK_bool, ↓frzK_str, ↓frzK_nilp, ↓frzK_nils, ↓frzK_nilm, ↓frzK_nilf, ↓frzK_nili, ↓frzK_fz, ↓frzK_any, ↓frzK_ptr, ↓frzK_ro, ↓getB, setB, kill, killM, dropK, keysOf, capOf_nn, zeroC, bump, frzT, thaw, gets, putAll, ↓getsK, ↓getR, ↓retK, retv, find, cells, ↓nilpK, ↓nilsK, ↓nilfK, ↓niliK, ↓bndK, ↓cutK, ↓fillK, ↓exitK, List.append_nil, List.drop, List.take, Nat.reduceAdd, Nat.reduceSub, Nat.reduceMul, Nat.reduceLT, Nat.reduceLeDiff, Nat.zero_add, Nat.add_zero, Nat.mul_one, Int.reduceToNat, Nat.reduceEqDiff, Nat.succ_ne_self, Nat.le_refl, Nat.one_ne_zero, Nat.reduceBEq, Nat.lt_irrefl, List.length_append, Int.toNat_zero, Int.toNat_one, List.take_zero, List.drop_zero, Nat.zero_mul, sel, rest, keyIn, ↓reduceIte, ↓if_pos, ↓if_neg, reduceCtorEq, Bool.not_true, Bool.not_false, Bool.false_eq_true, Bool.true_eq_false, and_self, and_true, true_and, false_and, and_false, decide_true, decide_false, decide_eq_true, decide_eq_false, decide_eq_true_eq, decide_eq_false_iff_not, Bool.not_eq_true, Bool.not_eq_false, Bool.not_eq_eq_eq_not, Decidable.not_not, ↓appK, eA, allSz, h1, hlen, h3, catCells]
  refine doneH ?_ ?_ rfl
  · simp only [↓advStep, ↓execK, ↓opK, ↓binK, ↓intK, ↓strK, evs, ev, getT, setT, put, List.replicate, List.cons_append, List.nil_append, List.length_cons, List.length_nil, ↓mapK, ↓frzK_sl, ↓frzK_agg, ↓frzK_tup, ↓frzK_ifc, ↓frzK_func, ↓frzK_int, ↓frzK_bool, ↓frzK_str, ↓frzK_nilp, ↓frzK_nils, ↓frzK_nilm, ↓frzK_nilf, ↓frzK_nili, ↓frzK_fz, ↓frzK_any, ↓frzK_ptr, ↓frzK_ro, ↓getB, setB, kill, killM, dropK, keysOf, capOf_nn, zeroC, bump, frzT, thaw, gets, putAll, ↓getsK, ↓getR, ↓retK, retv, find, cells, ↓nilpK, ↓nilsK, ↓nilfK, ↓niliK, ↓bndK, ↓cutK, ↓fillK, ↓exitK, List.append_nil, List.drop, List.take, Nat.reduceAdd, Nat.reduceSub, Nat.reduceMul, Nat.reduceLT, Nat.reduceLeDiff, Nat.zero_add, Nat.add_zero, Nat.mul_one, Int.reduceToNat, Nat.reduceEqDiff, Nat.succ_ne_self, Nat.le_refl, Nat.one_ne_zero, Nat.reduceBEq, Nat.lt_irrefl, List.length_append, Int.toNat_zero, Int.toNat_one, List.take_zero, List.drop_zero, Nat.zero_mul, sel, rest, keyIn, ↓reduceIte, ↓if_pos, ↓if_neg, reduceCtorEq, Bool.not_true, Bool.not_false, Bool.false_eq_true, Bool.true_eq_false, and_self, and_true, true_and, false_and, and_false, decide_true, decide_false, decide_eq_true, decide_eq_false, decide_eq_true_eq, decide_eq_false_iff_not, Bool.not_eq_true, Bool.not_eq_false, Bool.not_eq_eq_eq_not, Decidable.not_not]
  · simp only [↓advStep, ↓execK, ↓opK, ↓binK, ↓intK, ↓strK, evs, ev, getT, setT, put, List.replicate, List.cons_append, List.nil_append, List.length_cons, List.length_nil, ↓mapK, ↓frzK_sl, ↓frzK_agg, ↓frzK_tup, ↓frzK_ifc, ↓frzK_func, ↓frzK_int, ↓frzK_bool, ↓frzK_str, ↓frzK_nilp, ↓frzK_nils, ↓frzK_nilm, ↓frzK_nilf, ↓frzK_nili, ↓frzK_fz, ↓frzK_any, ↓frzK_ptr, ↓frzK_ro, ↓getB, setB, kill, killM, dropK, keysOf, capOf_nn, zeroC, bump, frzT, thaw, gets, putAll, ↓getsK, ↓getR, ↓retK, retv, find, cells, ↓nilpK, ↓nilsK, ↓nilfK, ↓niliK, ↓bndK, ↓cutK, ↓fillK, ↓exitK, List.append_nil, List.drop, List.take, Nat.reduceAdd, Nat.reduceSub, Nat.reduceMul, Nat.reduceLT, Nat.reduceLeDiff, Nat.zero_add, Nat.add_zero, Nat.mul_one, Int.reduceToNat, Nat.reduceEqDiff, Nat.succ_ne_self, Nat.le_refl, Nat.one_ne_zero, Nat.reduceBEq, Nat.lt_irrefl, List.length_append, Int.toNat_zero, Int.toNat_one, List.take_zero, List.drop_zero, Nat.zero_mul, sel, rest, keyIn, ↓reduceIte, ↓if_pos, ↓if_neg, reduceCtorEq, Bool.not_true, Bool.not_false, Bool.false_eq_true, Bool.true_eq_false, and_self, and_true, true_and, false_and, and_false, decide_true, decide_false, decide_eq_true, decide_eq_false, decide_eq_true_eq, decide_eq_false_iff_not, Bool.not_eq_true, Bool.not_eq_false, Bool.not_eq_eq_eq_not, Decidable.not_not]
theorem bstr_mk (bs : List Nat) : (⟨(bytesOf (avs bs)).toArray⟩ : ByteArray) = bstr bs := rfl
theorem avs_free (bs : List Nat) (H : Heap) : (avs bs).all (nameFree 9 H) = true := by simp [avs, nameFree]
end Go.Proofs.Ytmokhopjnjecbaa
/- The walk through the net: its parcels, a row of them, copies. -/
-- short
-- fuel 300
namespace Go.Ev
structure Prc where
  n : Int
  b : List Nat
end Go.Ev
namespace Go.Proofs.Ytmokhopjnjecbaa
open Go.Ev
set_option linter.unusedVariables false
set_option linter.unusedSimpArgs false
set_option maxRecDepth 100000
set_option maxHeartbeats 1600000
/-- A parcel, and a row of them. -/
abbrev pav (p : Prc) : AV := .agg [.int .i64 p.n, bv p.b]
def pcs : List Prc → List AV
  | [] => []
  | p :: l => .int .i64 p.n :: bv p.b :: pcs l
abbrev netV (l : List Prc) : AV := .fz 2 (l.map pav) none
theorem pcs_cat : ∀ l : List Prc, catCells (l.map pav) = pcs l
  | [] => rfl
  | p :: l => by simp only [List.map_cons, catCells, cells, pcs, pcs_cat l]; rfl
theorem pcs_len : ∀ l : List Prc, (pcs l).length = l.length * 2
  | [] => rfl
  | p :: l => by simp only [pcs, List.length_cons, pcs_len l]; omega
theorem pcs_app : ∀ a b : List Prc, pcs a ++ pcs b = pcs (a ++ b)
  | [], b => rfl
  | p :: a, b => by simp only [pcs, List.cons_append, pcs_app a b]
theorem pcs_take : ∀ (k : Nat) (l : List Prc), (pcs l).take (k * 2) = pcs (l.take k)
  | 0, l => by simp [pcs]
  | k + 1, [] => by simp [pcs]
  | k + 1, p :: l => by
    rw [show (k + 1) * 2 = k * 2 + 1 + 1 by omega]
    simp only [pcs, List.take_succ_cons, pcs_take k l]
theorem pcs_drop : ∀ (k : Nat) (l : List Prc), (pcs l).drop (k * 2) = pcs (l.drop k)
  | 0, l => by simp
  | k + 1, [] => by simp [pcs]
  | k + 1, p :: l => by
    rw [show (k + 1) * 2 = k * 2 + 1 + 1 by omega]
    simp only [pcs, List.drop_succ_cons, pcs_drop k l]
theorem frz_pcs {α : Type} (n : Nat) (H : Heap) : ∀ (l : List Prc) (ok : List AV → List (Nat × Nat) → α) (bd : α), mapK (frzK (n + 1) H) (pcs l) ok bd = ok (pcs l) []
  | [], ok, bd => rfl
  | p :: l, ok, bd => by
    simp only [pcs, mapK, frzK_int, frzK_fz]
    rw [frz_pcs n H l]; rfl
theorem chunk_pcs : ∀ l : List Prc, chunk 2 l.length (pcs l) = l.map pav := by
  have : ∀ l : List Prc, chunkN 2 l.length (pcs l) = l.map pav := by
    intro l
    induction l with
    | nil => rfl
    | cons p l ih => simp only [List.length_cons, pcs, chunkN, List.take_succ_cons, List.take_zero, List.drop_succ_cons, List.drop_zero, ih, List.map_cons]
  intro l
  simp only [chunk]
  rw [if_neg (by omega)]
  exact this l
theorem pcs_free (H : Heap) : ∀ l : List Prc, (pcs l).all (nameFree 9 H) = true
  | [] => rfl
  | p :: l => by simp only [pcs, List.all_cons, pcs_free H l]; rfl
/-- A row of parcels, frozen. -/
theorem frz_row {α : Type} (n : Nat) (H : Heap) (f d g : Nat) (l : List Prc) (len : Nat) (hl : len = l.length) (h : find H f d = some (g, some (pcs l))) (ok : AV → List (Nat × Nat) → α) (bd : α) : frzK (n + 2) H (.sl f d g 2 0 len) ok bd = ok (netV l) [(f, d)] := by
  subst hl
  rw [frzK_sl, getB_of h]
  rw [if_pos (by rw [pcs_len]; omega)]
  rw [Nat.zero_mul, List.drop_zero, List.take_of_length_le (by rw [pcs_len]; omega), frz_pcs, chunk_pcs]
/-- A row of parcels whose end is known, frozen. -/
theorem frz_row2 {α : Type} (n : Nat) (H : Heap) (f d g : Nat) (l : List Prc) (cs : List AV) (len : Nat) (hl : len = l.length) (hc : cs.take (len * 2) = pcs l) (h : find H f d = some (g, some cs)) (ok : AV → List (Nat × Nat) → α) (bd : α) : frzK (n + 2) H (.sl f d g 2 0 len) ok bd = ok (netV l) [(f, d)] := by
  subst hl
  have h2 : (cs.take (l.length * 2)).length = l.length * 2 := by rw [hc, pcs_len]
  rw [frzK_sl, getB_of h]
  rw [if_pos (by simp only [List.length_take] at h2; omega)]
  rw [Nat.zero_mul, List.drop_zero, hc, frz_pcs, chunk_pcs]
theorem pclone_h (φ : Nat) (p : Prc) (l : List Prc) (c : Option Nat) (hl : l.length + 1 ≤ 100000) (nx : Ctr) : HCalls Try.prog F_slices_Clone_net_Parcel [.fz 2 ((p :: l).map pav) c] [] nx (.sl φ 7 (nx 7) 2 0 (l.length + 1)) [(φ, 7, nx 7, some (pcs (p :: l)))] (bump nx 7) := by
  have h1 : ¬ (l.length + 1 = 0) := by omega
  have e := pcs_cat (p :: l)
  simp only [List.map_cons] at e ⊢
  refine hcalls_slices_Clone_net_Parcel φ [(φ, 7)] (walk0 300 trivial (fun A eA => ?_))
  simp (disch := first | omega | (simp only [avs_len, List.length_cons, List.length_append, List.length_nil, List.length_take, List.length_drop, List.length_map]; omega) | (simp only [cells, scal1, allSz, List.length_cons, List.length_nil, List.length_append, List.length_map, List.all_cons, List.all_nil, avs_len, beq_self_eq_true, Bool.and_self, and_self, or_true, true_or, reduceCtorEq, *]; done) | fail) only [c_slices_Clone_net_Parcel, go_sem, Nat.reduceAdd, Nat.reduceSub, Nat.reduceMul, Nat.reduceLT, Nat.reduceLeDiff, Int.reduceToNat, Nat.reduceEqDiff, Nat.reduceBEq, ↓reduceIte, reduceCtorEq, eA, ↓appK, allSz, h1, List.length_map, e]
  exact doneH (by simp only [go_sem, Nat.reduceAdd, Nat.reduceSub, Nat.reduceMul, Nat.reduceLT, Nat.reduceLeDiff, Int.reduceToNat, Nat.reduceEqDiff, Nat.reduceBEq, ↓reduceIte, reduceCtorEq]; rfl) rfl rfl
theorem pclone_nil (nx : Ctr) : HCalls Try.prog F_slices_Clone_net_Parcel [.nils] [] nx .nils [] nx := by
  refine hcalls_slices_Clone_net_Parcel 1 [] (walk0 300 trivial (fun A eA => ?_))
  simp (disch := first | omega | (simp only [avs_len, List.length_cons, List.length_append, List.length_nil, List.length_take, List.length_drop, List.length_map]; omega) | (simp only [cells, scal1, allSz, List.length_cons, List.length_nil, List.length_append, List.length_map, List.all_cons, List.all_nil, avs_len, beq_self_eq_true, Bool.and_self, and_self, or_true, true_or, reduceCtorEq, *]; done) | fail) only [c_slices_Clone_net_Parcel, go_sem, Nat.reduceAdd, Nat.reduceSub, Nat.reduceMul, Nat.reduceLT, Nat.reduceLeDiff, Int.reduceToNat, Nat.reduceEqDiff, Nat.reduceBEq, ↓reduceIte, reduceCtorEq, eA, ↓appK]
  exact doneH rfl rfl rfl
theorem pclone_none (c : Nat) (nx : Ctr) : HCalls Try.prog F_slices_Clone_net_Parcel [.fz 2 [] (some c)] [] nx (.fz 2 [] (some 0)) [] nx := by
  refine hcalls_slices_Clone_net_Parcel 1 [] (walk0 300 trivial (fun A eA => ?_))
  simp (disch := first | omega | (simp only [avs_len, List.length_cons, List.length_append, List.length_nil, List.length_take, List.length_drop, List.length_map]; omega) | (simp only [cells, scal1, allSz, List.length_cons, List.length_nil, List.length_append, List.length_map, List.all_cons, List.all_nil, avs_len, beq_self_eq_true, Bool.and_self, and_self, or_true, true_or, reduceCtorEq, *]; done) | fail) only [c_slices_Clone_net_Parcel, go_sem, Nat.reduceAdd, Nat.reduceSub, Nat.reduceMul, Nat.reduceLT, Nat.reduceLeDiff, Int.reduceToNat, Nat.reduceEqDiff, Nat.reduceBEq, ↓reduceIte, reduceCtorEq, eA, ↓appK, allSz]
  exact doneH rfl rfl rfl
theorem netClone_calls (p : Prc) (hl : p.b.length ≤ 500) : PCalls Try.prog F_net_clone [pav p] (pav p) := by
  refine calls_net_clone (walk0 300 trivial (fun A eA => ?_))
  simp (disch := first | omega | (simp only [avs_len, List.length_cons, List.length_append, List.length_nil, List.length_take, List.length_drop, List.length_map]; omega) | (simp only [cells, scal1, allSz, List.length_cons, List.length_nil, List.length_append, List.length_map, List.all_cons, List.all_nil, avs_len, beq_self_eq_true, Bool.and_self, and_self, or_true, true_or, reduceCtorEq, *]; done) | fail) only [c_net_clone, go_sem, Nat.reduceAdd, Nat.reduceSub, Nat.reduceMul, Nat.reduceLT, Nat.reduceLeDiff, Int.reduceToNat, Nat.reduceEqDiff, Nat.reduceBEq, ↓reduceIte, reduceCtorEq, eA, scal1]
  refine call2 300 trivial trivial [] rfl rfl ((bytesClone_calls p.b (by omega)).h _ rfl) (.inr ⟨rfl, rfl⟩) (fun A eA => ?_)
  simp (disch := first | omega | (simp only [avs_len, List.length_cons, List.length_append, List.length_nil, List.length_take, List.length_drop, List.length_map]; omega) | (simp only [cells, scal1, allSz, List.length_cons, List.length_nil, List.length_append, List.length_map, List.all_cons, List.all_nil, avs_len, beq_self_eq_true, Bool.and_self, and_self, or_true, true_or, reduceCtorEq, *]; done) | fail) only [c_net_clone, go_sem, Nat.reduceAdd, Nat.reduceSub, Nat.reduceMul, Nat.reduceLT, Nat.reduceLeDiff, Int.reduceToNat, Nat.reduceEqDiff, Nat.reduceBEq, ↓reduceIte, reduceCtorEq, eA, scal1]
  exact doneG rfl
theorem netClone_h (p : Prc) (hl : p.b.length ≤ 500) (hne : p.b ≠ []) (nx : Ctr) : HCalls Try.prog F_net_clone [pav p] [] nx (.agg [.int .i64 p.n, .sl 3 7 (nx 7) 1 0 p.b.length]) [(3, 7, nx 7, some (avs p.b))] (bump (bump nx 2) 7) := by
  obtain ⟨n, b⟩ := p
  cases b with
  | nil => exact absurd rfl hne
  | cons x b =>
    simp only [List.length_cons] at hl
    have hc := bytesClone_hcalls 3 (bump nx 2) (.int .u8 (x : Nat)) (avs b) none (by rw [avs_len]; omega)
    rw [avs_cons', catCells_avs, avs_len] at hc
    refine hcalls_net_clone 2 [(3, 7)] (walk0 300 trivial (fun A eA => ?_))
    simp (disch := first | omega | (simp only [avs_len, List.length_cons, List.length_append, List.length_nil, List.length_take, List.length_drop, List.length_map]; omega) | (simp only [cells, scal1, allSz, List.length_cons, List.length_nil, List.length_append, List.length_map, List.all_cons, List.all_nil, avs_len, beq_self_eq_true, Bool.and_self, and_self, or_true, true_or, reduceCtorEq, *]; done) | fail) only [c_net_clone, go_sem, Nat.reduceAdd, Nat.reduceSub, Nat.reduceMul, Nat.reduceLT, Nat.reduceLeDiff, Int.reduceToNat, Nat.reduceEqDiff, Nat.reduceBEq, ↓reduceIte, reduceCtorEq, eA, scal1]
    refine call2 300 trivial trivial [] rfl rfl hc (.inr ⟨rfl, by simp only [heapFree, avs_free, Bool.and_self]⟩) (fun A eA => ?_)
    simp (disch := first | omega | (simp only [avs_len, List.length_cons, List.length_append, List.length_nil, List.length_take, List.length_drop, List.length_map]; omega) | (simp only [cells, scal1, allSz, List.length_cons, List.length_nil, List.length_append, List.length_map, List.all_cons, List.all_nil, avs_len, beq_self_eq_true, Bool.and_self, and_self, or_true, true_or, reduceCtorEq, *]; done) | fail) only [c_net_clone, go_sem, Nat.reduceAdd, Nat.reduceSub, Nat.reduceMul, Nat.reduceLT, Nat.reduceLeDiff, Int.reduceToNat, Nat.reduceEqDiff, Nat.reduceBEq, ↓reduceIte, reduceCtorEq, eA, scal1, avs_len]
    exact doneH (by simp only [go_sem, Nat.reduceAdd, Nat.reduceSub, Nat.reduceMul, Nat.reduceLT, Nat.reduceLeDiff, Int.reduceToNat, Nat.reduceEqDiff, Nat.reduceBEq, ↓reduceIte, reduceCtorEq]) (by simp only [go_sem, Nat.reduceAdd, Nat.reduceSub, Nat.reduceMul, Nat.reduceLT, Nat.reduceLeDiff, Int.reduceToNat, Nat.reduceEqDiff, Nat.reduceBEq, ↓reduceIte, reduceCtorEq]) rfl
end Go.Proofs.Ytmokhopjnjecbaa
/- The walk through the net: what may be asked for, sending, taking, doubling. -/
-- short
-- fuel 300
namespace Go.Proofs.Ytmokhopjnjecbaa
open Go.Ev
set_option linter.unusedVariables false
set_option linter.unusedSimpArgs false
set_option maxRecDepth 100000
set_option maxHeartbeats 1600000
abbrev nH (l : List Prc) : Heap := [(0, 3, 0, some [netV l])]
theorem there_in (l : List Prc) (k : Int) (h0 : 0 ≤ k) (h1 : k < l.length) (nx : Ctr) : HCalls Try.prog F_net_Net_there [.ptr 0 3 0 0, .int .i64 k] (nH l) nx (.int .i64 0) (nH l) nx := by
  refine hcalls_net_Net_there 1 [(0, 3)] (walk0 300 trivial (fun A eA => ?_))
  simp (disch := first | omega | (simp only [avs_len, List.length_cons, List.length_append, List.length_nil, List.length_take, List.length_drop, List.length_map]; omega) | (simp only [cells, scal1, allSz, List.length_cons, List.length_nil, List.length_append, List.length_map, List.all_cons, List.all_nil, avs_len, beq_self_eq_true, Bool.and_self, and_self, or_true, true_or, reduceCtorEq, *]; done) | fail) only [c_net_Net_there, go_sem, Nat.reduceAdd, Nat.reduceSub, Nat.reduceMul, Nat.reduceLT, Nat.reduceLeDiff, Int.reduceToNat, Nat.reduceEqDiff, Nat.reduceBEq, ↓reduceIte, reduceCtorEq, eA, scal1, List.length_map]
  exact doneH (by simp only [go_sem, Nat.reduceAdd, Nat.reduceSub, Nat.reduceMul, Nat.reduceLT, Nat.reduceLeDiff, Int.reduceToNat, Nat.reduceEqDiff, Nat.reduceBEq, ↓reduceIte, reduceCtorEq]) rfl rfl
theorem there_out (l : List Prc) (k : Int) (h : k < 0 ∨ (l.length : Int) ≤ k) (nx : Ctr) : HCalls Try.prog F_net_Net_there [.ptr 0 3 0 0, .int .i64 k] (nH l) nx (.int .i64 7) (nH l) nx := by
  refine hcalls_net_Net_there 1 [(0, 3)] (walk0 300 trivial (fun A eA => ?_))
  by_cases h0 : k < 0
  · simp (disch := first | omega | (simp only [avs_len, List.length_cons, List.length_append, List.length_nil, List.length_take, List.length_drop, List.length_map]; omega) | (simp only [cells, scal1, allSz, List.length_cons, List.length_nil, List.length_append, List.length_map, List.all_cons, List.all_nil, avs_len, beq_self_eq_true, Bool.and_self, and_self, or_true, true_or, reduceCtorEq, *]; done) | fail) only [c_net_Net_there, go_sem, Nat.reduceAdd, Nat.reduceSub, Nat.reduceMul, Nat.reduceLT, Nat.reduceLeDiff, Int.reduceToNat, Nat.reduceEqDiff, Nat.reduceBEq, ↓reduceIte, reduceCtorEq, eA, scal1, List.length_map]
    exact doneH (by simp only [go_sem, Nat.reduceAdd, Nat.reduceSub, Nat.reduceMul, Nat.reduceLT, Nat.reduceLeDiff, Int.reduceToNat, Nat.reduceEqDiff, Nat.reduceBEq, ↓reduceIte, reduceCtorEq]) rfl rfl
  · have h1 : (l.length : Int) ≤ k := by omega
    simp (disch := first | omega | (simp only [avs_len, List.length_cons, List.length_append, List.length_nil, List.length_take, List.length_drop, List.length_map]; omega) | (simp only [cells, scal1, allSz, List.length_cons, List.length_nil, List.length_append, List.length_map, List.all_cons, List.all_nil, avs_len, beq_self_eq_true, Bool.and_self, and_self, or_true, true_or, reduceCtorEq, *]; done) | fail) only [c_net_Net_there, go_sem, Nat.reduceAdd, Nat.reduceSub, Nat.reduceMul, Nat.reduceLT, Nat.reduceLeDiff, Int.reduceToNat, Nat.reduceEqDiff, Nat.reduceBEq, ↓reduceIte, reduceCtorEq, eA, scal1, List.length_map]
    exact doneH (by simp only [go_sem, Nat.reduceAdd, Nat.reduceSub, Nat.reduceMul, Nat.reduceLT, Nat.reduceLeDiff, Int.reduceToNat, Nat.reduceEqDiff, Nat.reduceBEq, ↓reduceIte, reduceCtorEq]) rfl rfl
theorem len_h (l : List Prc) (nx : Ctr) : HCalls Try.prog F_net_Net_Len [.ptr 0 3 0 0] (nH l) nx (.int .i64 (l.length : Nat)) (nH l) nx := by
  refine hcalls_net_Net_Len 1 [(0, 3)] (walk0 300 trivial (fun A eA => ?_))
  simp (disch := first | omega | (simp only [avs_len, List.length_cons, List.length_append, List.length_nil, List.length_take, List.length_drop, List.length_map]; omega) | (simp only [cells, scal1, allSz, List.length_cons, List.length_nil, List.length_append, List.length_map, List.all_cons, List.all_nil, avs_len, beq_self_eq_true, Bool.and_self, and_self, or_true, true_or, reduceCtorEq, *]; done) | fail) only [c_net_Net_Len, go_sem, Nat.reduceAdd, Nat.reduceSub, Nat.reduceMul, Nat.reduceLT, Nat.reduceLeDiff, Int.reduceToNat, Nat.reduceEqDiff, Nat.reduceBEq, ↓reduceIte, reduceCtorEq, eA, scal1, List.length_map]
  exact doneH (by simp only [go_sem, Nat.reduceAdd, Nat.reduceSub, Nat.reduceMul, Nat.reduceLT, Nat.reduceLeDiff, Int.reduceToNat, Nat.reduceEqDiff, Nat.reduceBEq, ↓reduceIte, reduceCtorEq]) rfl rfl
theorem send_full (l : List Prc) (p : Prc) (h : 40 ≤ l.length) (nx : Ctr) : HCalls Try.prog F_net_Net_Send [.ptr 0 3 0 0, pav p] (nH l) nx (.int .i64 4) (nH l) nx := by
  have h1 : (40 : Int) ≤ l.length := by omega
  refine hcalls_net_Net_Send 1 [(0, 3)] (walk0 300 trivial (fun A eA => ?_))
  simp (disch := first | omega | (simp only [avs_len, List.length_cons, List.length_append, List.length_nil, List.length_take, List.length_drop, List.length_map]; omega) | (simp only [cells, scal1, allSz, List.length_cons, List.length_nil, List.length_append, List.length_map, List.all_cons, List.all_nil, avs_len, beq_self_eq_true, Bool.and_self, and_self, or_true, true_or, reduceCtorEq, *]; done) | fail) only [c_net_Net_Send, go_sem, Nat.reduceAdd, Nat.reduceSub, Nat.reduceMul, Nat.reduceLT, Nat.reduceLeDiff, Int.reduceToNat, Nat.reduceEqDiff, Nat.reduceBEq, ↓reduceIte, reduceCtorEq, eA, scal1, List.length_map, h1]
  exact doneH (by simp only [go_sem, Nat.reduceAdd, Nat.reduceSub, Nat.reduceMul, Nat.reduceLT, Nat.reduceLeDiff, Int.reduceToNat, Nat.reduceEqDiff, Nat.reduceBEq, ↓reduceIte, reduceCtorEq]) rfl rfl
theorem send_ok (l : List Prc) (p : Prc) (h : l.length < 40) (hp : p.b.length ≤ 500) (nx : Ctr) : ∃ nx', HCalls Try.prog F_net_Net_Send [.ptr 0 3 0 0, pav p] (nH l) nx (.int .i64 0) (nH (l ++ [p])) nx' := by
  have cc := netClone_calls p hp
  cases l with
  | nil =>
    refine ⟨bump nx 24, HCalls.nil (pre := []) (post := []) ?_ (fun c => ?_)⟩
    · refine hcalls_net_Net_Send 1 [(0, 3)] (walk0 300 trivial (fun A eA => ?_))
      simp (disch := first | omega | (simp only [avs_len, List.length_cons, List.length_append, List.length_nil, List.length_take, List.length_drop, List.length_map]; omega) | (simp only [cells, scal1, allSz, List.length_cons, List.length_nil, List.length_append, List.length_map, List.all_cons, List.all_nil, avs_len, beq_self_eq_true, Bool.and_self, and_self, or_true, true_or, reduceCtorEq, *]; done) | fail) only [c_net_Net_Send, go_sem, Nat.reduceAdd, Nat.reduceSub, Nat.reduceMul, Nat.reduceLT, Nat.reduceLeDiff, Int.reduceToNat, Nat.reduceEqDiff, Nat.reduceBEq, ↓reduceIte, reduceCtorEq, eA, scal1]
      refine call2 300 trivial trivial [] rfl rfl (pclone_nil nx) (.inr ⟨rfl, rfl⟩) (fun A eA => ?_)
      simp (disch := first | omega | (simp only [avs_len, List.length_cons, List.length_append, List.length_nil, List.length_take, List.length_drop, List.length_map]; omega) | (simp only [cells, scal1, allSz, List.length_cons, List.length_nil, List.length_append, List.length_map, List.all_cons, List.all_nil, avs_len, beq_self_eq_true, Bool.and_self, and_self, or_true, true_or, reduceCtorEq, *]; done) | fail) only [c_net_Net_Send, go_sem, Nat.reduceAdd, Nat.reduceSub, Nat.reduceMul, Nat.reduceLT, Nat.reduceLeDiff, Int.reduceToNat, Nat.reduceEqDiff, Nat.reduceBEq, ↓reduceIte, reduceCtorEq, eA, scal1]
      refine call0 300 trivial trivial cc (.inl rfl) (fun A eA => ?_)
      simp (disch := first | omega | (simp only [avs_len, List.length_cons, List.length_append, List.length_nil, List.length_take, List.length_drop, List.length_map]; omega) | (simp only [cells, scal1, allSz, List.length_cons, List.length_nil, List.length_append, List.length_map, List.all_cons, List.all_nil, avs_len, beq_self_eq_true, Bool.and_self, and_self, or_true, true_or, reduceCtorEq, *]; done) | fail) only [c_net_Net_Send, go_sem, Nat.reduceAdd, Nat.reduceSub, Nat.reduceMul, Nat.reduceLT, Nat.reduceLeDiff, Int.reduceToNat, Nat.reduceEqDiff, Nat.reduceBEq, ↓reduceIte, reduceCtorEq, eA, scal1, ↓appK, allSz, List.all_cons, List.all_nil, Bool.and_self, beq_self_eq_true, catCells]
      exact doneH (by simp only [go_sem, Nat.reduceAdd, Nat.reduceSub, Nat.reduceMul, Nat.reduceLT, Nat.reduceLeDiff, Int.reduceToNat, Nat.reduceEqDiff, Nat.reduceBEq, ↓reduceIte, reduceCtorEq]; rfl) rfl rfl
    · refine hcalls_net_Net_Send 1 [(0, 3)] (walk0 300 trivial (fun A eA => ?_))
      simp (disch := first | omega | (simp only [avs_len, List.length_cons, List.length_append, List.length_nil, List.length_take, List.length_drop, List.length_map]; omega) | (simp only [cells, scal1, allSz, List.length_cons, List.length_nil, List.length_append, List.length_map, List.all_cons, List.all_nil, avs_len, beq_self_eq_true, Bool.and_self, and_self, or_true, true_or, reduceCtorEq, *]; done) | fail) only [c_net_Net_Send, go_sem, Nat.reduceAdd, Nat.reduceSub, Nat.reduceMul, Nat.reduceLT, Nat.reduceLeDiff, Int.reduceToNat, Nat.reduceEqDiff, Nat.reduceBEq, ↓reduceIte, reduceCtorEq, eA, scal1]
      refine call2 300 trivial trivial [] rfl rfl (pclone_none c nx) (.inr ⟨rfl, rfl⟩) (fun A eA => ?_)
      simp (disch := first | omega | (simp only [avs_len, List.length_cons, List.length_append, List.length_nil, List.length_take, List.length_drop, List.length_map]; omega) | (simp only [cells, scal1, allSz, List.length_cons, List.length_nil, List.length_append, List.length_map, List.all_cons, List.all_nil, avs_len, beq_self_eq_true, Bool.and_self, and_self, or_true, true_or, reduceCtorEq, *]; done) | fail) only [c_net_Net_Send, go_sem, Nat.reduceAdd, Nat.reduceSub, Nat.reduceMul, Nat.reduceLT, Nat.reduceLeDiff, Int.reduceToNat, Nat.reduceEqDiff, Nat.reduceBEq, ↓reduceIte, reduceCtorEq, eA, scal1]
      refine call0 300 trivial trivial cc (.inl rfl) (fun A eA => ?_)
      simp (disch := first | omega | (simp only [avs_len, List.length_cons, List.length_append, List.length_nil, List.length_take, List.length_drop, List.length_map]; omega) | (simp only [cells, scal1, allSz, List.length_cons, List.length_nil, List.length_append, List.length_map, List.all_cons, List.all_nil, avs_len, beq_self_eq_true, Bool.and_self, and_self, or_true, true_or, reduceCtorEq, *]; done) | fail) only [c_net_Net_Send, go_sem, Nat.reduceAdd, Nat.reduceSub, Nat.reduceMul, Nat.reduceLT, Nat.reduceLeDiff, Int.reduceToNat, Nat.reduceEqDiff, Nat.reduceBEq, ↓reduceIte, reduceCtorEq, eA, scal1, ↓appK, allSz, List.all_cons, List.all_nil, Bool.and_self, beq_self_eq_true, catCells]
      exact doneH (by simp only [go_sem, Nat.reduceAdd, Nat.reduceSub, Nat.reduceMul, Nat.reduceLT, Nat.reduceLeDiff, Int.reduceToNat, Nat.reduceEqDiff, Nat.reduceBEq, ↓reduceIte, reduceCtorEq]; rfl) rfl rfl
  | cons p0 l =>
    have h' : l.length + 1 < 40 := h
    have hlen := pcs_len (p0 :: l)
    simp only [List.length_cons] at hlen
    have hap : pcs (p0 :: l) ++ [.int .i64 p.n, bv p.b] = pcs ((p0 :: l) ++ [p]) := pcs_app (p0 :: l) [p]
    have hT : (pcs (p0 :: (l ++ [p]))).take ((l.length + 1 + 1) * 2) = pcs (p0 :: (l ++ [p])) := List.take_of_length_le (by rw [pcs_len]; simp)
    have hL2 : (pcs (p0 :: (l ++ [p]))).length = (l.length + 1 + 1) * 2 := by rw [pcs_len]; simp
    have hC : chunk 2 (l.length + 1 + 1) (pcs (p0 :: (l ++ [p]))) = (p0 :: (l ++ [p])).map pav := by
      have := chunk_pcs (p0 :: (l ++ [p])); rwa [show (p0 :: (l ++ [p])).length = l.length + 1 + 1 by simp] at this
    refine ⟨bump (bump nx 7) 7, ?_⟩
    refine hcalls_net_Net_Send 1 [(0, 3)] (walk0 300 trivial (fun A eA => ?_))
    simp (disch := first | omega | (simp only [avs_len, List.length_cons, List.length_append, List.length_nil, List.length_take, List.length_drop, List.length_map]; omega) | (simp only [cells, scal1, allSz, List.length_cons, List.length_nil, List.length_append, List.length_map, List.all_cons, List.all_nil, avs_len, beq_self_eq_true, Bool.and_self, and_self, or_true, true_or, reduceCtorEq, *]; done) | fail) only [c_net_Net_Send, go_sem, Nat.reduceAdd, Nat.reduceSub, Nat.reduceMul, Nat.reduceLT, Nat.reduceLeDiff, Int.reduceToNat, Nat.reduceEqDiff, Nat.reduceBEq, ↓reduceIte, reduceCtorEq, eA, scal1, List.length_map]
    refine call2 300 trivial trivial [] rfl rfl (pclone_h 2 p0 l none (by omega) nx) (.inr ⟨rfl, by simp only [heapFree, pcs_free, Bool.and_self]⟩) (fun A eA => ?_)
    simp (disch := first | omega | (simp only [avs_len, List.length_cons, List.length_append, List.length_nil, List.length_take, List.length_drop, List.length_map]; omega) | (simp only [cells, scal1, allSz, List.length_cons, List.length_nil, List.length_append, List.length_map, List.all_cons, List.all_nil, avs_len, beq_self_eq_true, Bool.and_self, and_self, or_true, true_or, reduceCtorEq, *]; done) | fail) only [c_net_Net_Send, go_sem, Nat.reduceAdd, Nat.reduceSub, Nat.reduceMul, Nat.reduceLT, Nat.reduceLeDiff, Int.reduceToNat, Nat.reduceEqDiff, Nat.reduceBEq, ↓reduceIte, reduceCtorEq, eA, scal1]
    refine call0 300 trivial trivial cc (.inl rfl) (fun A eA => ?_)
    simp (disch := first | omega | (simp only [avs_len, List.length_cons, List.length_append, List.length_nil, List.length_take, List.length_drop, List.length_map]; omega) | (simp only [cells, scal1, allSz, List.length_cons, List.length_nil, List.length_append, List.length_map, List.all_cons, List.all_nil, avs_len, beq_self_eq_true, Bool.and_self, and_self, or_true, true_or, reduceCtorEq, *]; done) | fail) only [c_net_Net_Send, go_sem, Nat.reduceAdd, Nat.reduceSub, Nat.reduceMul, Nat.reduceLT, Nat.reduceLeDiff, Int.reduceToNat, Nat.reduceEqDiff, Nat.reduceBEq, ↓reduceIte, reduceCtorEq, eA, scal1, ↓appK, allSz, List.all_cons, List.all_nil, Bool.and_self, beq_self_eq_true, catCells, hlen, hap, hL2, hT, hC, ↓frz_pcs]
    exact doneH (by simp only [go_sem, Nat.reduceAdd, Nat.reduceSub, Nat.reduceMul, Nat.reduceLT, Nat.reduceLeDiff, Int.reduceToNat, Nat.reduceEqDiff, Nat.reduceBEq, ↓reduceIte, reduceCtorEq]) rfl rfl
theorem del_h (A0 B0 : List Prc) (q : Prc) (h : (A0 ++ q :: B0).length ≤ 1000) (g : Nat) (nx : Ctr) : HCalls Try.prog F_slices_Delete_net_Parcel [.sl 2 7 g 2 0 (A0 ++ q :: B0).length, .int .i64 (A0.length : Nat), .int .i64 ((A0.length + 1 : Nat) : Int)] [(2, 7, g, some (pcs (A0 ++ q :: B0)))] nx
    (.sl 2 7 g 2 0 (A0 ++ B0).length) [(2, 7, g, some (pcs (A0 ++ B0)))] nx := by
  have hlen := pcs_len (A0 ++ q :: B0)
  obtain ⟨N, hN⟩ : ∃ N, N = (A0 ++ q :: B0).length := ⟨_, rfl⟩
  obtain ⟨L, hL⟩ : ∃ L, L = pcs (A0 ++ q :: B0) := ⟨_, rfl⟩
  have hN2 : N = A0.length + B0.length + 1 := by rw [hN]; simp; omega
  have hr : (A0 ++ B0).length = A0.length + B0.length := by simp
  have t1 : L.take (A0.length * 2) = pcs A0 := by rw [hL, pcs_take]; simp
  have t2 : (L.drop ((A0.length + 1) * 2)).take (B0.length * 2) = pcs B0 := by rw [hL, pcs_drop, pcs_take]; simp
  have t3 : ((pcs A0 ++ pcs B0) ++ L.drop ((A0.length + B0.length) * 2)).take ((A0.length + B0.length) * 2) = pcs (A0 ++ B0) := by
    rw [pcs_app, List.take_append_of_le_length (by rw [pcs_len, hr]; omega), List.take_of_length_le (by rw [pcs_len, hr]; omega)]
  have t4 : ((pcs A0 ++ pcs B0) ++ L.drop ((A0.length + B0.length) * 2)).length = (A0.length + B0.length + 1) * 2 := by
    simp only [List.length_append, List.length_drop, pcs_len, hL]
    simp; omega
  rw [← hN] at hlen h
  rw [← hN, ← hL, hr]
  rw [← hL] at hlen
  have d1 : L.length / 2 = N := by omega
  have d2 : (A0.length + B0.length + 1) * 2 / 2 = A0.length + B0.length + 1 := by omega
  have m1 : max N N = N := by omega
  have m2 : max (A0.length + B0.length) (A0.length + B0.length + 1) = A0.length + B0.length + 1 := by omega
  have e1 : N - (A0.length + 1) = B0.length := by omega
  refine hcalls_slices_Delete_net_Parcel 1 [(2, 7)] (walk0 300 trivial (fun A eA => ?_))
  simp (disch := first | omega | (simp only [avs_len, List.length_cons, List.length_append, List.length_nil, List.length_take, List.length_drop, List.length_map]; omega) | (simp only [cells, scal1, allSz, List.length_cons, List.length_nil, List.length_append, List.length_map, List.all_cons, List.all_nil, avs_len, beq_self_eq_true, Bool.and_self, and_self, or_true, true_or, reduceCtorEq, *]; done) | fail) only [c_slices_Delete_net_Parcel, go_sem, Nat.reduceAdd, Nat.reduceSub, Nat.reduceMul, Nat.reduceLT, Nat.reduceLeDiff, Int.reduceToNat, Nat.reduceEqDiff, Nat.reduceBEq, ↓reduceIte, reduceCtorEq, eA, scal1, ↓appK, d1, d2, m1, m2, e1, t1, t2, t3, t4, hlen, Int.toNat_natCast, Nat.sub_zero]
  exact doneH (by simp only [go_sem, Nat.reduceAdd, Nat.reduceSub, Nat.reduceMul, Nat.reduceLT, Nat.reduceLeDiff, Int.reduceToNat, Nat.reduceEqDiff, Nat.reduceBEq, ↓reduceIte, reduceCtorEq]) rfl rfl
theorem take_none (l : List Prc) (k : Int) (h : k < 0 ∨ (l.length : Int) ≤ k) (nx : Ctr) : ∃ nx', HCalls Try.prog F_net_Net_Take [.ptr 0 3 0 0, .int .i64 k] (nH l) nx (.tup [pav ⟨0, []⟩, .int .i64 7]) (nH l) nx' := by
  refine ⟨bump nx 4, ?_⟩
  have hw : Wk1 (.tup [.agg [.int .i64 0, .nils], .int .i64 7]) (.tup [pav ⟨0, []⟩, .int .i64 7]) := by
    refine Wk1.tup rfl (fun j x y hx hy => ?_)
    match j, hx, hy with
    | 0, hx, hy =>
      simp at hx hy; subst hx hy
      refine Wk1.agg rfl (fun j x y hx hy => ?_)
      match j, hx, hy with
      | 0, hx, hy => simp at hx hy; subst hx hy; exact Wk1.refl _
      | 1, hx, hy => simp at hx hy; subst hx hy; exact Wk1.nils 1
      | j + 2, hx, hy => simp at hx
    | 1, hx, hy => simp at hx hy; subst hx hy; exact Wk1.refl _
    | j + 2, hx, hy => simp at hx
  refine HCalls.wk ?_ hw
  refine hcalls_net_Net_Take 1 [(0, 3)] (walk0 300 trivial (fun A eA => ?_))
  simp (disch := first | omega | (simp only [avs_len, List.length_cons, List.length_append, List.length_nil, List.length_take, List.length_drop, List.length_map]; omega) | (simp only [cells, scal1, allSz, List.length_cons, List.length_nil, List.length_append, List.length_map, List.all_cons, List.all_nil, avs_len, beq_self_eq_true, Bool.and_self, and_self, or_true, true_or, reduceCtorEq, *]; done) | fail) only [c_net_Net_Take, go_sem, Nat.reduceAdd, Nat.reduceSub, Nat.reduceMul, Nat.reduceLT, Nat.reduceLeDiff, Int.reduceToNat, Nat.reduceEqDiff, Nat.reduceBEq, ↓reduceIte, reduceCtorEq, eA, scal1]
  refine call2 300 trivial trivial [(0, 3)] rfl rfl (there_out l k h _) (.inr ⟨rfl, rfl⟩) (fun A eA => ?_)
  simp (disch := first | omega | (simp only [avs_len, List.length_cons, List.length_append, List.length_nil, List.length_take, List.length_drop, List.length_map]; omega) | (simp only [cells, scal1, allSz, List.length_cons, List.length_nil, List.length_append, List.length_map, List.all_cons, List.all_nil, avs_len, beq_self_eq_true, Bool.and_self, and_self, or_true, true_or, reduceCtorEq, *]; done) | fail) only [c_net_Net_Take, go_sem, Nat.reduceAdd, Nat.reduceSub, Nat.reduceMul, Nat.reduceLT, Nat.reduceLeDiff, Int.reduceToNat, Nat.reduceEqDiff, Nat.reduceBEq, ↓reduceIte, reduceCtorEq, eA, scal1, List.all_cons, List.all_nil, Bool.and_self]
  exact doneH (by simp only [go_sem, Nat.reduceAdd, Nat.reduceSub, Nat.reduceMul, Nat.reduceLT, Nat.reduceLeDiff, Int.reduceToNat, Nat.reduceEqDiff, Nat.reduceBEq, ↓reduceIte, reduceCtorEq]) (by simp only [go_sem, Nat.reduceAdd, Nat.reduceSub, Nat.reduceMul, Nat.reduceLT, Nat.reduceLeDiff, Int.reduceToNat, Nat.reduceEqDiff, Nat.reduceBEq, ↓reduceIte, reduceCtorEq]) rfl
theorem take_ok (A0 B0 : List Prc) (q : Prc) (h : (A0 ++ q :: B0).length ≤ 1000) (hq : q.b.length ≤ 500) (nx : Ctr) : ∃ nx', HCalls Try.prog F_net_Net_Take [.ptr 0 3 0 0, .int .i64 (A0.length : Nat)] (nH (A0 ++ q :: B0)) nx (.tup [pav q, .int .i64 0]) (nH (A0 ++ B0)) nx' := by
  have hlen : (A0 ++ q :: B0).length = A0.length + B0.length + 1 := by simp; omega
  obtain ⟨p0, l0, hl0⟩ : ∃ p0 l0, A0 ++ q :: B0 = p0 :: l0 := by cases A0 <;> exact ⟨_, _, rfl⟩
  have hl1 : l0.length + 1 = (A0 ++ q :: B0).length := by rw [hl0]; rfl
  have cl := pclone_h 2 p0 l0 none (by omega) (bump (bump nx 4) 7)
  rw [hl1, ← hl0] at cl
  have g1 : ((A0 ++ q :: B0).map pav)[((A0.length : Nat) : Int).toNat]? = some (pav q) := by
    rw [Int.toNat_natCast, List.getElem?_map, List.getElem?_append_right (Nat.le_refl _), Nat.sub_self]; rfl
  have e1 : IntKind.i64.wrap ((A0.length : Int) + 1) = ((A0.length + 1 : Nat) : Int) := by rw [wrap64 (by omega) (by omega)]; omega
  have hT : (pcs (A0 ++ B0)).take ((A0.length + B0.length) * 2) = pcs (A0 ++ B0) := List.take_of_length_le (by rw [pcs_len]; simp)
  have hL2 : (pcs (A0 ++ B0)).length = (A0.length + B0.length) * 2 := by rw [pcs_len]; simp
  have hC : chunk 2 (A0.length + B0.length) (pcs (A0 ++ B0)) = (A0 ++ B0).map pav := by
    have := chunk_pcs (A0 ++ B0); rwa [show (A0 ++ B0).length = A0.length + B0.length by simp] at this
  have cd2 := fun g nx => del_h A0 B0 q h g nx
  simp only [List.length_append, List.length_cons] at cl cd2
  have k1 : ¬ ((A0.length : Int) < 0) := by omega
  refine ⟨bump (bump (bump nx 4) 7) 7, ?_⟩
  refine hcalls_net_Net_Take 1 [(0, 3)] (walk0 300 trivial (fun A eA => ?_))
  simp (disch := first | omega | (simp only [avs_len, List.length_cons, List.length_append, List.length_nil, List.length_take, List.length_drop, List.length_map]; omega) | (simp only [cells, scal1, allSz, List.length_cons, List.length_nil, List.length_append, List.length_map, List.all_cons, List.all_nil, avs_len, beq_self_eq_true, Bool.and_self, and_self, or_true, true_or, reduceCtorEq, *]; done) | fail) only [c_net_Net_Take, go_sem, Nat.reduceAdd, Nat.reduceSub, Nat.reduceMul, Nat.reduceLT, Nat.reduceLeDiff, Int.reduceToNat, Nat.reduceEqDiff, Nat.reduceBEq, ↓reduceIte, reduceCtorEq, eA, scal1]
  refine call2 300 trivial trivial [(0, 3)] rfl rfl (there_in _ _ (by omega) (by omega) _) (.inr ⟨rfl, rfl⟩) (fun A eA => ?_)
  simp (disch := first | omega | (simp only [avs_len, List.length_cons, List.length_append, List.length_nil, List.length_take, List.length_drop, List.length_map]; omega) | (simp only [cells, scal1, allSz, List.length_cons, List.length_nil, List.length_append, List.length_map, List.all_cons, List.all_nil, avs_len, beq_self_eq_true, Bool.and_self, and_self, or_true, true_or, reduceCtorEq, *]; done) | fail) only [c_net_Net_Take, go_sem, Nat.reduceAdd, Nat.reduceSub, Nat.reduceMul, Nat.reduceLT, Nat.reduceLeDiff, Int.reduceToNat, Nat.reduceEqDiff, Nat.reduceBEq, ↓reduceIte, reduceCtorEq, eA, scal1, List.all_cons, List.all_nil, Bool.and_self, ↓optI_of g1, k1]
  refine call0 300 trivial trivial (netClone_calls q hq) (.inl rfl) (fun A eA => ?_)
  simp (disch := first | omega | (simp only [avs_len, List.length_cons, List.length_append, List.length_nil, List.length_take, List.length_drop, List.length_map]; omega) | (simp only [cells, scal1, allSz, List.length_cons, List.length_nil, List.length_append, List.length_map, List.all_cons, List.all_nil, avs_len, beq_self_eq_true, Bool.and_self, and_self, or_true, true_or, reduceCtorEq, *]; done) | fail) only [c_net_Net_Take, go_sem, Nat.reduceAdd, Nat.reduceSub, Nat.reduceMul, Nat.reduceLT, Nat.reduceLeDiff, Int.reduceToNat, Nat.reduceEqDiff, Nat.reduceBEq, ↓reduceIte, reduceCtorEq, eA, scal1, List.all_cons, List.all_nil, Bool.and_self]
  refine call2 300 trivial trivial [] rfl rfl cl (.inr ⟨rfl, by simp only [heapFree, pcs_free, Bool.and_self]⟩) (fun A eA => ?_)
  simp (disch := first | omega | (simp only [avs_len, List.length_cons, List.length_append, List.length_nil, List.length_take, List.length_drop, List.length_map]; omega) | (simp only [cells, scal1, allSz, List.length_cons, List.length_nil, List.length_append, List.length_map, List.all_cons, List.all_nil, avs_len, beq_self_eq_true, Bool.and_self, and_self, or_true, true_or, reduceCtorEq, *]; done) | fail) only [c_net_Net_Take, go_sem, Nat.reduceAdd, Nat.reduceSub, Nat.reduceMul, Nat.reduceLT, Nat.reduceLeDiff, Int.reduceToNat, Nat.reduceEqDiff, Nat.reduceBEq, ↓reduceIte, reduceCtorEq, eA, scal1, e1]
  refine call2 300 trivial trivial [(2, 7)] rfl rfl (cd2 (nx 7 + 1) _) (.inr ⟨rfl, by simp only [heapFree, pcs_free, Bool.and_self]⟩) (fun A eA => ?_)
  simp (disch := first | omega | (simp only [avs_len, List.length_cons, List.length_append, List.length_nil, List.length_take, List.length_drop, List.length_map]; omega) | (simp only [cells, scal1, allSz, List.length_cons, List.length_nil, List.length_append, List.length_map, List.all_cons, List.all_nil, avs_len, beq_self_eq_true, Bool.and_self, and_self, or_true, true_or, reduceCtorEq, *]; done) | fail) only [c_net_Net_Take, go_sem, Nat.reduceAdd, Nat.reduceSub, Nat.reduceMul, Nat.reduceLT, Nat.reduceLeDiff, Int.reduceToNat, Nat.reduceEqDiff, Nat.reduceBEq, ↓reduceIte, reduceCtorEq, eA, scal1, List.all_cons, List.all_nil, Bool.and_self, hL2, hT, hC, ↓frz_pcs]
  exact doneH rfl (by simp only [go_sem, Nat.reduceAdd, Nat.reduceSub, Nat.reduceMul, Nat.reduceLT, Nat.reduceLeDiff, Int.reduceToNat, Nat.reduceEqDiff, Nat.reduceBEq, ↓reduceIte, reduceCtorEq]) rfl
theorem double_none (l : List Prc) (k : Int) (h : k < 0 ∨ (l.length : Int) ≤ k) (nx : Ctr) : HCalls Try.prog F_net_Net_Double [.ptr 0 3 0 0, .int .i64 k] (nH l) nx (.int .i64 7) (nH l) nx := by
  refine hcalls_net_Net_Double 1 [(0, 3)] (walk0 300 trivial (fun A eA => ?_))
  simp (disch := first | omega | (simp only [avs_len, List.length_cons, List.length_append, List.length_nil, List.length_take, List.length_drop, List.length_map]; omega) | (simp only [cells, scal1, allSz, List.length_cons, List.length_nil, List.length_append, List.length_map, List.all_cons, List.all_nil, avs_len, beq_self_eq_true, Bool.and_self, and_self, or_true, true_or, reduceCtorEq, *]; done) | fail) only [c_net_Net_Double, go_sem, Nat.reduceAdd, Nat.reduceSub, Nat.reduceMul, Nat.reduceLT, Nat.reduceLeDiff, Int.reduceToNat, Nat.reduceEqDiff, Nat.reduceBEq, ↓reduceIte, reduceCtorEq, eA, scal1]
  refine call2 300 trivial trivial [(0, 3)] rfl rfl (there_out l k h _) (.inl rfl) (fun A eA => ?_)
  simp (disch := first | omega | (simp only [avs_len, List.length_cons, List.length_append, List.length_nil, List.length_take, List.length_drop, List.length_map]; omega) | (simp only [cells, scal1, allSz, List.length_cons, List.length_nil, List.length_append, List.length_map, List.all_cons, List.all_nil, avs_len, beq_self_eq_true, Bool.and_self, and_self, or_true, true_or, reduceCtorEq, *]; done) | fail) only [c_net_Net_Double, go_sem, Nat.reduceAdd, Nat.reduceSub, Nat.reduceMul, Nat.reduceLT, Nat.reduceLeDiff, Int.reduceToNat, Nat.reduceEqDiff, Nat.reduceBEq, ↓reduceIte, reduceCtorEq, eA, scal1]
  exact doneH (by simp only [go_sem, Nat.reduceAdd, Nat.reduceSub, Nat.reduceMul, Nat.reduceLT, Nat.reduceLeDiff, Int.reduceToNat, Nat.reduceEqDiff, Nat.reduceBEq, ↓reduceIte, reduceCtorEq]) rfl rfl
theorem double_full (A0 B0 : List Prc) (q : Prc) (h : 40 ≤ (A0 ++ q :: B0).length) (nx : Ctr) : HCalls Try.prog F_net_Net_Double [.ptr 0 3 0 0, .int .i64 (A0.length : Nat)] (nH (A0 ++ q :: B0)) nx (.int .i64 4) (nH (A0 ++ q :: B0)) nx := by
  have hlen : (A0 ++ q :: B0).length = A0.length + B0.length + 1 := by simp; omega
  have g1 : ((A0 ++ q :: B0).map pav)[((A0.length : Nat) : Int).toNat]? = some (pav q) := by
    rw [Int.toNat_natCast, List.getElem?_map, List.getElem?_append_right (Nat.le_refl _), Nat.sub_self]; rfl
  have k1 : ¬ ((A0.length : Int) < 0) := by omega
  refine hcalls_net_Net_Double 1 [(0, 3)] (walk0 300 trivial (fun A eA => ?_))
  simp (disch := first | omega | (simp only [avs_len, List.length_cons, List.length_append, List.length_nil, List.length_take, List.length_drop, List.length_map]; omega) | (simp only [cells, scal1, allSz, List.length_cons, List.length_nil, List.length_append, List.length_map, List.all_cons, List.all_nil, avs_len, beq_self_eq_true, Bool.and_self, and_self, or_true, true_or, reduceCtorEq, *]; done) | fail) only [c_net_Net_Double, go_sem, Nat.reduceAdd, Nat.reduceSub, Nat.reduceMul, Nat.reduceLT, Nat.reduceLeDiff, Int.reduceToNat, Nat.reduceEqDiff, Nat.reduceBEq, ↓reduceIte, reduceCtorEq, eA, scal1]
  refine call2 300 trivial trivial [(0, 3)] rfl rfl (there_in _ _ (by omega) (by omega) _) (.inl rfl) (fun A eA => ?_)
  simp (disch := first | omega | (simp only [avs_len, List.length_cons, List.length_append, List.length_nil, List.length_take, List.length_drop, List.length_map]; omega) | (simp only [cells, scal1, allSz, List.length_cons, List.length_nil, List.length_append, List.length_map, List.all_cons, List.all_nil, avs_len, beq_self_eq_true, Bool.and_self, and_self, or_true, true_or, reduceCtorEq, *]; done) | fail) only [c_net_Net_Double, go_sem, Nat.reduceAdd, Nat.reduceSub, Nat.reduceMul, Nat.reduceLT, Nat.reduceLeDiff, Int.reduceToNat, Nat.reduceEqDiff, Nat.reduceBEq, ↓reduceIte, reduceCtorEq, eA, scal1, ↓optI_of g1, k1]
  refine call2 300 trivial trivial [(0, 3)] rfl rfl (send_full _ q h _) (.inl rfl) (fun A eA => ?_)
  simp (disch := first | omega | (simp only [avs_len, List.length_cons, List.length_append, List.length_nil, List.length_take, List.length_drop, List.length_map]; omega) | (simp only [cells, scal1, allSz, List.length_cons, List.length_nil, List.length_append, List.length_map, List.all_cons, List.all_nil, avs_len, beq_self_eq_true, Bool.and_self, and_self, or_true, true_or, reduceCtorEq, *]; done) | fail) only [c_net_Net_Double, go_sem, Nat.reduceAdd, Nat.reduceSub, Nat.reduceMul, Nat.reduceLT, Nat.reduceLeDiff, Int.reduceToNat, Nat.reduceEqDiff, Nat.reduceBEq, ↓reduceIte, reduceCtorEq, eA, scal1]
  exact doneH (by simp only [go_sem, Nat.reduceAdd, Nat.reduceSub, Nat.reduceMul, Nat.reduceLT, Nat.reduceLeDiff, Int.reduceToNat, Nat.reduceEqDiff, Nat.reduceBEq, ↓reduceIte, reduceCtorEq]) rfl rfl
theorem double_ok (A0 B0 : List Prc) (q : Prc) (h : (A0 ++ q :: B0).length < 40) (hq : q.b.length ≤ 500) (nx : Ctr) : ∃ nx', HCalls Try.prog F_net_Net_Double [.ptr 0 3 0 0, .int .i64 (A0.length : Nat)] (nH (A0 ++ q :: B0)) nx (.int .i64 0) (nH ((A0 ++ q :: B0) ++ [q])) nx' := by
  have hlen : (A0 ++ q :: B0).length = A0.length + B0.length + 1 := by simp; omega
  have g1 : ((A0 ++ q :: B0).map pav)[((A0.length : Nat) : Int).toNat]? = some (pav q) := by
    rw [Int.toNat_natCast, List.getElem?_map, List.getElem?_append_right (Nat.le_refl _), Nat.sub_self]; rfl
  have k1 : ¬ ((A0.length : Int) < 0) := by omega
  obtain ⟨nx', hs⟩ := send_ok _ q h hq nx
  refine ⟨nx', ?_⟩
  refine hcalls_net_Net_Double 1 [(0, 3)] (walk0 300 trivial (fun A eA => ?_))
  simp (disch := first | omega | (simp only [avs_len, List.length_cons, List.length_append, List.length_nil, List.length_take, List.length_drop, List.length_map]; omega) | (simp only [cells, scal1, allSz, List.length_cons, List.length_nil, List.length_append, List.length_map, List.all_cons, List.all_nil, avs_len, beq_self_eq_true, Bool.and_self, and_self, or_true, true_or, reduceCtorEq, *]; done) | fail) only [c_net_Net_Double, go_sem, Nat.reduceAdd, Nat.reduceSub, Nat.reduceMul, Nat.reduceLT, Nat.reduceLeDiff, Int.reduceToNat, Nat.reduceEqDiff, Nat.reduceBEq, ↓reduceIte, reduceCtorEq, eA, scal1]
  refine call2 300 trivial trivial [(0, 3)] rfl rfl (there_in _ _ (by omega) (by omega) _) (.inl rfl) (fun A eA => ?_)
  simp (disch := first | omega | (simp only [avs_len, List.length_cons, List.length_append, List.length_nil, List.length_take, List.length_drop, List.length_map]; omega) | (simp only [cells, scal1, allSz, List.length_cons, List.length_nil, List.length_append, List.length_map, List.all_cons, List.all_nil, avs_len, beq_self_eq_true, Bool.and_self, and_self, or_true, true_or, reduceCtorEq, *]; done) | fail) only [c_net_Net_Double, go_sem, Nat.reduceAdd, Nat.reduceSub, Nat.reduceMul, Nat.reduceLT, Nat.reduceLeDiff, Int.reduceToNat, Nat.reduceEqDiff, Nat.reduceBEq, ↓reduceIte, reduceCtorEq, eA, scal1, ↓optI_of g1, k1]
  refine call2 300 trivial trivial [(0, 3)] rfl rfl hs (.inl rfl) (fun A eA => ?_)
  simp (disch := first | omega | (simp only [avs_len, List.length_cons, List.length_append, List.length_nil, List.length_take, List.length_drop, List.length_map]; omega) | (simp only [cells, scal1, allSz, List.length_cons, List.length_nil, List.length_append, List.length_map, List.all_cons, List.all_nil, avs_len, beq_self_eq_true, Bool.and_self, and_self, or_true, true_or, reduceCtorEq, *]; done) | fail) only [c_net_Net_Double, go_sem, Nat.reduceAdd, Nat.reduceSub, Nat.reduceMul, Nat.reduceLT, Nat.reduceLeDiff, Int.reduceToNat, Nat.reduceEqDiff, Nat.reduceBEq, ↓reduceIte, reduceCtorEq, eA, scal1]
  exact doneH (by simp only [go_sem, Nat.reduceAdd, Nat.reduceSub, Nat.reduceMul, Nat.reduceLT, Nat.reduceLeDiff, Int.reduceToNat, Nat.reduceEqDiff, Nat.reduceBEq, ↓reduceIte, reduceCtorEq]) rfl rfl
end Go.Proofs.Ytmokhopjnjecbaa
/- Numbers by sevens of bits: plain. -/
namespace Go.Ev
set_option linter.unusedVariables false
/-- Sevens of bits, the least first. -/
def lowS : List Nat → Nat
  | [] => 0
  | b :: l => b % 128 + 128 * lowS l
/-- How many bytes a number has that bytes begin with; none: there is none. -/
def takeGo : Nat → List Nat → Option Nat
  | _, [] => none
  | k, b :: l => if 9 ≤ k then none else if 128 ≤ b then takeGo (k + 1) l else if b = 0 ∧ 0 < k then none else some (k + 1)
theorem lowS_append (a b : List Nat) : lowS (a ++ b) = lowS a + 128 ^ a.length * lowS b := by
  induction a with
  | nil => simp [lowS]
  | cons x a ih => simp only [List.cons_append, lowS, ih, List.length_cons, Nat.pow_succ]; rw [Nat.mul_add, ← Nat.mul_assoc, Nat.mul_comm 128 (128 ^ a.length), ← Nat.add_assoc]
theorem lowS_lt (a : List Nat) : lowS a < 128 ^ a.length := by
  induction a with
  | nil => simp [lowS]
  | cons x a ih => simp only [lowS, List.length_cons, Nat.pow_succ]; omega
theorem takeGo_some : ∀ (l : List Nat) (k n : Nat), takeGo k l = some n → k < n ∧ n ≤ 9 ∧ n ≤ k + l.length
  | [], k, n, h => by simp [takeGo] at h
  | b :: l, k, n, h => by
    simp only [takeGo] at h
    split at h
    · cases h
    · split at h
      · have := takeGo_some l (k + 1) n h
        simp only [List.length_cons]; omega
      · split at h
        · cases h
        · simp only [Option.some.injEq] at h; subst h
          simp only [List.length_cons]; omega
theorem ibits_or (k : IntKind) (hk : k.signed = false) (a b : Nat) (ha : a < 2 ^ k.bits) (hb : b < 2 ^ k.bits) : ibits .or k a b = ((a ||| b : Nat) : Int) := by
  simp only [ibits, BitVec.toNat_or, bv_toNat _ _ ha, bv_toNat _ _ hb]
  exact wrap_nat k hk _ (Nat.or_lt_two_pow ha hb)
theorem and128 : ∀ b : Fin 256, ibits .andNot .u8 (b.1 : Int) 128 = ((b.1 % 128 : Nat) : Int) := by decide +kernel
theorem and128' : ∀ b : Fin 256, (ibits .and .u8 (b.1 : Int) 128 = 0) ↔ b.1 < 128 := by decide +kernel
/-- One more seven of bits. -/
theorem or_step (v k x : Nat) (hv : v < 128 ^ k) (hk : k ≤ 8) (hx : x < 128) : ibits .or .u64 (v : Int) ((x * 2 ^ (7 * k) : Nat) : Int) = ((v + 128 ^ k * x : Nat) : Int) := by
  have e : 128 ^ k = 2 ^ (7 * k) := by rw [Nat.pow_mul]
  rw [e] at hv ⊢
  have h1 : 2 ^ (7 * k) ≤ 2 ^ 56 := Nat.pow_le_pow_right (by omega) (by omega)
  have h2 : x * 2 ^ (7 * k) ≤ 127 * 2 ^ 56 := Nat.mul_le_mul (by omega) h1
  rw [ibits_or .u64 rfl v _ (by show _ < 2 ^ 64; omega) (by show _ < 2 ^ 64; omega), Nat.or_comm, Nat.mul_comm x, ← Nat.two_pow_add_eq_or_of_lt hv, Nat.add_comm]
end Go.Ev
/- The walk through the net: spoiling a byte. -/
-- short
-- fuel 300
namespace Go.Proofs.Ytmokhopjnjecbaa
open Go.Ev
set_option linter.unusedVariables false
set_option linter.unusedSimpArgs false
set_option maxRecDepth 100000
set_option maxHeartbeats 1600000
theorem ibits_xor (k : IntKind) (hk : k.signed = false) (a b : Nat) (ha : a < 2 ^ k.bits) (hb : b < 2 ^ k.bits) : ibits .xor k a b = ((a ^^^ b : Nat) : Int) := by
  simp only [ibits, BitVec.toNat_xor, bv_toNat _ _ ha, bv_toNat _ _ hb]
  exact wrap_nat k hk _ (Nat.xor_lt_two_pow ha hb)
theorem getD_lt {bs : List Nat} (hbs : ∀ b ∈ bs, b < 256) (i : Nat) : bs.getD i 0 < 256 := by
  by_cases h : i < bs.length
  · simpa [h] using hbs _ (List.getElem_mem h)
  · simp [h]
theorem avs_set (b : List Nat) (j v : Nat) (h : j < b.length) : (avs b).take j ++ [.int .u8 (v : Nat)] ++ (avs b).drop (j + 1) = avs (b.set j v) := by
  rw [List.set_eq_take_append_cons_drop, if_pos h, avs_take, avs_drop]
  simp [avs]
theorem mapK_app {α : Type} (f : AV → (AV → List (Nat × Nat) → α) → α → α) : ∀ (a b : List AV) (ok : List AV → List (Nat × Nat) → α) (bd : α), mapK f (a ++ b) ok bd = mapK f a (fun a' i => mapK f b (fun b' j => ok (a' ++ b') (i ++ j)) bd) bd
  | [], b, ok, bd => rfl
  | x :: a, b, ok, bd => by
    simp only [List.cons_append, mapK]
    congr 1; funext c' i
    rw [mapK_app f a b]
    congr 1; funext a' i'
    simp only [List.append_assoc, List.cons_append]
theorem frz_mid {α : Type} (n : Nat) (H : Heap) (A0 B0 : List Prc) (m : Int) (f d g len : Nat) (b : List Nat) (hl : len = b.length) (h : find H f d = some (g, some (avs b))) (ok : List AV → List (Nat × Nat) → α) (bd : α) :
    mapK (frzK (n + 2) H) (pcs A0 ++ [.int .i64 m, .sl f d g 1 0 len] ++ pcs B0) ok bd = ok (pcs (A0 ++ ⟨m, b⟩ :: B0)) [(f, d)] := by
  subst hl
  rw [mapK_app, mapK_app, frz_pcs]
  simp only [mapK, frzK_int]
  rw [frzK_sl, getB_of h, if_pos (by rw [avs_len]; omega), Nat.zero_mul, List.drop_zero, List.take_of_length_le (by rw [avs_len]; omega), frz_ints]
  simp only [frz_pcs, chunk, if_true, List.append_nil, List.nil_append]
  rw [← pcs_app]
  simp only [pcs, List.append_assoc, List.cons_append, List.nil_append]
/-- A byte turned. -/
def turnB (b : List Nat) (j v : Nat) : List Nat := b.set j (b.getD j 0 ^^^ v)
theorem spoil_none (l : List Prc) (k a : Int) (v : Nat) (h : k < 0 ∨ (l.length : Int) ≤ k) (nx : Ctr) : HCalls Try.prog F_net_Net_Spoil [.ptr 0 3 0 0, .int .i64 k, .int .i64 a, .int .u8 (v : Nat)] (nH l) nx (.int .i64 7) (nH l) nx := by
  refine hcalls_net_Net_Spoil 1 [(0, 3)] (walk0 300 trivial (fun A eA => ?_))
  simp (disch := first | omega | (simp only [avs_len, List.length_cons, List.length_append, List.length_nil, List.length_take, List.length_drop, List.length_map]; omega) | (simp only [cells, scal1, allSz, List.length_cons, List.length_nil, List.length_append, List.length_map, List.all_cons, List.all_nil, avs_len, beq_self_eq_true, Bool.and_self, and_self, or_true, true_or, reduceCtorEq, *]; done) | fail) only [c_net_Net_Spoil, go_sem, Nat.reduceAdd, Nat.reduceSub, Nat.reduceMul, Nat.reduceLT, Nat.reduceLeDiff, Int.reduceToNat, Nat.reduceEqDiff, Nat.reduceBEq, ↓reduceIte, reduceCtorEq, eA, scal1]
  refine call2 300 trivial trivial [(0, 3)] rfl rfl (there_out l k h _) (.inl rfl) (fun A eA => ?_)
  simp (disch := first | omega | (simp only [avs_len, List.length_cons, List.length_append, List.length_nil, List.length_take, List.length_drop, List.length_map]; omega) | (simp only [cells, scal1, allSz, List.length_cons, List.length_nil, List.length_append, List.length_map, List.all_cons, List.all_nil, avs_len, beq_self_eq_true, Bool.and_self, and_self, or_true, true_or, reduceCtorEq, *]; done) | fail) only [c_net_Net_Spoil, go_sem, Nat.reduceAdd, Nat.reduceSub, Nat.reduceMul, Nat.reduceLT, Nat.reduceLeDiff, Int.reduceToNat, Nat.reduceEqDiff, Nat.reduceBEq, ↓reduceIte, reduceCtorEq, eA, scal1]
  exact doneH (by simp only [go_sem, Nat.reduceAdd, Nat.reduceSub, Nat.reduceMul, Nat.reduceLT, Nat.reduceLeDiff, Int.reduceToNat, Nat.reduceEqDiff, Nat.reduceBEq, ↓reduceIte, reduceCtorEq]) rfl rfl
theorem spoil_ok (A0 B0 : List Prc) (q : Prc) (h : (A0 ++ q :: B0).length ≤ 1000) (hq : q.b.length ≤ 500) (hb : ∀ x ∈ q.b, x < 256) (hne : q.b ≠ []) (a : Int) (ha : -9223372036854775808 ≤ a ∧ a < 9223372036854775808) (v : Nat) (hv : v < 256) (nx : Ctr) :
    ∃ nx', HCalls Try.prog F_net_Net_Spoil [.ptr 0 3 0 0, .int .i64 (A0.length : Nat), .int .i64 a, .int .u8 (v : Nat)] (nH (A0 ++ q :: B0)) nx (.int .i64 0) (nH (A0 ++ ⟨q.n, turnB q.b (a % q.b.length).toNat v⟩ :: B0)) nx' := by
  have hlen : (A0 ++ q :: B0).length = A0.length + B0.length + 1 := by simp; omega
  obtain ⟨p0, l0, hl0⟩ : ∃ p0 l0, A0 ++ q :: B0 = p0 :: l0 := by cases A0 <;> exact ⟨_, _, rfl⟩
  have hl1 : l0.length + 1 = (A0 ++ q :: B0).length := by rw [hl0]; rfl
  have cl := pclone_h 2 p0 l0 none (by omega) nx
  rw [hl1, ← hl0] at cl
  simp only [List.length_append, List.length_cons] at cl
  have cc := netClone_h q hq hne (bump nx 7)
  have hpos : 0 < q.b.length := List.length_pos_iff.2 hne
  obtain ⟨m, hm⟩ : ∃ m, m = q.b.length := ⟨_, rfl⟩
  obtain ⟨j, hj⟩ : ∃ j : Nat, (a % q.b.length) = (j : Int) := ⟨(a % q.b.length).toNat, by have := Int.emod_nonneg a (b := (q.b.length : Int)) (by omega); omega⟩
  have hjm : j < m := by have := Int.emod_lt_of_pos a (b := (q.b.length : Int)) (by omega); omega
  rw [hj, Int.toNat_natCast]
  rw [← hm] at cc hpos hq
  have hj' : a % (m : Int) = j := by rw [hm]; exact hj
  have r1 : IntKind.i64.wrap (a.tmod m + m) = a.tmod m + m := by
    have h1 := Int.tmod_lt_of_pos a (b := (m : Int)) (by omega)
    have h2 := Int.lt_tmod_of_pos a (b := (m : Int)) (by omega)
    rw [wrap64 (by omega) (by omega)]
  have r2 : (a.tmod m + m).tmod m = (j : Int) := by
    have h2 := Int.lt_tmod_of_pos a (b := (m : Int)) (by omega)
    rw [Int.tmod_eq_emod_of_nonneg (by omega), Int.add_emod_right, ← hj']
    rw [Int.tmod_eq_emod]
    split
    · simp
    · rw [Int.natAbs_natCast, Int.sub_emod_right]
      simp
  have r0 : ¬ ((m : Int) = 0) := by omega
  have r3 : (0 : Int) < (m : Int) := by omega
  have hg : (avs q.b)[j]? = some (.int .u8 ((q.b.getD j 0 : Nat) : Int)) := by rw [avs_get, List.getElem?_eq_getElem (by omega)]; simp [show j < q.b.length by omega]
  have g1 : ((A0 ++ q :: B0).map pav)[((A0.length : Nat) : Int).toNat]? = some (pav q) := by
    rw [Int.toNat_natCast, List.getElem?_map, List.getElem?_append_right (Nat.le_refl _), Nat.sub_self]; rfl
  have k1 : ¬ ((A0.length : Int) < 0) := by omega
  have k2 : A0.length < A0.length + (B0.length + 1) := by omega
  have k3 : ¬ ((j : Int) < 0) := by omega
  have hL : (pcs (A0 ++ q :: B0)).length = (A0.length + B0.length + 1) * 2 := by rw [pcs_len, hlen]
  have T1 : (pcs (A0 ++ q :: B0)).take (A0.length * 2) = pcs A0 := by rw [pcs_take]; simp
  have D1 : (pcs (A0 ++ q :: B0)).drop (A0.length * 2 + 2) = pcs B0 := by rw [show A0.length * 2 + 2 = (A0.length + 1) * 2 by omega, pcs_drop]; simp
  have D0 : ((pcs (A0 ++ q :: B0)).drop (A0.length * 2)) = .int .i64 q.n :: bv q.b :: pcs B0 := by rw [pcs_drop]; simp [pcs]
  have hA0 := pcs_len A0
  have hB0 := pcs_len B0
  have D2 : ∀ x y, (pcs A0 ++ [x, y] ++ pcs B0).drop (A0.length * 2 + 1) = y :: pcs B0 := by
    intro x y
    rw [List.append_assoc, List.drop_append, hA0, List.drop_of_length_le (by omega), show A0.length * 2 + 1 - A0.length * 2 = 1 by omega]; rfl
  have hM : ∀ x y, (pcs A0 ++ [x, y] ++ pcs B0).length = (A0.length + (B0.length + 1)) * 2 := by
    intro x y; simp only [List.length_append, hA0, hB0, List.length_cons, List.length_nil]; omega
  have hT : ∀ x y, (pcs A0 ++ [x, y] ++ pcs B0).take ((A0.length + (B0.length + 1)) * 2) = pcs A0 ++ [x, y] ++ pcs B0 := fun x y => List.take_of_length_le (by rw [hM]; omega)
  have hx : ibits .xor .u8 ((q.b.getD j 0 : Nat) : Int) (v : Int) = ((q.b.getD j 0 ^^^ v : Nat) : Int) := ibits_xor .u8 rfl _ _ (getD_lt hb j) hv
  have hs := avs_set q.b j (q.b.getD j 0 ^^^ v) (by omega)
  have hC : chunk 2 (A0.length + (B0.length + 1)) (pcs (A0 ++ ⟨q.n, q.b.set j (q.b.getD j 0 ^^^ v)⟩ :: B0)) = (A0 ++ ⟨q.n, q.b.set j (q.b.getD j 0 ^^^ v)⟩ :: B0).map pav := by
    have := chunk_pcs (A0 ++ ⟨q.n, q.b.set j (q.b.getD j 0 ^^^ v)⟩ :: B0); rwa [show (A0 ++ (⟨q.n, q.b.set j (q.b.getD j 0 ^^^ v)⟩ : Prc) :: B0).length = A0.length + (B0.length + 1) by simp] at this
  have hd : (avs q.b).drop j = .int .u8 ((q.b.getD j 0 : Nat) : Int) :: (avs q.b).drop (j + 1) := by
    rw [List.drop_eq_getElem_cons (by rw [avs_len]; omega)]
    congr 1
    have := hg
    rw [List.getElem?_eq_getElem (by rw [avs_len]; omega)] at this
    exact Option.some.inj this
  have hK : ∀ (ok : List AV → List (Nat × Nat) → Out) (bd : Out), mapK (frzK 8 [(3, 7, nx 7 + 1, some (avs (q.b.set j (q.b.getD j 0 ^^^ v)))), (2, 7, nx 7, some (pcs A0 ++ [.int .i64 q.n, .sl 3 7 (nx 7 + 1) 1 0 m] ++ pcs B0)), (0, 3, 0, some [netV (A0 ++ q :: B0)])])
      (pcs A0 ++ [.int .i64 q.n, .sl 3 7 (nx 7 + 1) 1 0 m] ++ pcs B0) ok bd = ok (pcs (A0 ++ ⟨q.n, q.b.set j (q.b.getD j 0 ^^^ v)⟩ :: B0)) [(3, 7)] :=
    fun ok bd => frz_mid 6 _ A0 B0 q.n 3 7 _ m _ (by simp [hm]) (by simp [find]) ok bd
  refine ⟨bump (bump (bump nx 7) 2) 7, hcalls_net_Net_Spoil 1 [(0, 3)] (walk0 300 trivial (fun A eA => ?_))⟩
  simp (disch := first | omega | (simp only [avs_len, List.length_cons, List.length_append, List.length_nil, List.length_take, List.length_drop, List.length_map]; omega) | (simp only [cells, scal1, allSz, List.length_cons, List.length_nil, List.length_append, List.length_map, List.all_cons, List.all_nil, avs_len, beq_self_eq_true, Bool.and_self, and_self, or_true, true_or, reduceCtorEq, *]; done) | fail) only [c_net_Net_Spoil, go_sem, Nat.reduceAdd, Nat.reduceSub, Nat.reduceMul, Nat.reduceLT, Nat.reduceLeDiff, Int.reduceToNat, Nat.reduceEqDiff, Nat.reduceBEq, ↓reduceIte, reduceCtorEq, eA, scal1]
  refine call2 300 trivial trivial [(0, 3)] rfl rfl (there_in _ _ (by omega) (by omega) _) (.inl rfl) (fun A eA => ?_)
  simp (disch := first | omega | (simp only [avs_len, List.length_cons, List.length_append, List.length_nil, List.length_take, List.length_drop, List.length_map]; omega) | (simp only [cells, scal1, allSz, List.length_cons, List.length_nil, List.length_append, List.length_map, List.all_cons, List.all_nil, avs_len, beq_self_eq_true, Bool.and_self, and_self, or_true, true_or, reduceCtorEq, *]; done) | fail) only [c_net_Net_Spoil, go_sem, Nat.reduceAdd, Nat.reduceSub, Nat.reduceMul, Nat.reduceLT, Nat.reduceLeDiff, Int.reduceToNat, Nat.reduceEqDiff, Nat.reduceBEq, ↓reduceIte, reduceCtorEq, eA, scal1]
  refine call2 300 trivial trivial [] rfl rfl cl (.inr ⟨rfl, by simp only [heapFree, pcs_free, Bool.and_self]⟩) (fun A eA => ?_)
  simp (disch := first | omega | (simp only [avs_len, List.length_cons, List.length_append, List.length_nil, List.length_take, List.length_drop, List.length_map]; omega) | (simp only [cells, scal1, allSz, List.length_cons, List.length_nil, List.length_append, List.length_map, List.all_cons, List.all_nil, avs_len, beq_self_eq_true, Bool.and_self, and_self, or_true, true_or, reduceCtorEq, *]; done) | fail) only [c_net_Net_Spoil, go_sem, Nat.reduceAdd, Nat.reduceSub, Nat.reduceMul, Nat.reduceLT, Nat.reduceLeDiff, Int.reduceToNat, Nat.reduceEqDiff, Nat.reduceBEq, ↓reduceIte, reduceCtorEq, eA, scal1, k1, k2, Int.toNat_natCast, hL, D0]
  refine call2 300 trivial trivial [] rfl rfl cc (.inr ⟨rfl, by simp only [heapFree, avs_free, Bool.and_self]⟩) (fun A eA => ?_)
  simp (disch := first | omega | (simp only [avs_len, List.length_cons, List.length_append, List.length_nil, List.length_take, List.length_drop, List.length_map]; omega) | (simp only [cells, scal1, allSz, List.length_cons, List.length_nil, List.length_append, List.length_map, List.all_cons, List.all_nil, avs_len, beq_self_eq_true, Bool.and_self, and_self, or_true, true_or, reduceCtorEq, *]; done) | fail) only [c_net_Net_Spoil, go_sem, Nat.reduceAdd, Nat.reduceSub, Nat.reduceMul, Nat.reduceLT, Nat.reduceLeDiff, Int.reduceToNat, Nat.reduceEqDiff, Nat.reduceBEq, ↓reduceIte, reduceCtorEq, eA, scal1, List.all_cons, List.all_nil, Bool.and_self, k1, k2, k3, Int.toNat_natCast, hL, T1, D1, D2, hM, hT, r0, r1, r2, r3, hd, hx, hs, avs_len, ↓hK, hC]
  exact doneH (by simp only [go_sem, Nat.reduceAdd, Nat.reduceSub, Nat.reduceMul, Nat.reduceLT, Nat.reduceLeDiff, Int.reduceToNat, Nat.reduceEqDiff, Nat.reduceBEq, ↓reduceIte, reduceCtorEq]; rfl) rfl rfl
theorem spoil_nil (A0 B0 : List Prc) (q : Prc) (h : (A0 ++ q :: B0).length ≤ 1000) (hne : q.b = []) (a : Int) (v : Nat) (nx : Ctr) :
    ∃ nx', HCalls Try.prog F_net_Net_Spoil [.ptr 0 3 0 0, .int .i64 (A0.length : Nat), .int .i64 a, .int .u8 (v : Nat)] (nH (A0 ++ q :: B0)) nx (.int .i64 0) (nH (A0 ++ q :: B0)) nx' := by
  obtain ⟨n, b⟩ := q
  simp only at hne
  subst hne
  obtain ⟨q, hq⟩ : ∃ q : Prc, q = ⟨n, []⟩ := ⟨_, rfl⟩
  rw [← hq]
  rw [← hq] at h
  have hqv : pav q = .agg [.int .i64 n, .fz 1 [] none] := by rw [hq]; rfl
  have hlen : (A0 ++ q :: B0).length = A0.length + B0.length + 1 := by simp; omega
  obtain ⟨p0, l0, hl0⟩ : ∃ p0 l0, A0 ++ q :: B0 = p0 :: l0 := by cases A0 <;> exact ⟨_, _, rfl⟩
  have hl1 : l0.length + 1 = (A0 ++ q :: B0).length := by rw [hl0]; rfl
  have cl := pclone_h 2 p0 l0 none (by omega) nx
  rw [hl1, ← hl0] at cl
  simp only [List.length_append, List.length_cons] at cl
  have cc : HCalls Try.prog F_net_clone [pav q] [] (bump nx 7) (pav q) [] (bump nx 7) := (netClone_calls q (by rw [hq]; simp)).h _ rfl
  rw [hqv] at cc
  have k1 : ¬ ((A0.length : Int) < 0) := by omega
  have k2 : A0.length < A0.length + (B0.length + 1) := by omega
  have hL : (pcs (A0 ++ q :: B0)).length = (A0.length + B0.length + 1) * 2 := by rw [pcs_len, hlen]
  have T1 : (pcs (A0 ++ q :: B0)).take (A0.length * 2) = pcs A0 := by rw [pcs_take]; simp
  have D1 : (pcs (A0 ++ q :: B0)).drop (A0.length * 2 + 2) = pcs B0 := by rw [show A0.length * 2 + 2 = (A0.length + 1) * 2 by omega, pcs_drop]; simp
  have D0 : ((pcs (A0 ++ q :: B0)).drop (A0.length * 2)) = .int .i64 n :: .fz 1 [] none :: pcs B0 := by rw [pcs_drop, hq]; simp [pcs, avs]
  have hA0 := pcs_len A0
  have hB0 := pcs_len B0
  have hP : pcs A0 ++ [.int .i64 n, .fz 1 [] none] ++ pcs B0 = pcs (A0 ++ q :: B0) := by
    rw [← pcs_app, hq]; simp [pcs, avs]
  have D2 : (pcs (A0 ++ q :: B0)).drop (A0.length * 2 + 1) = .fz 1 [] none :: pcs B0 := by
    rw [← List.drop_drop, D0]; rfl
  have hL2 : (pcs (A0 ++ q :: B0)).length = (A0.length + (B0.length + 1)) * 2 := by rw [pcs_len, hlen]; omega
  have hT : (pcs (A0 ++ q :: B0)).take ((A0.length + (B0.length + 1)) * 2) = pcs (A0 ++ q :: B0) := List.take_of_length_le (by rw [hL2]; omega)
  have hC : chunk 2 (A0.length + (B0.length + 1)) (pcs (A0 ++ q :: B0)) = (A0 ++ q :: B0).map pav := by
    have := chunk_pcs (A0 ++ q :: B0); rwa [show (A0 ++ q :: B0).length = A0.length + (B0.length + 1) by simp] at this
  refine ⟨bump nx 7, hcalls_net_Net_Spoil 1 [(0, 3)] (walk0 300 trivial (fun A eA => ?_))⟩
  simp (disch := first | omega | (simp only [avs_len, List.length_cons, List.length_append, List.length_nil, List.length_take, List.length_drop, List.length_map]; omega) | (simp only [cells, scal1, allSz, List.length_cons, List.length_nil, List.length_append, List.length_map, List.all_cons, List.all_nil, avs_len, beq_self_eq_true, Bool.and_self, and_self, or_true, true_or, reduceCtorEq, *]; done) | fail) only [c_net_Net_Spoil, go_sem, Nat.reduceAdd, Nat.reduceSub, Nat.reduceMul, Nat.reduceLT, Nat.reduceLeDiff, Int.reduceToNat, Nat.reduceEqDiff, Nat.reduceBEq, ↓reduceIte, reduceCtorEq, eA, scal1]
  refine call2 300 trivial trivial [(0, 3)] rfl rfl (there_in _ _ (by omega) (by omega) _) (.inl rfl) (fun A eA => ?_)
  simp (disch := first | omega | (simp only [avs_len, List.length_cons, List.length_append, List.length_nil, List.length_take, List.length_drop, List.length_map]; omega) | (simp only [cells, scal1, allSz, List.length_cons, List.length_nil, List.length_append, List.length_map, List.all_cons, List.all_nil, avs_len, beq_self_eq_true, Bool.and_self, and_self, or_true, true_or, reduceCtorEq, *]; done) | fail) only [c_net_Net_Spoil, go_sem, Nat.reduceAdd, Nat.reduceSub, Nat.reduceMul, Nat.reduceLT, Nat.reduceLeDiff, Int.reduceToNat, Nat.reduceEqDiff, Nat.reduceBEq, ↓reduceIte, reduceCtorEq, eA, scal1]
  refine call2 300 trivial trivial [] rfl rfl cl (.inr ⟨rfl, by simp only [heapFree, pcs_free, Bool.and_self]⟩) (fun A eA => ?_)
  simp (disch := first | omega | (simp only [avs_len, List.length_cons, List.length_append, List.length_nil, List.length_take, List.length_drop, List.length_map]; omega) | (simp only [cells, scal1, allSz, List.length_cons, List.length_nil, List.length_append, List.length_map, List.all_cons, List.all_nil, avs_len, beq_self_eq_true, Bool.and_self, and_self, or_true, true_or, reduceCtorEq, *]; done) | fail) only [c_net_Net_Spoil, go_sem, Nat.reduceAdd, Nat.reduceSub, Nat.reduceMul, Nat.reduceLT, Nat.reduceLeDiff, Int.reduceToNat, Nat.reduceEqDiff, Nat.reduceBEq, ↓reduceIte, reduceCtorEq, eA, scal1, k1, k2, Int.toNat_natCast, hL, D0]
  refine call2 300 trivial trivial [] rfl rfl cc (.inr ⟨rfl, rfl⟩) (fun A eA => ?_)
  simp (disch := first | omega | (simp only [avs_len, List.length_cons, List.length_append, List.length_nil, List.length_take, List.length_drop, List.length_map]; omega) | (simp only [cells, scal1, allSz, List.length_cons, List.length_nil, List.length_append, List.length_map, List.all_cons, List.all_nil, avs_len, beq_self_eq_true, Bool.and_self, and_self, or_true, true_or, reduceCtorEq, *]; done) | fail) only [c_net_Net_Spoil, go_sem, Nat.reduceAdd, Nat.reduceSub, Nat.reduceMul, Nat.reduceLT, Nat.reduceLeDiff, Int.reduceToNat, Nat.reduceEqDiff, Nat.reduceBEq, ↓reduceIte, reduceCtorEq, eA, scal1, List.all_cons, List.all_nil, Bool.and_self, k1, k2, Int.toNat_natCast, hP, hL2, T1, D1, D2, hT, ↓frz_pcs, hC]
  exact doneH (by simp only [go_sem, Nat.reduceAdd, Nat.reduceSub, Nat.reduceMul, Nat.reduceLT, Nat.reduceLeDiff, Int.reduceToNat, Nat.reduceEqDiff, Nat.reduceBEq, ↓reduceIte, reduceCtorEq]) rfl rfl
end Go.Proofs.Ytmokhopjnjecbaa
/- The walk through the net: all that is under way; two lists alike. -/
-- short
-- fuel 300
namespace Go.Proofs.Ytmokhopjnjecbaa
open Go.Ev
set_option linter.unusedVariables false
set_option linter.unusedSimpArgs false
set_option maxRecDepth 100000
set_option maxHeartbeats 1600000
abbrev allH (l : List Prc) (e : Option Nat) (pre : List Prc) : Heap := (0, 3, 0, some [netV l]) :: accE 1 21 e (pcs pre)
theorem all_loop (l : List Prc) (hl : l.length ≤ 1000) (hb : ∀ p ∈ l, p.b.length ≤ 500) : ∀ (post pre : List Prc), l = pre ++ post → ∀ (e : Option Nat) (nx : Ctr), (e = none → pre = []) →
    ∃ (e' : Option Nat) (nx' : Ctr), (e' = none → l = []) ∧ (l = [] → e' = e) ∧ ∀ (R : List AV → Heap → Ctr → Prop) (k : List It), flat k → RunsX Try.prog 1 R k (e_net_Net_All_0 (accV 1 21 2 e' l.length)) (allH l e' l) nx' →
      RunsX Try.prog 1 R (i_net_Net_All_0 ++ k) (s_net_Net_All_0 (accV 1 21 2 e pre.length) (netV l) (.int .i64 (l.length : Nat)) (.int .i64 (pre.length : Nat))) (allH l e pre) nx := by
  intro post
  induction post with
  | nil =>
    intro pre h1 e nx he
    rw [List.append_nil] at h1
    subst h1
    refine ⟨e, nx, he, fun _ => rfl, fun R k hk h => ?_⟩
    refine round (its := [.blk 0 wb_net_Net_All_0]) 300 hk trivial (fun A eA => ?_)
    cases e with
    | none =>
      simp only [accV, allH, accE] at h ⊢
      simp (disch := first | omega | (simp only [avs_len, List.length_cons, List.length_append, List.length_nil, List.length_take, List.length_drop, List.length_map]; omega) | (simp only [cells, scal1, allSz, List.length_cons, List.length_nil, List.length_append, List.length_map, List.all_cons, List.all_nil, avs_len, beq_self_eq_true, Bool.and_self, and_self, or_true, true_or, reduceCtorEq, *]; done) | fail) only [c_net_Net_All, wl_net_Net_All_0, s_net_Net_All_0, c_net_Net_All_l0, wb_net_Net_All_0, c_net_Net_All_k0, go_sem, Nat.reduceAdd, Nat.reduceSub, Nat.reduceMul, Nat.reduceLT, Nat.reduceLeDiff, Int.reduceToNat, Nat.reduceEqDiff, Nat.reduceBEq, ↓reduceIte, reduceCtorEq, eA, scal1]
      exact h
    | some g =>
      simp only [accV, allH, accE] at h ⊢
      simp (disch := first | omega | (simp only [avs_len, List.length_cons, List.length_append, List.length_nil, List.length_take, List.length_drop, List.length_map]; omega) | (simp only [cells, scal1, allSz, List.length_cons, List.length_nil, List.length_append, List.length_map, List.all_cons, List.all_nil, avs_len, beq_self_eq_true, Bool.and_self, and_self, or_true, true_or, reduceCtorEq, *]; done) | fail) only [c_net_Net_All, wl_net_Net_All_0, s_net_Net_All_0, c_net_Net_All_l0, wb_net_Net_All_0, c_net_Net_All_k0, go_sem, Nat.reduceAdd, Nat.reduceSub, Nat.reduceMul, Nat.reduceLT, Nat.reduceLeDiff, Int.reduceToNat, Nat.reduceEqDiff, Nat.reduceBEq, ↓reduceIte, reduceCtorEq, eA, scal1]
      exact h
  | cons p post ih =>
    intro pre h1 e nx he
    have hlt : pre.length < l.length := by rw [h1]; simp
    have hpm : p ∈ l := by rw [h1]; simp
    obtain ⟨e', nx', hn, hn2, hih⟩ := ih (pre ++ [p]) (by rw [h1]; simp) (some (nx 21)) (bump (bump nx 5) 21) (by simp)
    refine ⟨e', nx', hn, fun h0 => by rw [h0] at hlt; simp at hlt, fun R k hk h => ?_⟩
    have hih := hih R k hk h
    have g0 : (l.map pav)[((pre.length : Nat) : Int).toNat]? = some (pav p) := by
      rw [Int.toNat_natCast, h1, List.getElem?_map, List.getElem?_append_right (Nat.le_refl _), Nat.sub_self]; rfl
    have w1 : IntKind.i64.wrap ((pre.length : Int) + 1) = ((pre.length + 1 : Nat) : Int) := by rw [wrap64 (by omega) (by omega)]; omega
    have hlen := pcs_len pre
    have hap : pcs pre ++ [.int .i64 p.n, bv p.b] = pcs (pre ++ [p]) := pcs_app pre [p]
    have hap0 : pcs [p] = [.int .i64 p.n, bv p.b] := rfl
    refine round (its := [.blk 0 wb_net_Net_All_0]) 300 hk trivial (fun A eA => ?_)
    cases e with
    | none =>
      have hp := he rfl
      subst hp
      have g00 : (l.map pav)[((0 : Nat) : Int).toNat]? = some (pav p) := by rw [h1]; rfl
      simp only [allH, accV, accE] at hih ⊢
      simp (disch := first | omega | (simp only [avs_len, List.length_cons, List.length_append, List.length_nil, List.length_take, List.length_drop, List.length_map]; omega) | (simp only [cells, scal1, allSz, List.length_cons, List.length_nil, List.length_append, List.length_map, List.all_cons, List.all_nil, avs_len, beq_self_eq_true, Bool.and_self, and_self, or_true, true_or, reduceCtorEq, *]; done) | fail) only [c_net_Net_All, wl_net_Net_All_0, s_net_Net_All_0, c_net_Net_All_l0, wb_net_Net_All_0, c_net_Net_All_k0, go_sem, Nat.reduceAdd, Nat.reduceSub, Nat.reduceMul, Nat.reduceLT, Nat.reduceLeDiff, Int.reduceToNat, Nat.reduceEqDiff, Nat.reduceBEq, ↓reduceIte, reduceCtorEq, eA, scal1, List.all_cons, List.all_nil, Bool.and_self, ↓optI_of g00]
      refine call0 300 hk trivial (netClone_calls p (hb p hpm)) (.inl rfl) (fun A eA => ?_)
      simp (disch := first | omega | (simp only [avs_len, List.length_cons, List.length_append, List.length_nil, List.length_take, List.length_drop, List.length_map]; omega) | (simp only [cells, scal1, allSz, List.length_cons, List.length_nil, List.length_append, List.length_map, List.all_cons, List.all_nil, avs_len, beq_self_eq_true, Bool.and_self, and_self, or_true, true_or, reduceCtorEq, *]; done) | fail) only [c_net_Net_All, wl_net_Net_All_0, s_net_Net_All_0, c_net_Net_All_l0, wb_net_Net_All_0, c_net_Net_All_k0, go_sem, Nat.reduceAdd, Nat.reduceSub, Nat.reduceMul, Nat.reduceLT, Nat.reduceLeDiff, Int.reduceToNat, Nat.reduceEqDiff, Nat.reduceBEq, ↓reduceIte, reduceCtorEq, eA, w1, ↓appK, allSz, catCells, scal1, List.all_cons, List.all_nil, Bool.and_self, beq_self_eq_true]
      exact hih
    | some g =>
      simp only [allH, accV, accE] at hih ⊢
      simp (disch := first | omega | (simp only [avs_len, List.length_cons, List.length_append, List.length_nil, List.length_take, List.length_drop, List.length_map]; omega) | (simp only [cells, scal1, allSz, List.length_cons, List.length_nil, List.length_append, List.length_map, List.all_cons, List.all_nil, avs_len, beq_self_eq_true, Bool.and_self, and_self, or_true, true_or, reduceCtorEq, *]; done) | fail) only [c_net_Net_All, wl_net_Net_All_0, s_net_Net_All_0, c_net_Net_All_l0, wb_net_Net_All_0, c_net_Net_All_k0, go_sem, Nat.reduceAdd, Nat.reduceSub, Nat.reduceMul, Nat.reduceLT, Nat.reduceLeDiff, Int.reduceToNat, Nat.reduceEqDiff, Nat.reduceBEq, ↓reduceIte, reduceCtorEq, eA, scal1, List.all_cons, List.all_nil, Bool.and_self, ↓optI_of g0]
      refine call0 300 hk trivial (netClone_calls p (hb p hpm)) (.inl rfl) (fun A eA => ?_)
      simp (disch := first | omega | (simp only [avs_len, List.length_cons, List.length_append, List.length_nil, List.length_take, List.length_drop, List.length_map]; omega) | (simp only [cells, scal1, allSz, List.length_cons, List.length_nil, List.length_append, List.length_map, List.all_cons, List.all_nil, avs_len, beq_self_eq_true, Bool.and_self, and_self, or_true, true_or, reduceCtorEq, *]; done) | fail) only [c_net_Net_All, wl_net_Net_All_0, s_net_Net_All_0, c_net_Net_All_l0, wb_net_Net_All_0, c_net_Net_All_k0, go_sem, Nat.reduceAdd, Nat.reduceSub, Nat.reduceMul, Nat.reduceLT, Nat.reduceLeDiff, Int.reduceToNat, Nat.reduceEqDiff, Nat.reduceBEq, ↓reduceIte, reduceCtorEq, eA, w1, ↓appK, allSz, catCells, hlen, hap, scal1, List.all_cons, List.all_nil, Bool.and_self, beq_self_eq_true]
      simp only [List.length_append, List.length_cons, List.length_nil, Nat.zero_add] at hih
      exact hih
theorem all_nil (nx : Ctr) : ∃ nx', HCalls Try.prog F_net_Net_All [.ptr 0 3 0 0] (nH []) nx .nils (nH []) nx' := by
  obtain ⟨e', nx', hn, hn2, h⟩ := all_loop [] (by simp) (by simp) [] [] rfl none nx (fun _ => rfl)
  obtain rfl := hn2 rfl
  refine ⟨nx', hcalls_net_Net_All 1 [(0, 3)] (walk0 300 trivial (fun A eA => ?_))⟩
  simp (disch := first | omega | (simp only [avs_len, List.length_cons, List.length_append, List.length_nil, List.length_take, List.length_drop, List.length_map]; omega) | (simp only [cells, scal1, allSz, List.length_cons, List.length_nil, List.length_append, List.length_map, List.all_cons, List.all_nil, avs_len, beq_self_eq_true, Bool.and_self, and_self, or_true, true_or, reduceCtorEq, *]; done) | fail) only [c_net_Net_All, wl_net_Net_All_0, s_net_Net_All_0, c_net_Net_All_l0, wb_net_Net_All_0, c_net_Net_All_k0, go_sem, Nat.reduceAdd, Nat.reduceSub, Nat.reduceMul, Nat.reduceLT, Nat.reduceLeDiff, Int.reduceToNat, Nat.reduceEqDiff, Nat.reduceBEq, ↓reduceIte, reduceCtorEq, eA, scal1]
  refine h _ [.c c_net_Net_All_k0] trivial ?_
  simp only [accV, allH, accE]
  refine walk0 (its := [.c c_net_Net_All_k0]) 300 trivial (fun A eA => ?_)
  simp (disch := first | omega | (simp only [avs_len, List.length_cons, List.length_append, List.length_nil, List.length_take, List.length_drop, List.length_map]; omega) | (simp only [cells, scal1, allSz, List.length_cons, List.length_nil, List.length_append, List.length_map, List.all_cons, List.all_nil, avs_len, beq_self_eq_true, Bool.and_self, and_self, or_true, true_or, reduceCtorEq, *]; done) | fail) only [c_net_Net_All, wl_net_Net_All_0, s_net_Net_All_0, c_net_Net_All_l0, wb_net_Net_All_0, c_net_Net_All_k0, go_sem, Nat.reduceAdd, Nat.reduceSub, Nat.reduceMul, Nat.reduceLT, Nat.reduceLeDiff, Int.reduceToNat, Nat.reduceEqDiff, Nat.reduceBEq, ↓reduceIte, reduceCtorEq, eA, scal1]
  exact doneH (by simp only [go_sem, Nat.reduceAdd, Nat.reduceSub, Nat.reduceMul, Nat.reduceLT, Nat.reduceLeDiff, Int.reduceToNat, Nat.reduceEqDiff, Nat.reduceBEq, ↓reduceIte, reduceCtorEq]) rfl rfl
theorem all_some (l : List Prc) (hl : l.length ≤ 1000) (hb : ∀ p ∈ l, p.b.length ≤ 500) (hne : l ≠ []) (nx : Ctr) : ∃ g nx', HCalls Try.prog F_net_Net_All [.ptr 0 3 0 0] (nH l) nx (.sl 1 21 g 2 0 l.length) [(0, 3, 0, some [netV l]), (1, 21, g, some (pcs l))] nx' := by
  obtain ⟨e', nx', hn, _, h⟩ := all_loop l hl hb l [] rfl none nx (fun _ => rfl)
  cases e' with
  | none => exact absurd (hn rfl) hne
  | some g =>
    refine ⟨g, nx', hcalls_net_Net_All 1 [(0, 3), (1, 21)] (walk0 300 trivial (fun A eA => ?_))⟩
    simp (disch := first | omega | (simp only [avs_len, List.length_cons, List.length_append, List.length_nil, List.length_take, List.length_drop, List.length_map]; omega) | (simp only [cells, scal1, allSz, List.length_cons, List.length_nil, List.length_append, List.length_map, List.all_cons, List.all_nil, avs_len, beq_self_eq_true, Bool.and_self, and_self, or_true, true_or, reduceCtorEq, *]; done) | fail) only [c_net_Net_All, wl_net_Net_All_0, s_net_Net_All_0, c_net_Net_All_l0, wb_net_Net_All_0, c_net_Net_All_k0, go_sem, Nat.reduceAdd, Nat.reduceSub, Nat.reduceMul, Nat.reduceLT, Nat.reduceLeDiff, Int.reduceToNat, Nat.reduceEqDiff, Nat.reduceBEq, ↓reduceIte, reduceCtorEq, eA, scal1, List.length_map]
    refine h _ [.c c_net_Net_All_k0] trivial ?_
    simp only [accV, allH, accE]
    refine walk0 (its := [.c c_net_Net_All_k0]) 300 trivial (fun A eA => ?_)
    simp (disch := first | omega | (simp only [avs_len, List.length_cons, List.length_append, List.length_nil, List.length_take, List.length_drop, List.length_map]; omega) | (simp only [cells, scal1, allSz, List.length_cons, List.length_nil, List.length_append, List.length_map, List.all_cons, List.all_nil, avs_len, beq_self_eq_true, Bool.and_self, and_self, or_true, true_or, reduceCtorEq, *]; done) | fail) only [c_net_Net_All, wl_net_Net_All_0, s_net_Net_All_0, c_net_Net_All_l0, wb_net_Net_All_0, c_net_Net_All_k0, go_sem, Nat.reduceAdd, Nat.reduceSub, Nat.reduceMul, Nat.reduceLT, Nat.reduceLeDiff, Int.reduceToNat, Nat.reduceEqDiff, Nat.reduceBEq, ↓reduceIte, reduceCtorEq, eA, scal1]
    exact doneH (by simp only [go_sem, Nat.reduceAdd, Nat.reduceSub, Nat.reduceMul, Nat.reduceLT, Nat.reduceLeDiff, Int.reduceToNat, Nat.reduceEqDiff, Nat.reduceBEq, ↓reduceIte, reduceCtorEq]) rfl rfl
/-- Two lists, alike. -/
theorem same_loop (l : List Prc) (hl : l.length ≤ 1000) (hb : ∀ p ∈ l, ∀ x ∈ p.b, x < 256) : ∀ (post pre : List Prc), l = pre ++ post → ∀ nx : Ctr,
    RunsX Try.prog 0 (Gives [.t 4] (.bool true)) (i_law19_same_0 ++ [.c c_law19_same_k0]) (s_law19_same_0 (netV l) (netV l) (.int .i64 (l.length : Nat)) (.int .i64 (pre.length : Nat))) [] nx := by
  intro post
  induction post with
  | nil =>
    intro pre h1 nx
    rw [List.append_nil] at h1
    subst h1
    refine round (its := [.blk 0 wb_law19_same_0]) 300 trivial trivial (fun A eA => ?_)
    simp (disch := first | omega | (simp only [avs_len, List.length_cons, List.length_append, List.length_nil, List.length_take, List.length_drop, List.length_map]; omega) | (simp only [cells, scal1, allSz, List.length_cons, List.length_nil, List.length_append, List.length_map, List.all_cons, List.all_nil, avs_len, beq_self_eq_true, Bool.and_self, and_self, or_true, true_or, reduceCtorEq, *]; done) | fail) only [c_law19_same, wl_law19_same_0, s_law19_same_0, c_law19_same_l0, wb_law19_same_0, c_law19_same_k0, go_sem, Nat.reduceAdd, Nat.reduceSub, Nat.reduceMul, Nat.reduceLT, Nat.reduceLeDiff, Int.reduceToNat, Nat.reduceEqDiff, Nat.reduceBEq, ↓reduceIte, reduceCtorEq, eA, scal1]
    refine walk0 (its := [.c c_law19_same_k0]) 300 trivial (fun A eA => ?_)
    simp (disch := first | omega | (simp only [avs_len, List.length_cons, List.length_append, List.length_nil, List.length_take, List.length_drop, List.length_map]; omega) | (simp only [cells, scal1, allSz, List.length_cons, List.length_nil, List.length_append, List.length_map, List.all_cons, List.all_nil, avs_len, beq_self_eq_true, Bool.and_self, and_self, or_true, true_or, reduceCtorEq, *]; done) | fail) only [c_law19_same, wl_law19_same_0, s_law19_same_0, c_law19_same_l0, wb_law19_same_0, c_law19_same_k0, go_sem, Nat.reduceAdd, Nat.reduceSub, Nat.reduceMul, Nat.reduceLT, Nat.reduceLeDiff, Int.reduceToNat, Nat.reduceEqDiff, Nat.reduceBEq, ↓reduceIte, reduceCtorEq, eA, scal1]
    exact doneG rfl
  | cons p post ih =>
    intro pre h1 nx
    have hlt : pre.length < l.length := by rw [h1]; simp
    have hpm : p ∈ l := by rw [h1]; simp
    have hih := ih (pre ++ [p]) (by rw [h1]; simp) nx
    rw [show (pre ++ [p]).length = pre.length + 1 by simp] at hih
    have g0 : (l.map pav)[((pre.length : Nat) : Int).toNat]? = some (pav p) := by
      rw [Int.toNat_natCast, h1, List.getElem?_map, List.getElem?_append_right (Nat.le_refl _), Nat.sub_self]; rfl
    have w1 : IntKind.i64.wrap ((pre.length : Int) + 1) = ((pre.length + 1 : Nat) : Int) := by rw [wrap64 (by omega) (by omega)]; omega
    have hib := isBytes_avs (hb p hpm)
    refine round (its := [.blk 0 wb_law19_same_0]) 300 trivial trivial (fun A eA => ?_)
    simp (disch := first | omega | (simp only [avs_len, List.length_cons, List.length_append, List.length_nil, List.length_take, List.length_drop, List.length_map]; omega) | (simp only [cells, scal1, allSz, List.length_cons, List.length_nil, List.length_append, List.length_map, List.all_cons, List.all_nil, avs_len, beq_self_eq_true, Bool.and_self, and_self, or_true, true_or, reduceCtorEq, *]; done) | fail) only [c_law19_same, wl_law19_same_0, s_law19_same_0, c_law19_same_l0, wb_law19_same_0, c_law19_same_k0, go_sem, Nat.reduceAdd, Nat.reduceSub, Nat.reduceMul, Nat.reduceLT, Nat.reduceLeDiff, Int.reduceToNat, Nat.reduceEqDiff, Nat.reduceBEq, ↓reduceIte, reduceCtorEq, eA, scal1, ↓optI_of g0, hib, w1, beq_self_eq_true, bstr_mk]
    exact hih
theorem same_calls (l : List Prc) (hl : l.length ≤ 1000) (hb : ∀ p ∈ l, ∀ x ∈ p.b, x < 256) : PCalls Try.prog F_law19_same [netV l, netV l] (.bool true) := by
  refine calls_law19_same (walk0 300 trivial (fun A eA => ?_))
  simp (disch := first | omega | (simp only [avs_len, List.length_cons, List.length_append, List.length_nil, List.length_take, List.length_drop, List.length_map]; omega) | (simp only [cells, scal1, allSz, List.length_cons, List.length_nil, List.length_append, List.length_map, List.all_cons, List.all_nil, avs_len, beq_self_eq_true, Bool.and_self, and_self, or_true, true_or, reduceCtorEq, *]; done) | fail) only [c_law19_same, wl_law19_same_0, s_law19_same_0, c_law19_same_l0, wb_law19_same_0, c_law19_same_k0, go_sem, Nat.reduceAdd, Nat.reduceSub, Nat.reduceMul, Nat.reduceLT, Nat.reduceLeDiff, Int.reduceToNat, Nat.reduceEqDiff, Nat.reduceBEq, ↓reduceIte, reduceCtorEq, eA, scal1, List.length_map]
  exact same_loop l hl hb l [] rfl _
theorem same_nil : PCalls Try.prog F_law19_same [.nils, netV []] (.bool true) :=
  PCalls.arg [] (Wk1.nils 2) (same_calls [] (by simp) (by simp))
theorem nawake_calls : PCalls Try.prog F_law19_awake [] (.bool true) :=
  evalF_calls (T := tabOf (tab_CdNet ++ tab_CdClone)) (n := 300) (tab_append tok_CdNet tok_CdClone) (by kernel_rfl)
end Go.Proofs.Ytmokhopjnjecbaa
/- The law NetPlays: a round of its loop, where something is sent. -/
-- short
-- fuel 300
namespace Go.Ev
structure NAct where
  k : Nat
  n : Int
  a : Int
  v : Nat
  p : Prc
def NActOk (x : NAct) : Prop := x.k < 256 ∧ (-9223372036854775808 ≤ x.n ∧ x.n < 9223372036854775808) ∧ (-9223372036854775808 ≤ x.a ∧ x.a < 9223372036854775808) ∧ x.v < 256 ∧ (-9223372036854775808 ≤ x.p.n ∧ x.p.n < 9223372036854775808) ∧ ∀ b ∈ x.p.b, b < 256
end Go.Ev
namespace Go.Proofs.Ytmokhopjnjecbaa
open Go.Ev
set_option linter.unusedVariables false
set_option linter.unusedSimpArgs false
set_option maxRecDepth 100000
set_option maxHeartbeats 3200000
abbrev actv (x : NAct) : AV := .agg [.int .u8 (x.k : Nat), .int .i64 x.n, .int .i64 x.a, .int .u8 (x.v : Nat), .int .i64 x.p.n, bv x.p.b]
/-- The law's loop, so many acts done, so much under way. -/
abbrev NLoop (L : List NAct) (i : Nat) (l : List Prc) (nx : Ctr) : Prop :=
  RunsX Try.prog 0 (Gives [.t 2] (.bool true)) (i_law19_NetPlays_0 ++ [.c c_law19_NetPlays_k0]) (s_law19_NetPlays_0 (.fz 6 (L.map actv) none) (.ptr 0 3 0 0) (netV l) (.int .i64 (L.length : Nat)) (.int .i64 (i : Nat))) (nH l) nx
theorem nloop_wk {L : List NAct} {i : Nat} {l : List Prc} {nx : Ctr} {x : AV} (hw : Wk1 x (netV l)) (h : NLoop L i l nx) :
    RunsX Try.prog 0 (Gives [.t 2] (.bool true)) (i_law19_NetPlays_0 ++ [.c c_law19_NetPlays_k0]) (s_law19_NetPlays_0 (.fz 6 (L.map actv) none) (.ptr 0 3 0 0) x (.int .i64 (L.length : Nat)) (.int .i64 (i : Nat))) (nH l) nx :=
  RunsX.wkT trivial (Wk.at1 hw [_, .any, .any, _] _) h
def PrcsOk (l : List Prc) : Prop := l.length ≤ 40 ∧ ∀ p ∈ l, p.b.length ≤ 500 ∧ ∀ b ∈ p.b, b < 256
theorem kmod {k j : Nat} (h : k % 4 = j) : (k : Int).tmod 4 = ((j : Nat) : Int) := by rw [Int.tmod_eq_emod_of_nonneg (by omega)]; omega
theorem net_end (L : List NAct) (l : List Prc) (nx : Ctr) : NLoop L L.length l nx := by
  refine round (its := [.blk 0 wb_law19_NetPlays_0]) (k0 := [.c c_law19_NetPlays_k0]) 300 trivial trivial (fun A eA => ?_)
  simp (disch := first | omega | (simp only [avs_len, List.length_cons, List.length_append, List.length_nil, List.length_take, List.length_drop, List.length_map]; omega) | (simp only [cells, scal1, allSz, List.length_cons, List.length_nil, List.length_append, List.length_map, List.all_cons, List.all_nil, avs_len, beq_self_eq_true, Bool.and_self, and_self, or_true, true_or, reduceCtorEq, *]; done) | fail) only [c_law19_NetPlays, wl_law19_NetPlays_0, s_law19_NetPlays_0, c_law19_NetPlays_l0, wb_law19_NetPlays_0, c_law19_NetPlays_k0, go_sem, Nat.reduceAdd, Nat.reduceSub, Nat.reduceMul, Nat.reduceLT, Nat.reduceLeDiff, Int.reduceToNat, Nat.reduceEqDiff, Nat.reduceBEq, ↓reduceIte, reduceCtorEq, eA, scal1]
  refine walk0 (its := [.c c_law19_NetPlays_k0]) 300 trivial (fun A eA => ?_)
  simp (disch := first | omega | (simp only [avs_len, List.length_cons, List.length_append, List.length_nil, List.length_take, List.length_drop, List.length_map]; omega) | (simp only [cells, scal1, allSz, List.length_cons, List.length_nil, List.length_append, List.length_map, List.all_cons, List.all_nil, avs_len, beq_self_eq_true, Bool.and_self, and_self, or_true, true_or, reduceCtorEq, *]; done) | fail) only [c_law19_NetPlays, wl_law19_NetPlays_0, s_law19_NetPlays_0, c_law19_NetPlays_l0, wb_law19_NetPlays_0, c_law19_NetPlays_k0, go_sem, Nat.reduceAdd, Nat.reduceSub, Nat.reduceMul, Nat.reduceLT, Nat.reduceLeDiff, Int.reduceToNat, Nat.reduceEqDiff, Nat.reduceBEq, ↓reduceIte, reduceCtorEq, eA, scal1]
  exact doneG rfl
theorem net_long (L pre post : List NAct) (x : NAct) (hL : L = pre ++ x :: post) (hb : 500 < x.p.b.length) (l : List Prc) (nx : Ctr) : NLoop L pre.length l nx := by
  have hlt : pre.length < L.length := by rw [hL]; simp
  have g0 : (L.map actv)[((pre.length : Nat) : Int).toNat]? = some (actv x) := by
    rw [Int.toNat_natCast, hL, List.getElem?_map, List.getElem?_append_right (Nat.le_refl _), Nat.sub_self]; rfl
  refine round (its := [.blk 0 wb_law19_NetPlays_0]) (k0 := [.c c_law19_NetPlays_k0]) 300 trivial trivial (fun A eA => ?_)
  simp (disch := first | omega | (simp only [avs_len, List.length_cons, List.length_append, List.length_nil, List.length_take, List.length_drop, List.length_map]; omega) | (simp only [cells, scal1, allSz, List.length_cons, List.length_nil, List.length_append, List.length_map, List.all_cons, List.all_nil, avs_len, beq_self_eq_true, Bool.and_self, and_self, or_true, true_or, reduceCtorEq, *]; done) | fail) only [c_law19_NetPlays, wl_law19_NetPlays_0, s_law19_NetPlays_0, c_law19_NetPlays_l0, wb_law19_NetPlays_0, c_law19_NetPlays_k0, go_sem, Nat.reduceAdd, Nat.reduceSub, Nat.reduceMul, Nat.reduceLT, Nat.reduceLeDiff, Int.reduceToNat, Nat.reduceEqDiff, Nat.reduceBEq, ↓reduceIte, reduceCtorEq, eA, scal1, List.all_cons, List.all_nil, Bool.and_self, ↓optI_of g0, avs_len]
  exact doneG rfl
theorem net_send_full (L pre post : List NAct) (x : NAct) (hL : L = pre ++ x :: post) (hb : x.p.b.length ≤ 500) (hk : x.k % 4 = 0) (l : List Prc) (ho : PrcsOk l) (hf : 40 ≤ l.length) (hLl : L.length ≤ 1000) (h : ∀ nx, NLoop L (pre.length + 1) l nx) (nx : Ctr) : NLoop L pre.length l nx := by
  have hlt : pre.length < L.length := by rw [hL]; simp
  have g0 : (L.map actv)[((pre.length : Nat) : Int).toNat]? = some (actv x) := by
    rw [Int.toNat_natCast, hL, List.getElem?_map, List.getElem?_append_right (Nat.le_refl _), Nat.sub_self]; rfl
  have w1 : IntKind.i64.wrap ((pre.length : Int) + 1) = ((pre.length + 1 : Nat) : Int) := by rw [wrap64 (by omega) (by omega)]; omega
  have em := kmod hk
  simp only [Int.ofNat_zero] at em
  have hT : (pcs l).take (l.length * 2) = pcs l := List.take_of_length_le (by rw [pcs_len]; omega)
  have hC := chunk_pcs l
  have hP := pcs_len l
  have cs := same_calls l (by have := ho.1; omega) (fun p hp => (ho.2 p hp).2)
  refine round (its := [.blk 0 wb_law19_NetPlays_0]) (k0 := [.c c_law19_NetPlays_k0]) 300 trivial trivial (fun A eA => ?_)
  obtain ⟨g, nx', ca⟩ := all_some l (by have := ho.1; omega) (fun p hp => (ho.2 p hp).1) (by intro e; rw [e] at hf; simp at hf) (bump nx 6)
  have hr : x.n < 0 ∨ (0 ≤ x.n ∧ (l.length : Int) ≤ x.n) ∨ (0 ≤ x.n ∧ x.n < l.length) := by omega
  rcases hr with c0 | ⟨c0, c1⟩ | ⟨c0, c1⟩
  all_goals
    simp (disch := first | omega | (simp only [avs_len, List.length_cons, List.length_append, List.length_nil, List.length_take, List.length_drop, List.length_map]; omega) | (simp only [cells, scal1, allSz, List.length_cons, List.length_nil, List.length_append, List.length_map, List.all_cons, List.all_nil, avs_len, beq_self_eq_true, Bool.and_self, and_self, or_true, true_or, reduceCtorEq, *]; done) | fail) only [c_law19_NetPlays, wl_law19_NetPlays_0, s_law19_NetPlays_0, c_law19_NetPlays_l0, wb_law19_NetPlays_0, c_law19_NetPlays_k0, go_sem, Nat.reduceAdd, Nat.reduceSub, Nat.reduceMul, Nat.reduceLT, Nat.reduceLeDiff, Int.reduceToNat, Nat.reduceEqDiff, Nat.reduceBEq, ↓reduceIte, reduceCtorEq, eA, scal1, List.all_cons, List.all_nil, Bool.and_self, ↓optI_of g0, avs_len, em, c0, List.length_map]
    refine call2 300 trivial trivial [(0, 3)] rfl rfl (send_full l x.p hf _) (.inr ⟨rfl, rfl⟩) (fun A eA => ?_)
    simp (disch := first | omega | (simp only [avs_len, List.length_cons, List.length_append, List.length_nil, List.length_take, List.length_drop, List.length_map]; omega) | (simp only [cells, scal1, allSz, List.length_cons, List.length_nil, List.length_append, List.length_map, List.all_cons, List.all_nil, avs_len, beq_self_eq_true, Bool.and_self, and_self, or_true, true_or, reduceCtorEq, *]; done) | fail) only [c_law19_NetPlays, wl_law19_NetPlays_0, s_law19_NetPlays_0, c_law19_NetPlays_l0, wb_law19_NetPlays_0, c_law19_NetPlays_k0, go_sem, Nat.reduceAdd, Nat.reduceSub, Nat.reduceMul, Nat.reduceLT, Nat.reduceLeDiff, Int.reduceToNat, Nat.reduceEqDiff, Nat.reduceBEq, ↓reduceIte, reduceCtorEq, eA, scal1, List.all_cons, List.all_nil, Bool.and_self]
    refine call2 300 trivial trivial [(0, 3)] rfl rfl ca (.inr ⟨rfl, by simp only [heapFree, pcs_free, Bool.and_self]; rfl⟩) (fun A eA => ?_)
    simp (disch := first | omega | (simp only [avs_len, List.length_cons, List.length_append, List.length_nil, List.length_take, List.length_drop, List.length_map]; omega) | (simp only [cells, scal1, allSz, List.length_cons, List.length_nil, List.length_append, List.length_map, List.all_cons, List.all_nil, avs_len, beq_self_eq_true, Bool.and_self, and_self, or_true, true_or, reduceCtorEq, *]; done) | fail) only [c_law19_NetPlays, wl_law19_NetPlays_0, s_law19_NetPlays_0, c_law19_NetPlays_l0, wb_law19_NetPlays_0, c_law19_NetPlays_k0, go_sem, Nat.reduceAdd, Nat.reduceSub, Nat.reduceMul, Nat.reduceLT, Nat.reduceLeDiff, Int.reduceToNat, Nat.reduceEqDiff, Nat.reduceBEq, ↓reduceIte, reduceCtorEq, eA, scal1, List.all_cons, List.all_nil, Bool.and_self, hT, hC, hP, ↓frz_pcs]
    refine call3 300 trivial trivial cs (fun A eA => ?_)
    simp (disch := first | omega | (simp only [avs_len, List.length_cons, List.length_append, List.length_nil, List.length_take, List.length_drop, List.length_map]; omega) | (simp only [cells, scal1, allSz, List.length_cons, List.length_nil, List.length_append, List.length_map, List.all_cons, List.all_nil, avs_len, beq_self_eq_true, Bool.and_self, and_self, or_true, true_or, reduceCtorEq, *]; done) | fail) only [c_law19_NetPlays, wl_law19_NetPlays_0, s_law19_NetPlays_0, c_law19_NetPlays_l0, wb_law19_NetPlays_0, c_law19_NetPlays_k0, go_sem, Nat.reduceAdd, Nat.reduceSub, Nat.reduceMul, Nat.reduceLT, Nat.reduceLeDiff, Int.reduceToNat, Nat.reduceEqDiff, Nat.reduceBEq, ↓reduceIte, reduceCtorEq, eA, scal1, List.all_cons, List.all_nil, Bool.and_self, hT, hC, hP, ↓frz_pcs]
    refine call2 300 trivial trivial [(0, 3)] rfl rfl (len_h l _) (.inr ⟨rfl, rfl⟩) (fun A eA => ?_)
    simp (disch := first | omega | (simp only [avs_len, List.length_cons, List.length_append, List.length_nil, List.length_take, List.length_drop, List.length_map]; omega) | (simp only [cells, scal1, allSz, List.length_cons, List.length_nil, List.length_append, List.length_map, List.all_cons, List.all_nil, avs_len, beq_self_eq_true, Bool.and_self, and_self, or_true, true_or, reduceCtorEq, *]; done) | fail) only [c_law19_NetPlays, wl_law19_NetPlays_0, s_law19_NetPlays_0, c_law19_NetPlays_l0, wb_law19_NetPlays_0, c_law19_NetPlays_k0, go_sem, Nat.reduceAdd, Nat.reduceSub, Nat.reduceMul, Nat.reduceLT, Nat.reduceLeDiff, Int.reduceToNat, Nat.reduceEqDiff, Nat.reduceBEq, ↓reduceIte, reduceCtorEq, eA, scal1, List.all_cons, List.all_nil, Bool.and_self, List.length_map, w1]
    exact h _
theorem net_send_ok0 (L pre post : List NAct) (x : NAct) (hL : L = pre ++ x :: post) (hx : NActOk x) (hb : x.p.b.length ≤ 500) (hk : x.k % 4 = 0) (l : List Prc) (ho : PrcsOk l) (hf : l.length < 40) (he : l = []) (hLl : L.length ≤ 1000) (h : ∀ nx, NLoop L (pre.length + 1) (l ++ [x.p]) nx) (nx : Ctr) : NLoop L pre.length l nx := by
  have hlt : pre.length < L.length := by rw [hL]; simp
  have g0 : (L.map actv)[((pre.length : Nat) : Int).toNat]? = some (actv x) := by
    rw [Int.toNat_natCast, hL, List.getElem?_map, List.getElem?_append_right (Nat.le_refl _), Nat.sub_self]; rfl
  have w1 : IntKind.i64.wrap ((pre.length : Int) + 1) = ((pre.length + 1 : Nat) : Int) := by rw [wrap64 (by omega) (by omega)]; omega
  have em := kmod hk
  simp only [Int.ofNat_zero, Int.ofNat_one] at em
  subst he
  have hT : (pcs ([x.p])).take ((1) * 2) = pcs ([x.p]) := List.take_of_length_le (by rw [pcs_len]; simp)
  have hC : chunk 2 (1) (pcs ([x.p])) = ([x.p]).map pav := by
    have := chunk_pcs ([x.p]); rwa [show ([x.p]).length = 1 by simp] at this
  have hP : (pcs ([x.p])).length = (1) * 2 := by rw [pcs_len]; simp
  have hp1 : [.int .i64 x.p.n, bv x.p.b] = pcs [x.p] := rfl
  have hall : ∀ p ∈ [] ++ [x.p], p.b.length ≤ 500 ∧ ∀ b ∈ p.b, b < 256 := by
    intro p hp
    rcases List.mem_append.1 hp with hp | hp
    · exact ho.2 p hp
    · rw [List.mem_singleton] at hp; subst hp; exact ⟨hb, hx.2.2.2.2.2⟩
  have cs := same_calls ([] ++ [x.p]) (by simp only [List.length_append, List.length_cons, List.length_nil]; have := ho.1; omega) (fun p hp => (hall p hp).2)
  have cl := fun nx => len_h ([] ++ [x.p]) nx
  obtain ⟨nx1, ct⟩ := send_ok [] x.p hf hb (bump nx 6)
  obtain ⟨g, nx2, ca⟩ := all_some ([] ++ [x.p]) (by simp only [List.length_append, List.length_cons, List.length_nil]; have := ho.1; omega) (fun p hp => (hall p hp).1) (by simp) (bump nx1 148)
  simp only [List.cons_append, List.nil_append, List.length_cons, List.length_append, List.length_nil, Nat.zero_add] at cs cl ct ca
  have hh := h
  simp only [List.cons_append, List.nil_append] at hh
  refine round (its := [.blk 0 wb_law19_NetPlays_0]) (k0 := [.c c_law19_NetPlays_k0]) 300 trivial trivial (fun A eA => ?_)
  have hr : x.n < 0 ∨ (0 ≤ x.n ∧ (0 : Int) ≤ x.n) := by omega
  rcases hr with c0 | ⟨c0, c1⟩
  all_goals
    simp (disch := first | omega | (simp only [avs_len, List.length_cons, List.length_append, List.length_nil, List.length_take, List.length_drop, List.length_map]; omega) | (simp only [cells, scal1, allSz, List.length_cons, List.length_nil, List.length_append, List.length_map, List.all_cons, List.all_nil, avs_len, beq_self_eq_true, Bool.and_self, and_self, or_true, true_or, reduceCtorEq, *]; done) | fail) only [c_law19_NetPlays, wl_law19_NetPlays_0, s_law19_NetPlays_0, c_law19_NetPlays_l0, wb_law19_NetPlays_0, c_law19_NetPlays_k0, go_sem, Nat.reduceAdd, Nat.reduceSub, Nat.reduceMul, Nat.reduceLT, Nat.reduceLeDiff, Int.reduceToNat, Nat.reduceEqDiff, Nat.reduceBEq, ↓reduceIte, reduceCtorEq, eA, scal1, List.all_cons, List.all_nil, Bool.and_self, ↓optI_of g0, avs_len, em, c0, List.length_map]
    refine call2 300 trivial trivial [(0, 3)] rfl rfl ct (.inr ⟨rfl, rfl⟩) (fun A eA => ?_)
    simp (disch := first | omega | (simp only [avs_len, List.length_cons, List.length_append, List.length_nil, List.length_take, List.length_drop, List.length_map]; omega) | (simp only [cells, scal1, allSz, List.length_cons, List.length_nil, List.length_append, List.length_map, List.all_cons, List.all_nil, avs_len, beq_self_eq_true, Bool.and_self, and_self, or_true, true_or, reduceCtorEq, *]; done) | fail) only [c_law19_NetPlays, wl_law19_NetPlays_0, s_law19_NetPlays_0, c_law19_NetPlays_l0, wb_law19_NetPlays_0, c_law19_NetPlays_k0, go_sem, Nat.reduceAdd, Nat.reduceSub, Nat.reduceMul, Nat.reduceLT, Nat.reduceLeDiff, Int.reduceToNat, Nat.reduceEqDiff, Nat.reduceBEq, ↓reduceIte, reduceCtorEq, eA, scal1, List.all_cons, List.all_nil, Bool.and_self, catCells, ↓appK, allSz, beq_self_eq_true, hp1, List.length_map]
    refine call2 300 trivial trivial [(0, 3)] rfl rfl ca (.inr ⟨rfl, by simp only [heapFree, pcs_free, Bool.and_self]; rfl⟩) (fun A eA => ?_)
    simp (disch := first | omega | (simp only [avs_len, List.length_cons, List.length_append, List.length_nil, List.length_take, List.length_drop, List.length_map]; omega) | (simp only [cells, scal1, allSz, List.length_cons, List.length_nil, List.length_append, List.length_map, List.all_cons, List.all_nil, avs_len, beq_self_eq_true, Bool.and_self, and_self, or_true, true_or, reduceCtorEq, *]; done) | fail) only [c_law19_NetPlays, wl_law19_NetPlays_0, s_law19_NetPlays_0, c_law19_NetPlays_l0, wb_law19_NetPlays_0, c_law19_NetPlays_k0, go_sem, Nat.reduceAdd, Nat.reduceSub, Nat.reduceMul, Nat.reduceLT, Nat.reduceLeDiff, Int.reduceToNat, Nat.reduceEqDiff, Nat.reduceBEq, ↓reduceIte, reduceCtorEq, eA, scal1, List.all_cons, List.all_nil, Bool.and_self, hT, hC, hP, ↓frz_pcs]
    refine call3 300 trivial trivial cs (fun A eA => ?_)
    simp (disch := first | omega | (simp only [avs_len, List.length_cons, List.length_append, List.length_nil, List.length_take, List.length_drop, List.length_map]; omega) | (simp only [cells, scal1, allSz, List.length_cons, List.length_nil, List.length_append, List.length_map, List.all_cons, List.all_nil, avs_len, beq_self_eq_true, Bool.and_self, and_self, or_true, true_or, reduceCtorEq, *]; done) | fail) only [c_law19_NetPlays, wl_law19_NetPlays_0, s_law19_NetPlays_0, c_law19_NetPlays_l0, wb_law19_NetPlays_0, c_law19_NetPlays_k0, go_sem, Nat.reduceAdd, Nat.reduceSub, Nat.reduceMul, Nat.reduceLT, Nat.reduceLeDiff, Int.reduceToNat, Nat.reduceEqDiff, Nat.reduceBEq, ↓reduceIte, reduceCtorEq, eA, scal1, List.all_cons, List.all_nil, Bool.and_self, hT, hC, hP, ↓frz_pcs]
    refine call2 300 trivial trivial [(0, 3)] rfl rfl (cl _) (.inr ⟨rfl, rfl⟩) (fun A eA => ?_)
    simp (disch := first | omega | (simp only [avs_len, List.length_cons, List.length_append, List.length_nil, List.length_take, List.length_drop, List.length_map]; omega) | (simp only [cells, scal1, allSz, List.length_cons, List.length_nil, List.length_append, List.length_map, List.all_cons, List.all_nil, avs_len, beq_self_eq_true, Bool.and_self, and_self, or_true, true_or, reduceCtorEq, *]; done) | fail) only [c_law19_NetPlays, wl_law19_NetPlays_0, s_law19_NetPlays_0, c_law19_NetPlays_l0, wb_law19_NetPlays_0, c_law19_NetPlays_k0, go_sem, Nat.reduceAdd, Nat.reduceSub, Nat.reduceMul, Nat.reduceLT, Nat.reduceLeDiff, Int.reduceToNat, Nat.reduceEqDiff, Nat.reduceBEq, ↓reduceIte, reduceCtorEq, eA, scal1, List.all_cons, List.all_nil, Bool.and_self, List.length_map, List.length_append, w1]
    exact hh _
theorem net_send_ok1 (L pre post : List NAct) (x : NAct) (hL : L = pre ++ x :: post) (hx : NActOk x) (hb : x.p.b.length ≤ 500) (hk : x.k % 4 = 0) (l : List Prc) (ho : PrcsOk l) (hf : l.length < 40) (he : l ≠ []) (hLl : L.length ≤ 1000) (h : ∀ nx, NLoop L (pre.length + 1) (l ++ [x.p]) nx) (nx : Ctr) : NLoop L pre.length l nx := by
  have hlt : pre.length < L.length := by rw [hL]; simp
  have g0 : (L.map actv)[((pre.length : Nat) : Int).toNat]? = some (actv x) := by
    rw [Int.toNat_natCast, hL, List.getElem?_map, List.getElem?_append_right (Nat.le_refl _), Nat.sub_self]; rfl
  have w1 : IntKind.i64.wrap ((pre.length : Int) + 1) = ((pre.length + 1 : Nat) : Int) := by rw [wrap64 (by omega) (by omega)]; omega
  have em := kmod hk
  simp only [Int.ofNat_zero, Int.ofNat_one] at em
  obtain ⟨p0, l0, rfl⟩ : ∃ p0 l0, l = p0 :: l0 := by cases l with | nil => exact absurd rfl he | cons a b => exact ⟨a, b, rfl⟩
  have hc0 := pcs_cat (p0 :: l0)
  have hap : pcs (p0 :: l0) ++ [.int .i64 x.p.n, bv x.p.b] = pcs (p0 :: (l0 ++ [x.p])) := pcs_app (p0 :: l0) [x.p]
  have hP0 : (pcs (p0 :: l0)).length = (l0.length + 1) * 2 := pcs_len (p0 :: l0)
  have hl0 : l0.length + 1 < 40 := hf
  have hT : (pcs (p0 :: (l0 ++ [x.p]))).take ((l0.length + 1 + 1) * 2) = pcs (p0 :: (l0 ++ [x.p])) := List.take_of_length_le (by rw [pcs_len]; simp)
  have hC : chunk 2 (l0.length + 1 + 1) (pcs (p0 :: (l0 ++ [x.p]))) = (p0 :: (l0 ++ [x.p])).map pav := by
    have := chunk_pcs (p0 :: (l0 ++ [x.p])); rwa [show (p0 :: (l0 ++ [x.p])).length = l0.length + 1 + 1 by simp] at this
  have hP : (pcs (p0 :: (l0 ++ [x.p]))).length = (l0.length + 1 + 1) * 2 := by rw [pcs_len]; simp
  have hall : ∀ p ∈ (p0 :: l0) ++ [x.p], p.b.length ≤ 500 ∧ ∀ b ∈ p.b, b < 256 := by
    intro p hp
    rcases List.mem_append.1 hp with hp | hp
    · exact ho.2 p hp
    · rw [List.mem_singleton] at hp; subst hp; exact ⟨hb, hx.2.2.2.2.2⟩
  have cs := same_calls ((p0 :: l0) ++ [x.p]) (by simp only [List.length_append, List.length_cons, List.length_nil]; have := ho.1; omega) (fun p hp => (hall p hp).2)
  have cl := fun nx => len_h ((p0 :: l0) ++ [x.p]) nx
  obtain ⟨nx1, ct⟩ := send_ok (p0 :: l0) x.p hf hb (bump nx 6)
  obtain ⟨g, nx2, ca⟩ := all_some ((p0 :: l0) ++ [x.p]) (by simp only [List.length_append, List.length_cons, List.length_nil]; have := ho.1; omega) (fun p hp => (hall p hp).1) (by simp) (bump (bump nx1 144) 144)
  simp only [List.cons_append, List.nil_append, List.length_cons, List.length_append, List.length_nil, Nat.zero_add] at cs cl ct ca
  have hh := h
  simp only [List.cons_append, List.nil_append] at hh
  refine round (its := [.blk 0 wb_law19_NetPlays_0]) (k0 := [.c c_law19_NetPlays_k0]) 300 trivial trivial (fun A eA => ?_)
  have hr : x.n < 0 ∨ (0 ≤ x.n ∧ (((l0.length + 1 : Nat) : Int) : Int) ≤ x.n) ∨ (0 ≤ x.n ∧ x.n < ((l0.length + 1 : Nat) : Int)) := by omega
  rcases hr with c0 | ⟨c0, c1⟩ | ⟨c0, c1⟩
  all_goals
    simp (disch := first | omega | (simp only [avs_len, List.length_cons, List.length_append, List.length_nil, List.length_take, List.length_drop, List.length_map]; omega) | (simp only [cells, scal1, allSz, List.length_cons, List.length_nil, List.length_append, List.length_map, List.all_cons, List.all_nil, avs_len, beq_self_eq_true, Bool.and_self, and_self, or_true, true_or, reduceCtorEq, *]; done) | fail) only [c_law19_NetPlays, wl_law19_NetPlays_0, s_law19_NetPlays_0, c_law19_NetPlays_l0, wb_law19_NetPlays_0, c_law19_NetPlays_k0, go_sem, Nat.reduceAdd, Nat.reduceSub, Nat.reduceMul, Nat.reduceLT, Nat.reduceLeDiff, Int.reduceToNat, Nat.reduceEqDiff, Nat.reduceBEq, ↓reduceIte, reduceCtorEq, eA, scal1, List.all_cons, List.all_nil, Bool.and_self, ↓optI_of g0, avs_len, em, c0, List.length_map]
    refine call2 300 trivial trivial [(0, 3)] rfl rfl ct (.inr ⟨rfl, rfl⟩) (fun A eA => ?_)
    simp (disch := first | omega | (simp only [avs_len, List.length_cons, List.length_append, List.length_nil, List.length_take, List.length_drop, List.length_map]; omega) | (simp only [cells, scal1, allSz, List.length_cons, List.length_nil, List.length_append, List.length_map, List.all_cons, List.all_nil, avs_len, beq_self_eq_true, Bool.and_self, and_self, or_true, true_or, reduceCtorEq, *]; done) | fail) only [c_law19_NetPlays, wl_law19_NetPlays_0, s_law19_NetPlays_0, c_law19_NetPlays_l0, wb_law19_NetPlays_0, c_law19_NetPlays_k0, go_sem, Nat.reduceAdd, Nat.reduceSub, Nat.reduceMul, Nat.reduceLT, Nat.reduceLeDiff, Int.reduceToNat, Nat.reduceEqDiff, Nat.reduceBEq, ↓reduceIte, reduceCtorEq, eA, scal1, List.all_cons, List.all_nil, Bool.and_self, catCells, ↓appK, allSz, beq_self_eq_true, hc0, hP0, hap, List.length_map]
    refine call2 300 trivial trivial [(0, 3)] rfl rfl ca (.inr ⟨rfl, by simp only [heapFree, pcs_free, Bool.and_self]; rfl⟩) (fun A eA => ?_)
    simp (disch := first | omega | (simp only [avs_len, List.length_cons, List.length_append, List.length_nil, List.length_take, List.length_drop, List.length_map]; omega) | (simp only [cells, scal1, allSz, List.length_cons, List.length_nil, List.length_append, List.length_map, List.all_cons, List.all_nil, avs_len, beq_self_eq_true, Bool.and_self, and_self, or_true, true_or, reduceCtorEq, *]; done) | fail) only [c_law19_NetPlays, wl_law19_NetPlays_0, s_law19_NetPlays_0, c_law19_NetPlays_l0, wb_law19_NetPlays_0, c_law19_NetPlays_k0, go_sem, Nat.reduceAdd, Nat.reduceSub, Nat.reduceMul, Nat.reduceLT, Nat.reduceLeDiff, Int.reduceToNat, Nat.reduceEqDiff, Nat.reduceBEq, ↓reduceIte, reduceCtorEq, eA, scal1, List.all_cons, List.all_nil, Bool.and_self, hT, hC, hP, ↓frz_pcs]
    refine call3 300 trivial trivial cs (fun A eA => ?_)
    simp (disch := first | omega | (simp only [avs_len, List.length_cons, List.length_append, List.length_nil, List.length_take, List.length_drop, List.length_map]; omega) | (simp only [cells, scal1, allSz, List.length_cons, List.length_nil, List.length_append, List.length_map, List.all_cons, List.all_nil, avs_len, beq_self_eq_true, Bool.and_self, and_self, or_true, true_or, reduceCtorEq, *]; done) | fail) only [c_law19_NetPlays, wl_law19_NetPlays_0, s_law19_NetPlays_0, c_law19_NetPlays_l0, wb_law19_NetPlays_0, c_law19_NetPlays_k0, go_sem, Nat.reduceAdd, Nat.reduceSub, Nat.reduceMul, Nat.reduceLT, Nat.reduceLeDiff, Int.reduceToNat, Nat.reduceEqDiff, Nat.reduceBEq, ↓reduceIte, reduceCtorEq, eA, scal1, List.all_cons, List.all_nil, Bool.and_self, hT, hC, hP, ↓frz_pcs]
    refine call2 300 trivial trivial [(0, 3)] rfl rfl (cl _) (.inr ⟨rfl, rfl⟩) (fun A eA => ?_)
    simp (disch := first | omega | (simp only [avs_len, List.length_cons, List.length_append, List.length_nil, List.length_take, List.length_drop, List.length_map]; omega) | (simp only [cells, scal1, allSz, List.length_cons, List.length_nil, List.length_append, List.length_map, List.all_cons, List.all_nil, avs_len, beq_self_eq_true, Bool.and_self, and_self, or_true, true_or, reduceCtorEq, *]; done) | fail) only [c_law19_NetPlays, wl_law19_NetPlays_0, s_law19_NetPlays_0, c_law19_NetPlays_l0, wb_law19_NetPlays_0, c_law19_NetPlays_k0, go_sem, Nat.reduceAdd, Nat.reduceSub, Nat.reduceMul, Nat.reduceLT, Nat.reduceLeDiff, Int.reduceToNat, Nat.reduceEqDiff, Nat.reduceBEq, ↓reduceIte, reduceCtorEq, eA, scal1, List.all_cons, List.all_nil, Bool.and_self, List.length_map, List.length_append, w1]
    exact hh _
end Go.Proofs.Ytmokhopjnjecbaa
/- The law NetPlays: a round of its loop, nothing is taken, nothing goes. Printed in part by a program of mine (netcases.py). -/
-- short
-- fuel 300
namespace Go.Proofs.Ytmokhopjnjecbaa
open Go.Ev
set_option linter.unusedVariables false
set_option linter.unusedSimpArgs false
set_option maxRecDepth 100000
set_option maxHeartbeats 3200000
theorem net_take_out0 (L pre post : List NAct) (x : NAct) (hL : L = pre ++ x :: post) (hb : x.p.b.length ≤ 500) (hk : x.k % 4 = 1) (l : List Prc) (ho : PrcsOk l) (hr : x.n < 0 ∨ (0 ≤ x.n ∧ (l.length : Int) ≤ x.n)) (he : l = []) (hLl : L.length ≤ 1000) (h : ∀ nx, NLoop L (pre.length + 1) l nx) (nx : Ctr) : NLoop L pre.length l nx := by
  have hlt : pre.length < L.length := by rw [hL]; simp
  have g0 : (L.map actv)[((pre.length : Nat) : Int).toNat]? = some (actv x) := by
    rw [Int.toNat_natCast, hL, List.getElem?_map, List.getElem?_append_right (Nat.le_refl _), Nat.sub_self]; rfl
  have w1 : IntKind.i64.wrap ((pre.length : Int) + 1) = ((pre.length + 1 : Nat) : Int) := by rw [wrap64 (by omega) (by omega)]; omega
  have em := kmod hk
  try simp only [Int.ofNat_zero, Int.ofNat_one] at em
  subst he
  refine round (its := [.blk 0 wb_law19_NetPlays_0]) (k0 := [.c c_law19_NetPlays_k0]) 300 trivial trivial (fun A eA => ?_)
  obtain ⟨nx1, ct⟩ := take_none [] x.n (by omega) (bump nx 6)
  obtain ⟨nx2, ca⟩ := all_nil (bump nx1 10)
  rcases hr with c0 | ⟨c0, c1⟩
  all_goals
    simp (disch := first | omega | (simp only [avs_len, List.length_cons, List.length_append, List.length_nil, List.length_take, List.length_drop, List.length_map]; omega) | (simp only [cells, scal1, allSz, List.length_cons, List.length_nil, List.length_append, List.length_map, List.all_cons, List.all_nil, avs_len, beq_self_eq_true, Bool.and_self, and_self, or_true, true_or, reduceCtorEq, *]; done) | fail) only [c_law19_NetPlays, wl_law19_NetPlays_0, s_law19_NetPlays_0, c_law19_NetPlays_l0, wb_law19_NetPlays_0, c_law19_NetPlays_k0, go_sem, Nat.reduceAdd, Nat.reduceSub, Nat.reduceMul, Nat.reduceLT, Nat.reduceLeDiff, Int.reduceToNat, Nat.reduceEqDiff, Nat.reduceBEq, ↓reduceIte, reduceCtorEq, eA, scal1, List.all_cons, List.all_nil, Bool.and_self, ↓optI_of g0, avs_len, em, c0, List.length_map]
    refine call2 300 trivial trivial [(0, 3)] rfl rfl ct (.inr ⟨rfl, rfl⟩) (fun A eA => ?_)
    simp (disch := first | omega | (simp only [avs_len, List.length_cons, List.length_append, List.length_nil, List.length_take, List.length_drop, List.length_map]; omega) | (simp only [cells, scal1, allSz, List.length_cons, List.length_nil, List.length_append, List.length_map, List.all_cons, List.all_nil, avs_len, beq_self_eq_true, Bool.and_self, and_self, or_true, true_or, reduceCtorEq, *]; done) | fail) only [c_law19_NetPlays, wl_law19_NetPlays_0, s_law19_NetPlays_0, c_law19_NetPlays_l0, wb_law19_NetPlays_0, c_law19_NetPlays_k0, go_sem, Nat.reduceAdd, Nat.reduceSub, Nat.reduceMul, Nat.reduceLT, Nat.reduceLeDiff, Int.reduceToNat, Nat.reduceEqDiff, Nat.reduceBEq, ↓reduceIte, reduceCtorEq, eA, scal1, List.all_cons, List.all_nil, Bool.and_self, c0, List.length_map]
    refine call2 300 trivial trivial [(0, 3)] rfl rfl ca (.inr ⟨rfl, rfl⟩) (fun A eA => ?_)
    simp (disch := first | omega | (simp only [avs_len, List.length_cons, List.length_append, List.length_nil, List.length_take, List.length_drop, List.length_map]; omega) | (simp only [cells, scal1, allSz, List.length_cons, List.length_nil, List.length_append, List.length_map, List.all_cons, List.all_nil, avs_len, beq_self_eq_true, Bool.and_self, and_self, or_true, true_or, reduceCtorEq, *]; done) | fail) only [c_law19_NetPlays, wl_law19_NetPlays_0, s_law19_NetPlays_0, c_law19_NetPlays_l0, wb_law19_NetPlays_0, c_law19_NetPlays_k0, go_sem, Nat.reduceAdd, Nat.reduceSub, Nat.reduceMul, Nat.reduceLT, Nat.reduceLeDiff, Int.reduceToNat, Nat.reduceEqDiff, Nat.reduceBEq, ↓reduceIte, reduceCtorEq, eA, scal1, List.all_cons, List.all_nil, Bool.and_self, c0, List.length_map]
    refine call3 300 trivial trivial same_nil (fun A eA => ?_)
    simp (disch := first | omega | (simp only [avs_len, List.length_cons, List.length_append, List.length_nil, List.length_take, List.length_drop, List.length_map]; omega) | (simp only [cells, scal1, allSz, List.length_cons, List.length_nil, List.length_append, List.length_map, List.all_cons, List.all_nil, avs_len, beq_self_eq_true, Bool.and_self, and_self, or_true, true_or, reduceCtorEq, *]; done) | fail) only [c_law19_NetPlays, wl_law19_NetPlays_0, s_law19_NetPlays_0, c_law19_NetPlays_l0, wb_law19_NetPlays_0, c_law19_NetPlays_k0, go_sem, Nat.reduceAdd, Nat.reduceSub, Nat.reduceMul, Nat.reduceLT, Nat.reduceLeDiff, Int.reduceToNat, Nat.reduceEqDiff, Nat.reduceBEq, ↓reduceIte, reduceCtorEq, eA, scal1, List.all_cons, List.all_nil, Bool.and_self, c0, List.length_map]
    refine call2 300 trivial trivial [(0, 3)] rfl rfl (len_h [] _) (.inr ⟨rfl, rfl⟩) (fun A eA => ?_)
    simp (disch := first | omega | (simp only [avs_len, List.length_cons, List.length_append, List.length_nil, List.length_take, List.length_drop, List.length_map]; omega) | (simp only [cells, scal1, allSz, List.length_cons, List.length_nil, List.length_append, List.length_map, List.all_cons, List.all_nil, avs_len, beq_self_eq_true, Bool.and_self, and_self, or_true, true_or, reduceCtorEq, *]; done) | fail) only [c_law19_NetPlays, wl_law19_NetPlays_0, s_law19_NetPlays_0, c_law19_NetPlays_l0, wb_law19_NetPlays_0, c_law19_NetPlays_k0, go_sem, Nat.reduceAdd, Nat.reduceSub, Nat.reduceMul, Nat.reduceLT, Nat.reduceLeDiff, Int.reduceToNat, Nat.reduceEqDiff, Nat.reduceBEq, ↓reduceIte, reduceCtorEq, eA, scal1, List.all_cons, List.all_nil, Bool.and_self, w1]
    exact h _
theorem net_take_out1 (L pre post : List NAct) (x : NAct) (hL : L = pre ++ x :: post) (hb : x.p.b.length ≤ 500) (hk : x.k % 4 = 1) (l : List Prc) (ho : PrcsOk l) (hr : x.n < 0 ∨ (0 ≤ x.n ∧ (l.length : Int) ≤ x.n)) (he : l ≠ []) (hLl : L.length ≤ 1000) (h : ∀ nx, NLoop L (pre.length + 1) l nx) (nx : Ctr) : NLoop L pre.length l nx := by
  have hlt : pre.length < L.length := by rw [hL]; simp
  have g0 : (L.map actv)[((pre.length : Nat) : Int).toNat]? = some (actv x) := by
    rw [Int.toNat_natCast, hL, List.getElem?_map, List.getElem?_append_right (Nat.le_refl _), Nat.sub_self]; rfl
  have w1 : IntKind.i64.wrap ((pre.length : Int) + 1) = ((pre.length + 1 : Nat) : Int) := by rw [wrap64 (by omega) (by omega)]; omega
  have em := kmod hk
  try simp only [Int.ofNat_zero, Int.ofNat_one] at em
  have hT : (pcs (l)).take ((l).length * 2) = pcs (l) := List.take_of_length_le (by rw [pcs_len]; omega)
  have hC := chunk_pcs (l)
  have hP := pcs_len (l)
  have cs := same_calls l (by have := ho.1; omega) (fun p hp => (ho.2 p hp).2)
  refine round (its := [.blk 0 wb_law19_NetPlays_0]) (k0 := [.c c_law19_NetPlays_k0]) 300 trivial trivial (fun A eA => ?_)
  obtain ⟨nx1, ct⟩ := take_none l x.n (by omega) (bump nx 6)
  obtain ⟨g, nx2, ca⟩ := all_some l (by have := ho.1; omega) (fun p hp => (ho.2 p hp).1) he (bump nx1 10)
  rcases hr with c0 | ⟨c0, c1⟩
  all_goals
    simp (disch := first | omega | (simp only [avs_len, List.length_cons, List.length_append, List.length_nil, List.length_take, List.length_drop, List.length_map]; omega) | (simp only [cells, scal1, allSz, List.length_cons, List.length_nil, List.length_append, List.length_map, List.all_cons, List.all_nil, avs_len, beq_self_eq_true, Bool.and_self, and_self, or_true, true_or, reduceCtorEq, *]; done) | fail) only [c_law19_NetPlays, wl_law19_NetPlays_0, s_law19_NetPlays_0, c_law19_NetPlays_l0, wb_law19_NetPlays_0, c_law19_NetPlays_k0, go_sem, Nat.reduceAdd, Nat.reduceSub, Nat.reduceMul, Nat.reduceLT, Nat.reduceLeDiff, Int.reduceToNat, Nat.reduceEqDiff, Nat.reduceBEq, ↓reduceIte, reduceCtorEq, eA, scal1, List.all_cons, List.all_nil, Bool.and_self, ↓optI_of g0, avs_len, em, c0, List.length_map]
    refine call2 300 trivial trivial [(0, 3)] rfl rfl ct (.inr ⟨rfl, rfl⟩) (fun A eA => ?_)
    simp (disch := first | omega | (simp only [avs_len, List.length_cons, List.length_append, List.length_nil, List.length_take, List.length_drop, List.length_map]; omega) | (simp only [cells, scal1, allSz, List.length_cons, List.length_nil, List.length_append, List.length_map, List.all_cons, List.all_nil, avs_len, beq_self_eq_true, Bool.and_self, and_self, or_true, true_or, reduceCtorEq, *]; done) | fail) only [c_law19_NetPlays, wl_law19_NetPlays_0, s_law19_NetPlays_0, c_law19_NetPlays_l0, wb_law19_NetPlays_0, c_law19_NetPlays_k0, go_sem, Nat.reduceAdd, Nat.reduceSub, Nat.reduceMul, Nat.reduceLT, Nat.reduceLeDiff, Int.reduceToNat, Nat.reduceEqDiff, Nat.reduceBEq, ↓reduceIte, reduceCtorEq, eA, scal1, List.all_cons, List.all_nil, Bool.and_self, c0, List.length_map]
    refine call2 300 trivial trivial [(0, 3)] rfl rfl ca (.inr ⟨rfl, by simp only [heapFree, pcs_free, Bool.and_self]; rfl⟩) (fun A eA => ?_)
    simp (disch := first | omega | (simp only [avs_len, List.length_cons, List.length_append, List.length_nil, List.length_take, List.length_drop, List.length_map]; omega) | (simp only [cells, scal1, allSz, List.length_cons, List.length_nil, List.length_append, List.length_map, List.all_cons, List.all_nil, avs_len, beq_self_eq_true, Bool.and_self, and_self, or_true, true_or, reduceCtorEq, *]; done) | fail) only [c_law19_NetPlays, wl_law19_NetPlays_0, s_law19_NetPlays_0, c_law19_NetPlays_l0, wb_law19_NetPlays_0, c_law19_NetPlays_k0, go_sem, Nat.reduceAdd, Nat.reduceSub, Nat.reduceMul, Nat.reduceLT, Nat.reduceLeDiff, Int.reduceToNat, Nat.reduceEqDiff, Nat.reduceBEq, ↓reduceIte, reduceCtorEq, eA, scal1, List.all_cons, List.all_nil, Bool.and_self, hT, hC, hP, ↓frz_pcs]
    refine call3 300 trivial trivial cs (fun A eA => ?_)
    simp (disch := first | omega | (simp only [avs_len, List.length_cons, List.length_append, List.length_nil, List.length_take, List.length_drop, List.length_map]; omega) | (simp only [cells, scal1, allSz, List.length_cons, List.length_nil, List.length_append, List.length_map, List.all_cons, List.all_nil, avs_len, beq_self_eq_true, Bool.and_self, and_self, or_true, true_or, reduceCtorEq, *]; done) | fail) only [c_law19_NetPlays, wl_law19_NetPlays_0, s_law19_NetPlays_0, c_law19_NetPlays_l0, wb_law19_NetPlays_0, c_law19_NetPlays_k0, go_sem, Nat.reduceAdd, Nat.reduceSub, Nat.reduceMul, Nat.reduceLT, Nat.reduceLeDiff, Int.reduceToNat, Nat.reduceEqDiff, Nat.reduceBEq, ↓reduceIte, reduceCtorEq, eA, scal1, List.all_cons, List.all_nil, Bool.and_self, hT, hC, hP, ↓frz_pcs]
    refine call2 300 trivial trivial [(0, 3)] rfl rfl (len_h l _) (.inr ⟨rfl, rfl⟩) (fun A eA => ?_)
    simp (disch := first | omega | (simp only [avs_len, List.length_cons, List.length_append, List.length_nil, List.length_take, List.length_drop, List.length_map]; omega) | (simp only [cells, scal1, allSz, List.length_cons, List.length_nil, List.length_append, List.length_map, List.all_cons, List.all_nil, avs_len, beq_self_eq_true, Bool.and_self, and_self, or_true, true_or, reduceCtorEq, *]; done) | fail) only [c_law19_NetPlays, wl_law19_NetPlays_0, s_law19_NetPlays_0, c_law19_NetPlays_l0, wb_law19_NetPlays_0, c_law19_NetPlays_k0, go_sem, Nat.reduceAdd, Nat.reduceSub, Nat.reduceMul, Nat.reduceLT, Nat.reduceLeDiff, Int.reduceToNat, Nat.reduceEqDiff, Nat.reduceBEq, ↓reduceIte, reduceCtorEq, eA, scal1, List.all_cons, List.all_nil, Bool.and_self, List.length_map, w1]
    exact h _
theorem net_double_out0 (L pre post : List NAct) (x : NAct) (hL : L = pre ++ x :: post) (hb : x.p.b.length ≤ 500) (hk : x.k % 4 = 2) (l : List Prc) (ho : PrcsOk l) (hr : x.n < 0 ∨ (0 ≤ x.n ∧ (l.length : Int) ≤ x.n)) (he : l = []) (hLl : L.length ≤ 1000) (h : ∀ nx, NLoop L (pre.length + 1) l nx) (nx : Ctr) : NLoop L pre.length l nx := by
  have hlt : pre.length < L.length := by rw [hL]; simp
  have g0 : (L.map actv)[((pre.length : Nat) : Int).toNat]? = some (actv x) := by
    rw [Int.toNat_natCast, hL, List.getElem?_map, List.getElem?_append_right (Nat.le_refl _), Nat.sub_self]; rfl
  have w1 : IntKind.i64.wrap ((pre.length : Int) + 1) = ((pre.length + 1 : Nat) : Int) := by rw [wrap64 (by omega) (by omega)]; omega
  have em := kmod hk
  try simp only [Int.ofNat_zero, Int.ofNat_one] at em
  subst he
  refine round (its := [.blk 0 wb_law19_NetPlays_0]) (k0 := [.c c_law19_NetPlays_k0]) 300 trivial trivial (fun A eA => ?_)
  obtain ⟨nx2, ca⟩ := all_nil (bump nx 6)
  rcases hr with c0 | ⟨c0, c1⟩
  all_goals
    simp (disch := first | omega | (simp only [avs_len, List.length_cons, List.length_append, List.length_nil, List.length_take, List.length_drop, List.length_map]; omega) | (simp only [cells, scal1, allSz, List.length_cons, List.length_nil, List.length_append, List.length_map, List.all_cons, List.all_nil, avs_len, beq_self_eq_true, Bool.and_self, and_self, or_true, true_or, reduceCtorEq, *]; done) | fail) only [c_law19_NetPlays, wl_law19_NetPlays_0, s_law19_NetPlays_0, c_law19_NetPlays_l0, wb_law19_NetPlays_0, c_law19_NetPlays_k0, go_sem, Nat.reduceAdd, Nat.reduceSub, Nat.reduceMul, Nat.reduceLT, Nat.reduceLeDiff, Int.reduceToNat, Nat.reduceEqDiff, Nat.reduceBEq, ↓reduceIte, reduceCtorEq, eA, scal1, List.all_cons, List.all_nil, Bool.and_self, ↓optI_of g0, avs_len, em, c0, List.length_map]
    refine call2 300 trivial trivial [(0, 3)] rfl rfl (double_none _ x.n (by omega) _) (.inr ⟨rfl, rfl⟩) (fun A eA => ?_)
    simp (disch := first | omega | (simp only [avs_len, List.length_cons, List.length_append, List.length_nil, List.length_take, List.length_drop, List.length_map]; omega) | (simp only [cells, scal1, allSz, List.length_cons, List.length_nil, List.length_append, List.length_map, List.all_cons, List.all_nil, avs_len, beq_self_eq_true, Bool.and_self, and_self, or_true, true_or, reduceCtorEq, *]; done) | fail) only [c_law19_NetPlays, wl_law19_NetPlays_0, s_law19_NetPlays_0, c_law19_NetPlays_l0, wb_law19_NetPlays_0, c_law19_NetPlays_k0, go_sem, Nat.reduceAdd, Nat.reduceSub, Nat.reduceMul, Nat.reduceLT, Nat.reduceLeDiff, Int.reduceToNat, Nat.reduceEqDiff, Nat.reduceBEq, ↓reduceIte, reduceCtorEq, eA, scal1, List.all_cons, List.all_nil, Bool.and_self, c0, List.length_map]
    refine call2 300 trivial trivial [(0, 3)] rfl rfl ca (.inr ⟨rfl, rfl⟩) (fun A eA => ?_)
    simp (disch := first | omega | (simp only [avs_len, List.length_cons, List.length_append, List.length_nil, List.length_take, List.length_drop, List.length_map]; omega) | (simp only [cells, scal1, allSz, List.length_cons, List.length_nil, List.length_append, List.length_map, List.all_cons, List.all_nil, avs_len, beq_self_eq_true, Bool.and_self, and_self, or_true, true_or, reduceCtorEq, *]; done) | fail) only [c_law19_NetPlays, wl_law19_NetPlays_0, s_law19_NetPlays_0, c_law19_NetPlays_l0, wb_law19_NetPlays_0, c_law19_NetPlays_k0, go_sem, Nat.reduceAdd, Nat.reduceSub, Nat.reduceMul, Nat.reduceLT, Nat.reduceLeDiff, Int.reduceToNat, Nat.reduceEqDiff, Nat.reduceBEq, ↓reduceIte, reduceCtorEq, eA, scal1, List.all_cons, List.all_nil, Bool.and_self, c0, List.length_map]
    refine call3 300 trivial trivial same_nil (fun A eA => ?_)
    simp (disch := first | omega | (simp only [avs_len, List.length_cons, List.length_append, List.length_nil, List.length_take, List.length_drop, List.length_map]; omega) | (simp only [cells, scal1, allSz, List.length_cons, List.length_nil, List.length_append, List.length_map, List.all_cons, List.all_nil, avs_len, beq_self_eq_true, Bool.and_self, and_self, or_true, true_or, reduceCtorEq, *]; done) | fail) only [c_law19_NetPlays, wl_law19_NetPlays_0, s_law19_NetPlays_0, c_law19_NetPlays_l0, wb_law19_NetPlays_0, c_law19_NetPlays_k0, go_sem, Nat.reduceAdd, Nat.reduceSub, Nat.reduceMul, Nat.reduceLT, Nat.reduceLeDiff, Int.reduceToNat, Nat.reduceEqDiff, Nat.reduceBEq, ↓reduceIte, reduceCtorEq, eA, scal1, List.all_cons, List.all_nil, Bool.and_self, c0, List.length_map]
    refine call2 300 trivial trivial [(0, 3)] rfl rfl (len_h [] _) (.inr ⟨rfl, rfl⟩) (fun A eA => ?_)
    simp (disch := first | omega | (simp only [avs_len, List.length_cons, List.length_append, List.length_nil, List.length_take, List.length_drop, List.length_map]; omega) | (simp only [cells, scal1, allSz, List.length_cons, List.length_nil, List.length_append, List.length_map, List.all_cons, List.all_nil, avs_len, beq_self_eq_true, Bool.and_self, and_self, or_true, true_or, reduceCtorEq, *]; done) | fail) only [c_law19_NetPlays, wl_law19_NetPlays_0, s_law19_NetPlays_0, c_law19_NetPlays_l0, wb_law19_NetPlays_0, c_law19_NetPlays_k0, go_sem, Nat.reduceAdd, Nat.reduceSub, Nat.reduceMul, Nat.reduceLT, Nat.reduceLeDiff, Int.reduceToNat, Nat.reduceEqDiff, Nat.reduceBEq, ↓reduceIte, reduceCtorEq, eA, scal1, List.all_cons, List.all_nil, Bool.and_self, w1]
    exact h _
theorem net_double_out1 (L pre post : List NAct) (x : NAct) (hL : L = pre ++ x :: post) (hb : x.p.b.length ≤ 500) (hk : x.k % 4 = 2) (l : List Prc) (ho : PrcsOk l) (hr : x.n < 0 ∨ (0 ≤ x.n ∧ (l.length : Int) ≤ x.n)) (he : l ≠ []) (hLl : L.length ≤ 1000) (h : ∀ nx, NLoop L (pre.length + 1) l nx) (nx : Ctr) : NLoop L pre.length l nx := by
  have hlt : pre.length < L.length := by rw [hL]; simp
  have g0 : (L.map actv)[((pre.length : Nat) : Int).toNat]? = some (actv x) := by
    rw [Int.toNat_natCast, hL, List.getElem?_map, List.getElem?_append_right (Nat.le_refl _), Nat.sub_self]; rfl
  have w1 : IntKind.i64.wrap ((pre.length : Int) + 1) = ((pre.length + 1 : Nat) : Int) := by rw [wrap64 (by omega) (by omega)]; omega
  have em := kmod hk
  try simp only [Int.ofNat_zero, Int.ofNat_one] at em
  have hT : (pcs (l)).take ((l).length * 2) = pcs (l) := List.take_of_length_le (by rw [pcs_len]; omega)
  have hC := chunk_pcs (l)
  have hP := pcs_len (l)
  have cs := same_calls l (by have := ho.1; omega) (fun p hp => (ho.2 p hp).2)
  refine round (its := [.blk 0 wb_law19_NetPlays_0]) (k0 := [.c c_law19_NetPlays_k0]) 300 trivial trivial (fun A eA => ?_)
  obtain ⟨g, nx2, ca⟩ := all_some l (by have := ho.1; omega) (fun p hp => (ho.2 p hp).1) he (bump nx 6)
  rcases hr with c0 | ⟨c0, c1⟩
  all_goals
    simp (disch := first | omega | (simp only [avs_len, List.length_cons, List.length_append, List.length_nil, List.length_take, List.length_drop, List.length_map]; omega) | (simp only [cells, scal1, allSz, List.length_cons, List.length_nil, List.length_append, List.length_map, List.all_cons, List.all_nil, avs_len, beq_self_eq_true, Bool.and_self, and_self, or_true, true_or, reduceCtorEq, *]; done) | fail) only [c_law19_NetPlays, wl_law19_NetPlays_0, s_law19_NetPlays_0, c_law19_NetPlays_l0, wb_law19_NetPlays_0, c_law19_NetPlays_k0, go_sem, Nat.reduceAdd, Nat.reduceSub, Nat.reduceMul, Nat.reduceLT, Nat.reduceLeDiff, Int.reduceToNat, Nat.reduceEqDiff, Nat.reduceBEq, ↓reduceIte, reduceCtorEq, eA, scal1, List.all_cons, List.all_nil, Bool.and_self, ↓optI_of g0, avs_len, em, c0, List.length_map]
    refine call2 300 trivial trivial [(0, 3)] rfl rfl (double_none _ x.n (by omega) _) (.inr ⟨rfl, rfl⟩) (fun A eA => ?_)
    simp (disch := first | omega | (simp only [avs_len, List.length_cons, List.length_append, List.length_nil, List.length_take, List.length_drop, List.length_map]; omega) | (simp only [cells, scal1, allSz, List.length_cons, List.length_nil, List.length_append, List.length_map, List.all_cons, List.all_nil, avs_len, beq_self_eq_true, Bool.and_self, and_self, or_true, true_or, reduceCtorEq, *]; done) | fail) only [c_law19_NetPlays, wl_law19_NetPlays_0, s_law19_NetPlays_0, c_law19_NetPlays_l0, wb_law19_NetPlays_0, c_law19_NetPlays_k0, go_sem, Nat.reduceAdd, Nat.reduceSub, Nat.reduceMul, Nat.reduceLT, Nat.reduceLeDiff, Int.reduceToNat, Nat.reduceEqDiff, Nat.reduceBEq, ↓reduceIte, reduceCtorEq, eA, scal1, List.all_cons, List.all_nil, Bool.and_self, c0, List.length_map]
    refine call2 300 trivial trivial [(0, 3)] rfl rfl ca (.inr ⟨rfl, by simp only [heapFree, pcs_free, Bool.and_self]; rfl⟩) (fun A eA => ?_)
    simp (disch := first | omega | (simp only [avs_len, List.length_cons, List.length_append, List.length_nil, List.length_take, List.length_drop, List.length_map]; omega) | (simp only [cells, scal1, allSz, List.length_cons, List.length_nil, List.length_append, List.length_map, List.all_cons, List.all_nil, avs_len, beq_self_eq_true, Bool.and_self, and_self, or_true, true_or, reduceCtorEq, *]; done) | fail) only [c_law19_NetPlays, wl_law19_NetPlays_0, s_law19_NetPlays_0, c_law19_NetPlays_l0, wb_law19_NetPlays_0, c_law19_NetPlays_k0, go_sem, Nat.reduceAdd, Nat.reduceSub, Nat.reduceMul, Nat.reduceLT, Nat.reduceLeDiff, Int.reduceToNat, Nat.reduceEqDiff, Nat.reduceBEq, ↓reduceIte, reduceCtorEq, eA, scal1, List.all_cons, List.all_nil, Bool.and_self, hT, hC, hP, ↓frz_pcs]
    refine call3 300 trivial trivial cs (fun A eA => ?_)
    simp (disch := first | omega | (simp only [avs_len, List.length_cons, List.length_append, List.length_nil, List.length_take, List.length_drop, List.length_map]; omega) | (simp only [cells, scal1, allSz, List.length_cons, List.length_nil, List.length_append, List.length_map, List.all_cons, List.all_nil, avs_len, beq_self_eq_true, Bool.and_self, and_self, or_true, true_or, reduceCtorEq, *]; done) | fail) only [c_law19_NetPlays, wl_law19_NetPlays_0, s_law19_NetPlays_0, c_law19_NetPlays_l0, wb_law19_NetPlays_0, c_law19_NetPlays_k0, go_sem, Nat.reduceAdd, Nat.reduceSub, Nat.reduceMul, Nat.reduceLT, Nat.reduceLeDiff, Int.reduceToNat, Nat.reduceEqDiff, Nat.reduceBEq, ↓reduceIte, reduceCtorEq, eA, scal1, List.all_cons, List.all_nil, Bool.and_self, hT, hC, hP, ↓frz_pcs]
    refine call2 300 trivial trivial [(0, 3)] rfl rfl (len_h l _) (.inr ⟨rfl, rfl⟩) (fun A eA => ?_)
    simp (disch := first | omega | (simp only [avs_len, List.length_cons, List.length_append, List.length_nil, List.length_take, List.length_drop, List.length_map]; omega) | (simp only [cells, scal1, allSz, List.length_cons, List.length_nil, List.length_append, List.length_map, List.all_cons, List.all_nil, avs_len, beq_self_eq_true, Bool.and_self, and_self, or_true, true_or, reduceCtorEq, *]; done) | fail) only [c_law19_NetPlays, wl_law19_NetPlays_0, s_law19_NetPlays_0, c_law19_NetPlays_l0, wb_law19_NetPlays_0, c_law19_NetPlays_k0, go_sem, Nat.reduceAdd, Nat.reduceSub, Nat.reduceMul, Nat.reduceLT, Nat.reduceLeDiff, Int.reduceToNat, Nat.reduceEqDiff, Nat.reduceBEq, ↓reduceIte, reduceCtorEq, eA, scal1, List.all_cons, List.all_nil, Bool.and_self, List.length_map, w1]
    exact h _
theorem net_spoil_out0 (L pre post : List NAct) (x : NAct) (hL : L = pre ++ x :: post) (hb : x.p.b.length ≤ 500) (hk : x.k % 4 = 3) (l : List Prc) (ho : PrcsOk l) (hr : x.n < 0 ∨ (0 ≤ x.n ∧ (l.length : Int) ≤ x.n)) (he : l = []) (hLl : L.length ≤ 1000) (h : ∀ nx, NLoop L (pre.length + 1) l nx) (nx : Ctr) : NLoop L pre.length l nx := by
  have hlt : pre.length < L.length := by rw [hL]; simp
  have g0 : (L.map actv)[((pre.length : Nat) : Int).toNat]? = some (actv x) := by
    rw [Int.toNat_natCast, hL, List.getElem?_map, List.getElem?_append_right (Nat.le_refl _), Nat.sub_self]; rfl
  have w1 : IntKind.i64.wrap ((pre.length : Int) + 1) = ((pre.length + 1 : Nat) : Int) := by rw [wrap64 (by omega) (by omega)]; omega
  have em := kmod hk
  try simp only [Int.ofNat_zero, Int.ofNat_one] at em
  subst he
  refine round (its := [.blk 0 wb_law19_NetPlays_0]) (k0 := [.c c_law19_NetPlays_k0]) 300 trivial trivial (fun A eA => ?_)
  obtain ⟨nx2, ca⟩ := all_nil (bump nx 6)
  rcases hr with c0 | ⟨c0, c1⟩
  all_goals
    simp (disch := first | omega | (simp only [avs_len, List.length_cons, List.length_append, List.length_nil, List.length_take, List.length_drop, List.length_map]; omega) | (simp only [cells, scal1, allSz, List.length_cons, List.length_nil, List.length_append, List.length_map, List.all_cons, List.all_nil, avs_len, beq_self_eq_true, Bool.and_self, and_self, or_true, true_or, reduceCtorEq, *]; done) | fail) only [c_law19_NetPlays, wl_law19_NetPlays_0, s_law19_NetPlays_0, c_law19_NetPlays_l0, wb_law19_NetPlays_0, c_law19_NetPlays_k0, go_sem, Nat.reduceAdd, Nat.reduceSub, Nat.reduceMul, Nat.reduceLT, Nat.reduceLeDiff, Int.reduceToNat, Nat.reduceEqDiff, Nat.reduceBEq, ↓reduceIte, reduceCtorEq, eA, scal1, List.all_cons, List.all_nil, Bool.and_self, ↓optI_of g0, avs_len, em, c0, List.length_map]
    refine call2 300 trivial trivial [(0, 3)] rfl rfl (spoil_none _ x.n x.a x.v (by omega) _) (.inr ⟨rfl, rfl⟩) (fun A eA => ?_)
    simp (disch := first | omega | (simp only [avs_len, List.length_cons, List.length_append, List.length_nil, List.length_take, List.length_drop, List.length_map]; omega) | (simp only [cells, scal1, allSz, List.length_cons, List.length_nil, List.length_append, List.length_map, List.all_cons, List.all_nil, avs_len, beq_self_eq_true, Bool.and_self, and_self, or_true, true_or, reduceCtorEq, *]; done) | fail) only [c_law19_NetPlays, wl_law19_NetPlays_0, s_law19_NetPlays_0, c_law19_NetPlays_l0, wb_law19_NetPlays_0, c_law19_NetPlays_k0, go_sem, Nat.reduceAdd, Nat.reduceSub, Nat.reduceMul, Nat.reduceLT, Nat.reduceLeDiff, Int.reduceToNat, Nat.reduceEqDiff, Nat.reduceBEq, ↓reduceIte, reduceCtorEq, eA, scal1, List.all_cons, List.all_nil, Bool.and_self, c0, List.length_map]
    refine call2 300 trivial trivial [(0, 3)] rfl rfl ca (.inr ⟨rfl, rfl⟩) (fun A eA => ?_)
    simp (disch := first | omega | (simp only [avs_len, List.length_cons, List.length_append, List.length_nil, List.length_take, List.length_drop, List.length_map]; omega) | (simp only [cells, scal1, allSz, List.length_cons, List.length_nil, List.length_append, List.length_map, List.all_cons, List.all_nil, avs_len, beq_self_eq_true, Bool.and_self, and_self, or_true, true_or, reduceCtorEq, *]; done) | fail) only [c_law19_NetPlays, wl_law19_NetPlays_0, s_law19_NetPlays_0, c_law19_NetPlays_l0, wb_law19_NetPlays_0, c_law19_NetPlays_k0, go_sem, Nat.reduceAdd, Nat.reduceSub, Nat.reduceMul, Nat.reduceLT, Nat.reduceLeDiff, Int.reduceToNat, Nat.reduceEqDiff, Nat.reduceBEq, ↓reduceIte, reduceCtorEq, eA, scal1, List.all_cons, List.all_nil, Bool.and_self, c0, List.length_map]
    refine call3 300 trivial trivial same_nil (fun A eA => ?_)
    simp (disch := first | omega | (simp only [avs_len, List.length_cons, List.length_append, List.length_nil, List.length_take, List.length_drop, List.length_map]; omega) | (simp only [cells, scal1, allSz, List.length_cons, List.length_nil, List.length_append, List.length_map, List.all_cons, List.all_nil, avs_len, beq_self_eq_true, Bool.and_self, and_self, or_true, true_or, reduceCtorEq, *]; done) | fail) only [c_law19_NetPlays, wl_law19_NetPlays_0, s_law19_NetPlays_0, c_law19_NetPlays_l0, wb_law19_NetPlays_0, c_law19_NetPlays_k0, go_sem, Nat.reduceAdd, Nat.reduceSub, Nat.reduceMul, Nat.reduceLT, Nat.reduceLeDiff, Int.reduceToNat, Nat.reduceEqDiff, Nat.reduceBEq, ↓reduceIte, reduceCtorEq, eA, scal1, List.all_cons, List.all_nil, Bool.and_self, c0, List.length_map]
    refine call2 300 trivial trivial [(0, 3)] rfl rfl (len_h [] _) (.inr ⟨rfl, rfl⟩) (fun A eA => ?_)
    simp (disch := first | omega | (simp only [avs_len, List.length_cons, List.length_append, List.length_nil, List.length_take, List.length_drop, List.length_map]; omega) | (simp only [cells, scal1, allSz, List.length_cons, List.length_nil, List.length_append, List.length_map, List.all_cons, List.all_nil, avs_len, beq_self_eq_true, Bool.and_self, and_self, or_true, true_or, reduceCtorEq, *]; done) | fail) only [c_law19_NetPlays, wl_law19_NetPlays_0, s_law19_NetPlays_0, c_law19_NetPlays_l0, wb_law19_NetPlays_0, c_law19_NetPlays_k0, go_sem, Nat.reduceAdd, Nat.reduceSub, Nat.reduceMul, Nat.reduceLT, Nat.reduceLeDiff, Int.reduceToNat, Nat.reduceEqDiff, Nat.reduceBEq, ↓reduceIte, reduceCtorEq, eA, scal1, List.all_cons, List.all_nil, Bool.and_self, w1]
    exact h _
theorem net_spoil_out1 (L pre post : List NAct) (x : NAct) (hL : L = pre ++ x :: post) (hb : x.p.b.length ≤ 500) (hk : x.k % 4 = 3) (l : List Prc) (ho : PrcsOk l) (hr : x.n < 0 ∨ (0 ≤ x.n ∧ (l.length : Int) ≤ x.n)) (he : l ≠ []) (hLl : L.length ≤ 1000) (h : ∀ nx, NLoop L (pre.length + 1) l nx) (nx : Ctr) : NLoop L pre.length l nx := by
  have hlt : pre.length < L.length := by rw [hL]; simp
  have g0 : (L.map actv)[((pre.length : Nat) : Int).toNat]? = some (actv x) := by
    rw [Int.toNat_natCast, hL, List.getElem?_map, List.getElem?_append_right (Nat.le_refl _), Nat.sub_self]; rfl
  have w1 : IntKind.i64.wrap ((pre.length : Int) + 1) = ((pre.length + 1 : Nat) : Int) := by rw [wrap64 (by omega) (by omega)]; omega
  have em := kmod hk
  try simp only [Int.ofNat_zero, Int.ofNat_one] at em
  have hT : (pcs (l)).take ((l).length * 2) = pcs (l) := List.take_of_length_le (by rw [pcs_len]; omega)
  have hC := chunk_pcs (l)
  have hP := pcs_len (l)
  have cs := same_calls l (by have := ho.1; omega) (fun p hp => (ho.2 p hp).2)
  refine round (its := [.blk 0 wb_law19_NetPlays_0]) (k0 := [.c c_law19_NetPlays_k0]) 300 trivial trivial (fun A eA => ?_)
  obtain ⟨g, nx2, ca⟩ := all_some l (by have := ho.1; omega) (fun p hp => (ho.2 p hp).1) he (bump nx 6)
  rcases hr with c0 | ⟨c0, c1⟩
  all_goals
    simp (disch := first | omega | (simp only [avs_len, List.length_cons, List.length_append, List.length_nil, List.length_take, List.length_drop, List.length_map]; omega) | (simp only [cells, scal1, allSz, List.length_cons, List.length_nil, List.length_append, List.length_map, List.all_cons, List.all_nil, avs_len, beq_self_eq_true, Bool.and_self, and_self, or_true, true_or, reduceCtorEq, *]; done) | fail) only [c_law19_NetPlays, wl_law19_NetPlays_0, s_law19_NetPlays_0, c_law19_NetPlays_l0, wb_law19_NetPlays_0, c_law19_NetPlays_k0, go_sem, Nat.reduceAdd, Nat.reduceSub, Nat.reduceMul, Nat.reduceLT, Nat.reduceLeDiff, Int.reduceToNat, Nat.reduceEqDiff, Nat.reduceBEq, ↓reduceIte, reduceCtorEq, eA, scal1, List.all_cons, List.all_nil, Bool.and_self, ↓optI_of g0, avs_len, em, c0, List.length_map]
    refine call2 300 trivial trivial [(0, 3)] rfl rfl (spoil_none _ x.n x.a x.v (by omega) _) (.inr ⟨rfl, rfl⟩) (fun A eA => ?_)
    simp (disch := first | omega | (simp only [avs_len, List.length_cons, List.length_append, List.length_nil, List.length_take, List.length_drop, List.length_map]; omega) | (simp only [cells, scal1, allSz, List.length_cons, List.length_nil, List.length_append, List.length_map, List.all_cons, List.all_nil, avs_len, beq_self_eq_true, Bool.and_self, and_self, or_true, true_or, reduceCtorEq, *]; done) | fail) only [c_law19_NetPlays, wl_law19_NetPlays_0, s_law19_NetPlays_0, c_law19_NetPlays_l0, wb_law19_NetPlays_0, c_law19_NetPlays_k0, go_sem, Nat.reduceAdd, Nat.reduceSub, Nat.reduceMul, Nat.reduceLT, Nat.reduceLeDiff, Int.reduceToNat, Nat.reduceEqDiff, Nat.reduceBEq, ↓reduceIte, reduceCtorEq, eA, scal1, List.all_cons, List.all_nil, Bool.and_self, c0, List.length_map]
    refine call2 300 trivial trivial [(0, 3)] rfl rfl ca (.inr ⟨rfl, by simp only [heapFree, pcs_free, Bool.and_self]; rfl⟩) (fun A eA => ?_)
    simp (disch := first | omega | (simp only [avs_len, List.length_cons, List.length_append, List.length_nil, List.length_take, List.length_drop, List.length_map]; omega) | (simp only [cells, scal1, allSz, List.length_cons, List.length_nil, List.length_append, List.length_map, List.all_cons, List.all_nil, avs_len, beq_self_eq_true, Bool.and_self, and_self, or_true, true_or, reduceCtorEq, *]; done) | fail) only [c_law19_NetPlays, wl_law19_NetPlays_0, s_law19_NetPlays_0, c_law19_NetPlays_l0, wb_law19_NetPlays_0, c_law19_NetPlays_k0, go_sem, Nat.reduceAdd, Nat.reduceSub, Nat.reduceMul, Nat.reduceLT, Nat.reduceLeDiff, Int.reduceToNat, Nat.reduceEqDiff, Nat.reduceBEq, ↓reduceIte, reduceCtorEq, eA, scal1, List.all_cons, List.all_nil, Bool.and_self, hT, hC, hP, ↓frz_pcs]
    refine call3 300 trivial trivial cs (fun A eA => ?_)
    simp (disch := first | omega | (simp only [avs_len, List.length_cons, List.length_append, List.length_nil, List.length_take, List.length_drop, List.length_map]; omega) | (simp only [cells, scal1, allSz, List.length_cons, List.length_nil, List.length_append, List.length_map, List.all_cons, List.all_nil, avs_len, beq_self_eq_true, Bool.and_self, and_self, or_true, true_or, reduceCtorEq, *]; done) | fail) only [c_law19_NetPlays, wl_law19_NetPlays_0, s_law19_NetPlays_0, c_law19_NetPlays_l0, wb_law19_NetPlays_0, c_law19_NetPlays_k0, go_sem, Nat.reduceAdd, Nat.reduceSub, Nat.reduceMul, Nat.reduceLT, Nat.reduceLeDiff, Int.reduceToNat, Nat.reduceEqDiff, Nat.reduceBEq, ↓reduceIte, reduceCtorEq, eA, scal1, List.all_cons, List.all_nil, Bool.and_self, hT, hC, hP, ↓frz_pcs]
    refine call2 300 trivial trivial [(0, 3)] rfl rfl (len_h l _) (.inr ⟨rfl, rfl⟩) (fun A eA => ?_)
    simp (disch := first | omega | (simp only [avs_len, List.length_cons, List.length_append, List.length_nil, List.length_take, List.length_drop, List.length_map]; omega) | (simp only [cells, scal1, allSz, List.length_cons, List.length_nil, List.length_append, List.length_map, List.all_cons, List.all_nil, avs_len, beq_self_eq_true, Bool.and_self, and_self, or_true, true_or, reduceCtorEq, *]; done) | fail) only [c_law19_NetPlays, wl_law19_NetPlays_0, s_law19_NetPlays_0, c_law19_NetPlays_l0, wb_law19_NetPlays_0, c_law19_NetPlays_k0, go_sem, Nat.reduceAdd, Nat.reduceSub, Nat.reduceMul, Nat.reduceLT, Nat.reduceLeDiff, Int.reduceToNat, Nat.reduceEqDiff, Nat.reduceBEq, ↓reduceIte, reduceCtorEq, eA, scal1, List.all_cons, List.all_nil, Bool.and_self, List.length_map, w1]
    exact h _
end Go.Proofs.Ytmokhopjnjecbaa
/- The law NetPlays: a round of its loop, something is taken. Printed by a program of mine (netcases.py). -/
-- short
-- fuel 300
namespace Go.Proofs.Ytmokhopjnjecbaa
open Go.Ev
set_option linter.unusedVariables false
set_option linter.unusedSimpArgs false
set_option maxRecDepth 100000
set_option maxHeartbeats 3200000
theorem net_take_a (L pre post : List NAct) (k : Nat) (a : Int) (v : Nat) (p : Prc) (A0 B0 : List Prc) (q : Prc) (hA : A0 = []) (hB : B0 = []) (hL : L = pre ++ ⟨k, (A0.length : Nat), a, v, p⟩ :: post) (hx : NActOk ⟨k, (A0.length : Nat), a, v, p⟩) (hb : p.b.length ≤ 500) (hk : k % 4 = 1) (ho : PrcsOk (A0 ++ q :: B0)) (hLl : L.length ≤ 1000) (h : ∀ nx, NLoop L (pre.length + 1) ([]) nx) (nx : Ctr) : NLoop L pre.length (A0 ++ q :: B0) nx := by
  have hlt : pre.length < L.length := by rw [hL]; simp
  have g0 : (L.map actv)[((pre.length : Nat) : Int).toNat]? = some (actv ⟨k, (A0.length : Nat), a, v, p⟩) := by
    rw [Int.toNat_natCast, hL, List.getElem?_map, List.getElem?_append_right (Nat.le_refl _), Nat.sub_self]; rfl
  have w1 : IntKind.i64.wrap ((pre.length : Int) + 1) = ((pre.length + 1 : Nat) : Int) := by rw [wrap64 (by omega) (by omega)]; omega
  have em := kmod hk
  try simp only [Int.ofNat_zero, Int.ofNat_one] at em
  have ho1 := ho.1
  simp only [List.length_append, List.length_cons, List.length_nil] at ho1
  have hqm : q ∈ A0 ++ q :: B0 := by simp
  have hq := ho.2 q hqm
  have hlN : (A0 ++ q :: B0).length = A0.length + (B0.length + 1) := by simp
  have hAB : A0 ++ B0 = [] := by rw [hA, hB]; rfl
  have k0 : ¬ ((A0.length : Nat) : Int) < 0 := by omega
  have k1 : ((A0.length : Nat) : Int) < ((A0.length + (B0.length + 1) : Nat) : Int) := by omega
  have k2 : IntKind.i64.wrap (((A0.length : Nat) : Int) + 1) = ((A0.length + 1 : Nat) : Int) := by rw [wrap64 (by omega) (by omega)]; omega
  have hS : (((A0 ++ q :: B0).map pav).take (A0.length + 1)).drop A0.length = [pav q] := by simp [List.take_append, List.take_of_length_le, List.drop_append, List.drop_of_length_le, List.take_succ_cons]
  have hS1 : ((A0 ++ q :: B0).map pav).take A0.length = A0.map pav := by simp
  have hS2 : (((A0 ++ q :: B0).map pav).take (A0.length + (B0.length + 1))).drop (A0.length + 1) = B0.map pav := by
    rw [List.take_of_length_le (by simp), List.map_append, List.drop_append, List.drop_of_length_le (by simp)]; simp
  have cq : PCalls Try.prog F_law19_same [.fz 2 [pav q] (some 1), .fz 2 [pav q] none] (.bool true) := PCalls.arg [] (Wk1.cap 2 _ _) (same_calls [q] (by simp) (fun p hp => by rw [List.mem_singleton] at hp; subst hp; exact hq.2))
  obtain ⟨nx1, ct⟩ := take_ok A0 B0 q (by rw [hlN]; omega) hq.1 (bump nx 6)
  rw [hAB] at ct
  obtain ⟨nx2, ca⟩ := all_nil (bump nx1 10)
  have hcA := pcs_cat A0
  have hcB := pcs_cat B0
  have hABp := pcs_app A0 B0
  have hPA := pcs_len A0
  have hAz : (A0.length = 0) ↔ True := iff_of_true (by rw [hA]; rfl) trivial
  have hBz : (B0.length = 0) ↔ True := iff_of_true (by rw [hB]; rfl) trivial
  have hh := h
  refine round (its := [.blk 0 wb_law19_NetPlays_0]) (k0 := [.c c_law19_NetPlays_k0]) 300 trivial trivial (fun A eA => ?_)
  simp (disch := first | omega | (simp only [avs_len, List.length_cons, List.length_append, List.length_nil, List.length_take, List.length_drop, List.length_map]; omega) | (simp only [cells, scal1, allSz, List.length_cons, List.length_nil, List.length_append, List.length_map, List.all_cons, List.all_nil, avs_len, beq_self_eq_true, Bool.and_self, and_self, or_true, true_or, reduceCtorEq, *]; done) | fail) only [c_law19_NetPlays, wl_law19_NetPlays_0, s_law19_NetPlays_0, c_law19_NetPlays_l0, wb_law19_NetPlays_0, c_law19_NetPlays_k0, go_sem, Nat.reduceAdd, Nat.reduceSub, Nat.reduceMul, Nat.reduceLT, Nat.reduceLeDiff, Int.reduceToNat, Nat.reduceEqDiff, Nat.reduceBEq, ↓reduceIte, reduceCtorEq, eA, scal1, List.all_cons, List.all_nil, Bool.and_self, ↓optI_of g0, avs_len, em, k0, k1, List.length_map, List.length_append, List.length_cons, List.length_nil]
  refine call2 300 trivial trivial [(0, 3)] rfl rfl ct (.inr ⟨rfl, rfl⟩) (fun A eA => ?_)
  simp (disch := first | omega | (simp only [avs_len, List.length_cons, List.length_append, List.length_nil, List.length_take, List.length_drop, List.length_map]; omega) | (simp only [cells, scal1, allSz, List.length_cons, List.length_nil, List.length_append, List.length_map, List.all_cons, List.all_nil, avs_len, beq_self_eq_true, Bool.and_self, and_self, or_true, true_or, reduceCtorEq, *]; done) | fail) only [c_law19_NetPlays, wl_law19_NetPlays_0, s_law19_NetPlays_0, c_law19_NetPlays_l0, wb_law19_NetPlays_0, c_law19_NetPlays_k0, go_sem, Nat.reduceAdd, Nat.reduceSub, Nat.reduceMul, Nat.reduceLT, Nat.reduceLeDiff, Int.reduceToNat, Nat.reduceEqDiff, Nat.reduceBEq, ↓reduceIte, reduceCtorEq, eA, scal1, List.all_cons, List.all_nil, Bool.and_self, k0, k1, k2, List.length_map, List.length_append, List.length_cons, List.length_nil, Int.toNat_natCast, hS, hS1, hS2]
  refine call3 300 trivial trivial cq (fun A eA => ?_)
  simp (disch := first | omega | (simp only [avs_len, List.length_cons, List.length_append, List.length_nil, List.length_take, List.length_drop, List.length_map]; omega) | (simp only [cells, scal1, allSz, List.length_cons, List.length_nil, List.length_append, List.length_map, List.all_cons, List.all_nil, avs_len, beq_self_eq_true, Bool.and_self, and_self, or_true, true_or, reduceCtorEq, *]; done) | fail) only [c_law19_NetPlays, wl_law19_NetPlays_0, s_law19_NetPlays_0, c_law19_NetPlays_l0, wb_law19_NetPlays_0, c_law19_NetPlays_k0, go_sem, Nat.reduceAdd, Nat.reduceSub, Nat.reduceMul, Nat.reduceLT, Nat.reduceLeDiff, Int.reduceToNat, Nat.reduceEqDiff, Nat.reduceBEq, ↓reduceIte, reduceCtorEq, eA, scal1, List.all_cons, List.all_nil, Bool.and_self, k0, k1, k2, List.length_map, List.length_append, List.length_cons, List.length_nil, Int.toNat_natCast, hS1, hS2, catCells, ↓appK, allSz, beq_self_eq_true, hcA, hcB, hABp, hPA, hAz, hBz]
  refine call2 300 trivial trivial [(0, 3)] rfl rfl ca (.inr ⟨rfl, rfl⟩) (fun A eA => ?_)
  simp (disch := first | omega | (simp only [avs_len, List.length_cons, List.length_append, List.length_nil, List.length_take, List.length_drop, List.length_map]; omega) | (simp only [cells, scal1, allSz, List.length_cons, List.length_nil, List.length_append, List.length_map, List.all_cons, List.all_nil, avs_len, beq_self_eq_true, Bool.and_self, and_self, or_true, true_or, reduceCtorEq, *]; done) | fail) only [c_law19_NetPlays, wl_law19_NetPlays_0, s_law19_NetPlays_0, c_law19_NetPlays_l0, wb_law19_NetPlays_0, c_law19_NetPlays_k0, go_sem, Nat.reduceAdd, Nat.reduceSub, Nat.reduceMul, Nat.reduceLT, Nat.reduceLeDiff, Int.reduceToNat, Nat.reduceEqDiff, Nat.reduceBEq, ↓reduceIte, reduceCtorEq, eA, scal1, List.all_cons, List.all_nil, Bool.and_self]
  refine call3 300 trivial trivial (PCalls.arg [.nils] (Wk1.cap 2 _ _) same_nil) (fun A eA => ?_)
  simp (disch := first | omega | (simp only [avs_len, List.length_cons, List.length_append, List.length_nil, List.length_take, List.length_drop, List.length_map]; omega) | (simp only [cells, scal1, allSz, List.length_cons, List.length_nil, List.length_append, List.length_map, List.all_cons, List.all_nil, avs_len, beq_self_eq_true, Bool.and_self, and_self, or_true, true_or, reduceCtorEq, *]; done) | fail) only [c_law19_NetPlays, wl_law19_NetPlays_0, s_law19_NetPlays_0, c_law19_NetPlays_l0, wb_law19_NetPlays_0, c_law19_NetPlays_k0, go_sem, Nat.reduceAdd, Nat.reduceSub, Nat.reduceMul, Nat.reduceLT, Nat.reduceLeDiff, Int.reduceToNat, Nat.reduceEqDiff, Nat.reduceBEq, ↓reduceIte, reduceCtorEq, eA, scal1, List.all_cons, List.all_nil, Bool.and_self]
  refine call2 300 trivial trivial [(0, 3)] rfl rfl (len_h [] _) (.inr ⟨rfl, rfl⟩) (fun A eA => ?_)
  simp (disch := first | omega | (simp only [avs_len, List.length_cons, List.length_append, List.length_nil, List.length_take, List.length_drop, List.length_map]; omega) | (simp only [cells, scal1, allSz, List.length_cons, List.length_nil, List.length_append, List.length_map, List.all_cons, List.all_nil, avs_len, beq_self_eq_true, Bool.and_self, and_self, or_true, true_or, reduceCtorEq, *]; done) | fail) only [c_law19_NetPlays, wl_law19_NetPlays_0, s_law19_NetPlays_0, c_law19_NetPlays_l0, wb_law19_NetPlays_0, c_law19_NetPlays_k0, go_sem, Nat.reduceAdd, Nat.reduceSub, Nat.reduceMul, Nat.reduceLT, Nat.reduceLeDiff, Int.reduceToNat, Nat.reduceEqDiff, Nat.reduceBEq, ↓reduceIte, reduceCtorEq, eA, scal1, List.all_cons, List.all_nil, Bool.and_self, w1]
  exact nloop_wk (Wk1.cap 2 [] _) (hh _)
theorem net_take_b (L pre post : List NAct) (k : Nat) (a : Int) (v : Nat) (p : Prc) (A0 B0 : List Prc) (q : Prc) (hA : A0 = []) (hB : B0 ≠ []) (hL : L = pre ++ ⟨k, (A0.length : Nat), a, v, p⟩ :: post) (hx : NActOk ⟨k, (A0.length : Nat), a, v, p⟩) (hb : p.b.length ≤ 500) (hk : k % 4 = 1) (ho : PrcsOk (A0 ++ q :: B0)) (hLl : L.length ≤ 1000) (h : ∀ nx, NLoop L (pre.length + 1) (B0) nx) (nx : Ctr) : NLoop L pre.length (A0 ++ q :: B0) nx := by
  have hlt : pre.length < L.length := by rw [hL]; simp
  have g0 : (L.map actv)[((pre.length : Nat) : Int).toNat]? = some (actv ⟨k, (A0.length : Nat), a, v, p⟩) := by
    rw [Int.toNat_natCast, hL, List.getElem?_map, List.getElem?_append_right (Nat.le_refl _), Nat.sub_self]; rfl
  have w1 : IntKind.i64.wrap ((pre.length : Int) + 1) = ((pre.length + 1 : Nat) : Int) := by rw [wrap64 (by omega) (by omega)]; omega
  have em := kmod hk
  try simp only [Int.ofNat_zero, Int.ofNat_one] at em
  have ho1 := ho.1
  simp only [List.length_append, List.length_cons, List.length_nil] at ho1
  have hqm : q ∈ A0 ++ q :: B0 := by simp
  have hq := ho.2 q hqm
  have hlN : (A0 ++ q :: B0).length = A0.length + (B0.length + 1) := by simp
  have hAB : A0 ++ B0 = B0 := by rw [hA]; rfl
  have hall : ∀ p ∈ B0, p.b.length ≤ 500 ∧ ∀ b ∈ p.b, b < 256 := fun p hp => ho.2 p (by rw [← hAB] at hp; rcases List.mem_append.1 hp with h | h <;> simp [h])
  have k0 : ¬ ((A0.length : Nat) : Int) < 0 := by omega
  have k1 : ((A0.length : Nat) : Int) < ((A0.length + (B0.length + 1) : Nat) : Int) := by omega
  have k2 : IntKind.i64.wrap (((A0.length : Nat) : Int) + 1) = ((A0.length + 1 : Nat) : Int) := by rw [wrap64 (by omega) (by omega)]; omega
  have hS : (((A0 ++ q :: B0).map pav).take (A0.length + 1)).drop A0.length = [pav q] := by simp [List.take_append, List.take_of_length_le, List.drop_append, List.drop_of_length_le, List.take_succ_cons]
  have hS1 : ((A0 ++ q :: B0).map pav).take A0.length = A0.map pav := by simp
  have hS2 : (((A0 ++ q :: B0).map pav).take (A0.length + (B0.length + 1))).drop (A0.length + 1) = B0.map pav := by
    rw [List.take_of_length_le (by simp), List.map_append, List.drop_append, List.drop_of_length_le (by simp)]; simp
  have cq : PCalls Try.prog F_law19_same [.fz 2 [pav q] (some 1), .fz 2 [pav q] none] (.bool true) := PCalls.arg [] (Wk1.cap 2 _ _) (same_calls [q] (by simp) (fun p hp => by rw [List.mem_singleton] at hp; subst hp; exact hq.2))
  obtain ⟨nx1, ct⟩ := take_ok A0 B0 q (by rw [hlN]; omega) hq.1 (bump nx 6)
  rw [hAB] at ct
  obtain ⟨g, nx2, ca⟩ := all_some B0 (by omega) (fun p hp => (hall p hp).1) hB (bump (bump nx1 10) 182)
  have cs := same_calls B0 (by omega) (fun p hp => (hall p hp).2)
  have cl := fun nx => len_h B0 nx
  have hT : (pcs B0).take (B0.length * 2) = pcs B0 := List.take_of_length_le (by rw [pcs_len]; omega)
  have hC := chunk_pcs B0
  have hP := pcs_len B0
  have hcA := pcs_cat A0
  have hcB := pcs_cat B0
  have hABp := pcs_app A0 B0
  have hPA := pcs_len A0
  have hAz : (A0.length = 0) ↔ True := iff_of_true (by rw [hA]; rfl) trivial
  have hBz : (B0.length = 0) ↔ False := iff_of_false (fun e => hB (List.eq_nil_of_length_eq_zero e)) id
  have hZp : 0 < B0.length := List.length_pos_iff.2 hB
  have hh := h
  refine round (its := [.blk 0 wb_law19_NetPlays_0]) (k0 := [.c c_law19_NetPlays_k0]) 300 trivial trivial (fun A eA => ?_)
  simp (disch := first | omega | (simp only [avs_len, List.length_cons, List.length_append, List.length_nil, List.length_take, List.length_drop, List.length_map]; omega) | (simp only [cells, scal1, allSz, List.length_cons, List.length_nil, List.length_append, List.length_map, List.all_cons, List.all_nil, avs_len, beq_self_eq_true, Bool.and_self, and_self, or_true, true_or, reduceCtorEq, *]; done) | fail) only [c_law19_NetPlays, wl_law19_NetPlays_0, s_law19_NetPlays_0, c_law19_NetPlays_l0, wb_law19_NetPlays_0, c_law19_NetPlays_k0, go_sem, Nat.reduceAdd, Nat.reduceSub, Nat.reduceMul, Nat.reduceLT, Nat.reduceLeDiff, Int.reduceToNat, Nat.reduceEqDiff, Nat.reduceBEq, ↓reduceIte, reduceCtorEq, eA, scal1, List.all_cons, List.all_nil, Bool.and_self, ↓optI_of g0, avs_len, em, k0, k1, List.length_map, List.length_append, List.length_cons, List.length_nil]
  refine call2 300 trivial trivial [(0, 3)] rfl rfl ct (.inr ⟨rfl, rfl⟩) (fun A eA => ?_)
  simp (disch := first | omega | (simp only [avs_len, List.length_cons, List.length_append, List.length_nil, List.length_take, List.length_drop, List.length_map]; omega) | (simp only [cells, scal1, allSz, List.length_cons, List.length_nil, List.length_append, List.length_map, List.all_cons, List.all_nil, avs_len, beq_self_eq_true, Bool.and_self, and_self, or_true, true_or, reduceCtorEq, *]; done) | fail) only [c_law19_NetPlays, wl_law19_NetPlays_0, s_law19_NetPlays_0, c_law19_NetPlays_l0, wb_law19_NetPlays_0, c_law19_NetPlays_k0, go_sem, Nat.reduceAdd, Nat.reduceSub, Nat.reduceMul, Nat.reduceLT, Nat.reduceLeDiff, Int.reduceToNat, Nat.reduceEqDiff, Nat.reduceBEq, ↓reduceIte, reduceCtorEq, eA, scal1, List.all_cons, List.all_nil, Bool.and_self, k0, k1, k2, List.length_map, List.length_append, List.length_cons, List.length_nil, Int.toNat_natCast, hS, hS1, hS2]
  refine call3 300 trivial trivial cq (fun A eA => ?_)
  simp (disch := first | omega | (simp only [avs_len, List.length_cons, List.length_append, List.length_nil, List.length_take, List.length_drop, List.length_map]; omega) | (simp only [cells, scal1, allSz, List.length_cons, List.length_nil, List.length_append, List.length_map, List.all_cons, List.all_nil, avs_len, beq_self_eq_true, Bool.and_self, and_self, or_true, true_or, reduceCtorEq, *]; done) | fail) only [c_law19_NetPlays, wl_law19_NetPlays_0, s_law19_NetPlays_0, c_law19_NetPlays_l0, wb_law19_NetPlays_0, c_law19_NetPlays_k0, go_sem, Nat.reduceAdd, Nat.reduceSub, Nat.reduceMul, Nat.reduceLT, Nat.reduceLeDiff, Int.reduceToNat, Nat.reduceEqDiff, Nat.reduceBEq, ↓reduceIte, reduceCtorEq, eA, scal1, List.all_cons, List.all_nil, Bool.and_self, k0, k1, k2, List.length_map, List.length_append, List.length_cons, List.length_nil, Int.toNat_natCast, hS1, hS2, catCells, ↓appK, allSz, beq_self_eq_true, hcA, hcB, hABp, hPA, hAz, hBz]
  refine call2 300 trivial trivial [(0, 3)] rfl rfl ca (.inr ⟨rfl, by simp only [heapFree, pcs_free, Bool.and_self]; rfl⟩) (fun A eA => ?_)
  simp (disch := first | omega | (simp only [avs_len, List.length_cons, List.length_append, List.length_nil, List.length_take, List.length_drop, List.length_map]; omega) | (simp only [cells, scal1, allSz, List.length_cons, List.length_nil, List.length_append, List.length_map, List.all_cons, List.all_nil, avs_len, beq_self_eq_true, Bool.and_self, and_self, or_true, true_or, reduceCtorEq, *]; done) | fail) only [c_law19_NetPlays, wl_law19_NetPlays_0, s_law19_NetPlays_0, c_law19_NetPlays_l0, wb_law19_NetPlays_0, c_law19_NetPlays_k0, go_sem, Nat.reduceAdd, Nat.reduceSub, Nat.reduceMul, Nat.reduceLT, Nat.reduceLeDiff, Int.reduceToNat, Nat.reduceEqDiff, Nat.reduceBEq, ↓reduceIte, reduceCtorEq, eA, scal1, List.all_cons, List.all_nil, Bool.and_self, hT, hC, hP, ↓frz_pcs]
  refine call3 300 trivial trivial cs (fun A eA => ?_)
  simp (disch := first | omega | (simp only [avs_len, List.length_cons, List.length_append, List.length_nil, List.length_take, List.length_drop, List.length_map]; omega) | (simp only [cells, scal1, allSz, List.length_cons, List.length_nil, List.length_append, List.length_map, List.all_cons, List.all_nil, avs_len, beq_self_eq_true, Bool.and_self, and_self, or_true, true_or, reduceCtorEq, *]; done) | fail) only [c_law19_NetPlays, wl_law19_NetPlays_0, s_law19_NetPlays_0, c_law19_NetPlays_l0, wb_law19_NetPlays_0, c_law19_NetPlays_k0, go_sem, Nat.reduceAdd, Nat.reduceSub, Nat.reduceMul, Nat.reduceLT, Nat.reduceLeDiff, Int.reduceToNat, Nat.reduceEqDiff, Nat.reduceBEq, ↓reduceIte, reduceCtorEq, eA, scal1, List.all_cons, List.all_nil, Bool.and_self, hT, hC, hP, ↓frz_pcs]
  refine call2 300 trivial trivial [(0, 3)] rfl rfl (cl _) (.inr ⟨rfl, rfl⟩) (fun A eA => ?_)
  simp (disch := first | omega | (simp only [avs_len, List.length_cons, List.length_append, List.length_nil, List.length_take, List.length_drop, List.length_map]; omega) | (simp only [cells, scal1, allSz, List.length_cons, List.length_nil, List.length_append, List.length_map, List.all_cons, List.all_nil, avs_len, beq_self_eq_true, Bool.and_self, and_self, or_true, true_or, reduceCtorEq, *]; done) | fail) only [c_law19_NetPlays, wl_law19_NetPlays_0, s_law19_NetPlays_0, c_law19_NetPlays_l0, wb_law19_NetPlays_0, c_law19_NetPlays_k0, go_sem, Nat.reduceAdd, Nat.reduceSub, Nat.reduceMul, Nat.reduceLT, Nat.reduceLeDiff, Int.reduceToNat, Nat.reduceEqDiff, Nat.reduceBEq, ↓reduceIte, reduceCtorEq, eA, scal1, List.all_cons, List.all_nil, Bool.and_self, List.length_map, List.length_append, List.length_cons, List.length_nil, w1]
  exact hh _
theorem net_take_c (L pre post : List NAct) (k : Nat) (a : Int) (v : Nat) (p : Prc) (A0 B0 : List Prc) (q : Prc) (hA : A0 ≠ []) (hL : L = pre ++ ⟨k, (A0.length : Nat), a, v, p⟩ :: post) (hx : NActOk ⟨k, (A0.length : Nat), a, v, p⟩) (hb : p.b.length ≤ 500) (hk : k % 4 = 1) (ho : PrcsOk (A0 ++ q :: B0)) (hLl : L.length ≤ 1000) (h : ∀ nx, NLoop L (pre.length + 1) (A0 ++ B0) nx) (nx : Ctr) : NLoop L pre.length (A0 ++ q :: B0) nx := by
  have hlt : pre.length < L.length := by rw [hL]; simp
  have g0 : (L.map actv)[((pre.length : Nat) : Int).toNat]? = some (actv ⟨k, (A0.length : Nat), a, v, p⟩) := by
    rw [Int.toNat_natCast, hL, List.getElem?_map, List.getElem?_append_right (Nat.le_refl _), Nat.sub_self]; rfl
  have w1 : IntKind.i64.wrap ((pre.length : Int) + 1) = ((pre.length + 1 : Nat) : Int) := by rw [wrap64 (by omega) (by omega)]; omega
  have em := kmod hk
  try simp only [Int.ofNat_zero, Int.ofNat_one] at em
  have ho1 := ho.1
  simp only [List.length_append, List.length_cons, List.length_nil] at ho1
  have hqm : q ∈ A0 ++ q :: B0 := by simp
  have hq := ho.2 q hqm
  have hlN : (A0 ++ q :: B0).length = A0.length + (B0.length + 1) := by simp
  have hAB : A0 ++ B0 = A0 ++ B0 := by rfl
  have hall : ∀ p ∈ A0 ++ B0, p.b.length ≤ 500 ∧ ∀ b ∈ p.b, b < 256 := fun p hp => ho.2 p (by rw [← hAB] at hp; rcases List.mem_append.1 hp with h | h <;> simp [h])
  have k0 : ¬ ((A0.length : Nat) : Int) < 0 := by omega
  have k1 : ((A0.length : Nat) : Int) < ((A0.length + (B0.length + 1) : Nat) : Int) := by omega
  have k2 : IntKind.i64.wrap (((A0.length : Nat) : Int) + 1) = ((A0.length + 1 : Nat) : Int) := by rw [wrap64 (by omega) (by omega)]; omega
  have hS : (((A0 ++ q :: B0).map pav).take (A0.length + 1)).drop A0.length = [pav q] := by simp [List.take_append, List.take_of_length_le, List.drop_append, List.drop_of_length_le, List.take_succ_cons]
  have hS1 : ((A0 ++ q :: B0).map pav).take A0.length = A0.map pav := by simp
  have hS2 : (((A0 ++ q :: B0).map pav).take (A0.length + (B0.length + 1))).drop (A0.length + 1) = B0.map pav := by
    rw [List.take_of_length_le (by simp), List.map_append, List.drop_append, List.drop_of_length_le (by simp)]; simp
  have cq : PCalls Try.prog F_law19_same [.fz 2 [pav q] (some 1), .fz 2 [pav q] none] (.bool true) := PCalls.arg [] (Wk1.cap 2 _ _) (same_calls [q] (by simp) (fun p hp => by rw [List.mem_singleton] at hp; subst hp; exact hq.2))
  obtain ⟨nx1, ct⟩ := take_ok A0 B0 q (by rw [hlN]; omega) hq.1 (bump nx 6)
  rw [hAB] at ct
  obtain ⟨g, nx2, ca⟩ := all_some (A0 ++ B0) (by simp only [List.length_append]; omega) (fun p hp => (hall p hp).1) (by intro e; exact hA (List.append_eq_nil_iff.1 e).1) (bump (bump (bump nx1 10) 176) 176)
  have cs := same_calls (A0 ++ B0) (by simp only [List.length_append]; omega) (fun p hp => (hall p hp).2)
  have cl := fun nx => len_h (A0 ++ B0) nx
  have hT : (pcs ((A0 ++ B0))).take ((A0.length + B0.length) * 2) = pcs ((A0 ++ B0)) := List.take_of_length_le (by rw [pcs_len]; simp; try omega)
  have hC : chunk 2 (A0.length + B0.length) (pcs ((A0 ++ B0))) = ((A0 ++ B0)).map pav := by
    have := chunk_pcs ((A0 ++ B0)); rwa [show ((A0 ++ B0)).length = A0.length + B0.length by simp; try omega] at this
  have hP : (pcs ((A0 ++ B0))).length = (A0.length + B0.length) * 2 := by rw [pcs_len]; simp; try omega
  simp only [List.length_append] at ca cl
  have hcA := pcs_cat A0
  have hcB := pcs_cat B0
  have hABp := pcs_app A0 B0
  have hPA := pcs_len A0
  have hAz : (A0.length = 0) ↔ False := iff_of_false (fun e => hA (List.eq_nil_of_length_eq_zero e)) id
  have hZp : 0 < A0.length := List.length_pos_iff.2 hA
  have hh := h
  refine round (its := [.blk 0 wb_law19_NetPlays_0]) (k0 := [.c c_law19_NetPlays_k0]) 300 trivial trivial (fun A eA => ?_)
  simp (disch := first | omega | (simp only [avs_len, List.length_cons, List.length_append, List.length_nil, List.length_take, List.length_drop, List.length_map]; omega) | (simp only [cells, scal1, allSz, List.length_cons, List.length_nil, List.length_append, List.length_map, List.all_cons, List.all_nil, avs_len, beq_self_eq_true, Bool.and_self, and_self, or_true, true_or, reduceCtorEq, *]; done) | fail) only [c_law19_NetPlays, wl_law19_NetPlays_0, s_law19_NetPlays_0, c_law19_NetPlays_l0, wb_law19_NetPlays_0, c_law19_NetPlays_k0, go_sem, Nat.reduceAdd, Nat.reduceSub, Nat.reduceMul, Nat.reduceLT, Nat.reduceLeDiff, Int.reduceToNat, Nat.reduceEqDiff, Nat.reduceBEq, ↓reduceIte, reduceCtorEq, eA, scal1, List.all_cons, List.all_nil, Bool.and_self, ↓optI_of g0, avs_len, em, k0, k1, List.length_map, List.length_append, List.length_cons, List.length_nil]
  refine call2 300 trivial trivial [(0, 3)] rfl rfl ct (.inr ⟨rfl, rfl⟩) (fun A eA => ?_)
  simp (disch := first | omega | (simp only [avs_len, List.length_cons, List.length_append, List.length_nil, List.length_take, List.length_drop, List.length_map]; omega) | (simp only [cells, scal1, allSz, List.length_cons, List.length_nil, List.length_append, List.length_map, List.all_cons, List.all_nil, avs_len, beq_self_eq_true, Bool.and_self, and_self, or_true, true_or, reduceCtorEq, *]; done) | fail) only [c_law19_NetPlays, wl_law19_NetPlays_0, s_law19_NetPlays_0, c_law19_NetPlays_l0, wb_law19_NetPlays_0, c_law19_NetPlays_k0, go_sem, Nat.reduceAdd, Nat.reduceSub, Nat.reduceMul, Nat.reduceLT, Nat.reduceLeDiff, Int.reduceToNat, Nat.reduceEqDiff, Nat.reduceBEq, ↓reduceIte, reduceCtorEq, eA, scal1, List.all_cons, List.all_nil, Bool.and_self, k0, k1, k2, List.length_map, List.length_append, List.length_cons, List.length_nil, Int.toNat_natCast, hS, hS1, hS2]
  refine call3 300 trivial trivial cq (fun A eA => ?_)
  simp (disch := first | omega | (simp only [avs_len, List.length_cons, List.length_append, List.length_nil, List.length_take, List.length_drop, List.length_map]; omega) | (simp only [cells, scal1, allSz, List.length_cons, List.length_nil, List.length_append, List.length_map, List.all_cons, List.all_nil, avs_len, beq_self_eq_true, Bool.and_self, and_self, or_true, true_or, reduceCtorEq, *]; done) | fail) only [c_law19_NetPlays, wl_law19_NetPlays_0, s_law19_NetPlays_0, c_law19_NetPlays_l0, wb_law19_NetPlays_0, c_law19_NetPlays_k0, go_sem, Nat.reduceAdd, Nat.reduceSub, Nat.reduceMul, Nat.reduceLT, Nat.reduceLeDiff, Int.reduceToNat, Nat.reduceEqDiff, Nat.reduceBEq, ↓reduceIte, reduceCtorEq, eA, scal1, List.all_cons, List.all_nil, Bool.and_self, k0, k1, k2, List.length_map, List.length_append, List.length_cons, List.length_nil, Int.toNat_natCast, hS1, hS2, catCells, ↓appK, allSz, beq_self_eq_true, hcA, hcB, hABp, hPA, hAz]
  refine call2 300 trivial trivial [(0, 3)] rfl rfl ca (.inr ⟨rfl, by simp only [heapFree, pcs_free, Bool.and_self]; rfl⟩) (fun A eA => ?_)
  simp (disch := first | omega | (simp only [avs_len, List.length_cons, List.length_append, List.length_nil, List.length_take, List.length_drop, List.length_map]; omega) | (simp only [cells, scal1, allSz, List.length_cons, List.length_nil, List.length_append, List.length_map, List.all_cons, List.all_nil, avs_len, beq_self_eq_true, Bool.and_self, and_self, or_true, true_or, reduceCtorEq, *]; done) | fail) only [c_law19_NetPlays, wl_law19_NetPlays_0, s_law19_NetPlays_0, c_law19_NetPlays_l0, wb_law19_NetPlays_0, c_law19_NetPlays_k0, go_sem, Nat.reduceAdd, Nat.reduceSub, Nat.reduceMul, Nat.reduceLT, Nat.reduceLeDiff, Int.reduceToNat, Nat.reduceEqDiff, Nat.reduceBEq, ↓reduceIte, reduceCtorEq, eA, scal1, List.all_cons, List.all_nil, Bool.and_self, hT, hC, hP, ↓frz_pcs]
  refine call3 300 trivial trivial cs (fun A eA => ?_)
  simp (disch := first | omega | (simp only [avs_len, List.length_cons, List.length_append, List.length_nil, List.length_take, List.length_drop, List.length_map]; omega) | (simp only [cells, scal1, allSz, List.length_cons, List.length_nil, List.length_append, List.length_map, List.all_cons, List.all_nil, avs_len, beq_self_eq_true, Bool.and_self, and_self, or_true, true_or, reduceCtorEq, *]; done) | fail) only [c_law19_NetPlays, wl_law19_NetPlays_0, s_law19_NetPlays_0, c_law19_NetPlays_l0, wb_law19_NetPlays_0, c_law19_NetPlays_k0, go_sem, Nat.reduceAdd, Nat.reduceSub, Nat.reduceMul, Nat.reduceLT, Nat.reduceLeDiff, Int.reduceToNat, Nat.reduceEqDiff, Nat.reduceBEq, ↓reduceIte, reduceCtorEq, eA, scal1, List.all_cons, List.all_nil, Bool.and_self, hT, hC, hP, ↓frz_pcs]
  refine call2 300 trivial trivial [(0, 3)] rfl rfl (cl _) (.inr ⟨rfl, rfl⟩) (fun A eA => ?_)
  simp (disch := first | omega | (simp only [avs_len, List.length_cons, List.length_append, List.length_nil, List.length_take, List.length_drop, List.length_map]; omega) | (simp only [cells, scal1, allSz, List.length_cons, List.length_nil, List.length_append, List.length_map, List.all_cons, List.all_nil, avs_len, beq_self_eq_true, Bool.and_self, and_self, or_true, true_or, reduceCtorEq, *]; done) | fail) only [c_law19_NetPlays, wl_law19_NetPlays_0, s_law19_NetPlays_0, c_law19_NetPlays_l0, wb_law19_NetPlays_0, c_law19_NetPlays_k0, go_sem, Nat.reduceAdd, Nat.reduceSub, Nat.reduceMul, Nat.reduceLT, Nat.reduceLeDiff, Int.reduceToNat, Nat.reduceEqDiff, Nat.reduceBEq, ↓reduceIte, reduceCtorEq, eA, scal1, List.all_cons, List.all_nil, Bool.and_self, List.length_map, List.length_append, List.length_cons, List.length_nil, w1]
  exact hh _
end Go.Proofs.Ytmokhopjnjecbaa
